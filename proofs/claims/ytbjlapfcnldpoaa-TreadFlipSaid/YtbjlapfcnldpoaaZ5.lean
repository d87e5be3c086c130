/- Part 5 of 11 of this proof's own texts, joined in build order by a program. -/
import Derived.Test.YtbjlapfcnldpoaaZ4
import Derived.Test.YtbjlapfcnldpoaaZ1
/- Lists joined; the heap's state with its lists: shade, flip, end. No program in sight. -/
namespace Go.Proofs.Ytbjlapfcnldpoaa
set_option linter.unusedVariables false
set_option linter.unusedSimpArgs false
open Go.RowKit

def jn (L : Nat → Nat → List Nat) (c p q : Nat) : Nat → Nat → List Nat :=
  fun c2 l2 => if c2 = c then (if l2 = p then L c p ++ L c q else if l2 = q then [] else L c l2) else L c2 l2

theorem rl_join {cs W : List Nat} {L : Nat → Nat → List Nat} (h : RL cs W L) {c p q : Nat} (hc : c < 4) (hp : p < 4) (hq : q < 4) (hne : p ≠ q) :
    ∃ W', oJoin W (thead c p) (thead c q) = some W' ∧ RL cs W' (jn L c p q) ∧ (∀ X, Fr cs W W' X) ∧ (∀ c' v, IsC cs c' v → wat W' v = wat W v) := by
  have rp := h.ring c p hc hp
  have rq := h.ring c q hc hq
  have np := rp.node (thead c p) (by simp)
  have nq := rq.node (thead c q) (by simp)
  cases hL : L c q with
  | nil =>
    rw [hL] at rq
    have hl := ring_lone rq
    have e : jn L c p q = L := by
      funext c2 l2
      unfold jn
      by_cases ec : c2 = c
      · subst ec
        rw [if_pos rfl]
        by_cases e1 : l2 = p
        · subst e1; rw [if_pos rfl, hL, List.append_nil]
        · rw [if_neg e1]
          by_cases e2 : l2 = q
          · subst e2; rw [if_pos rfl, hL]
          · rw [if_neg e2]
      · rw [if_neg ec]
    refine ⟨W, ?_, by rw [e]; exact h, fun X => Fr.refl _ _ _, fun _ _ _ => rfl⟩
    unfold oJoin isPlace
    simp [np.2, nq.2, hl.2]
  | cons f M =>
    rw [hL] at rq
    have hd : ∀ u ∈ thead c p :: L c p, u ∉ thead c q :: f :: M := by
      intro u hu
      have := h.apart hc hp hc hq (fun e => hne e.2) u hu
      rwa [hL] at this
    obtain ⟨j1, j2⟩ := ring_join rp rq hd
    have e1 : wat W (thead c q + 2) = f := rq.path.1.1
    have e2 : wat W (thead c q + 1) = lastOf f M := ring_prev rq
    have e3 : wat W (thead c p + 1) = lastOf (thead c p) (L c p) := ring_prev rp
    have nf := rq.node f (by simp)
    have nl := rq.node (lastOf f M) (List.mem_cons_of_mem _ (lastOf_mem f M))
    have nz := rp.node _ (lastOf_mem (thead c p) (L c p))
    have hfq : f ≠ thead c q := fun e => (List.nodup_cons.1 rq.nodup).1 (by simp [e])
    have hW : oJoin W (thead c p) (thead c q) = some (setAll W [(lastOf (thead c p) (L c p), 2, f), (f, 1, lastOf (thead c p) (L c p)), (lastOf f M, 2, thead c p), (thead c p, 1, lastOf f M), (thead c q, 1, thead c q), (thead c q, 2, thead c q)]) := by
      unfold oJoin isPlace
      rw [e1, e2, e3]
      simp [np.2, nq.2, nf.2, nl.2, nz.2, hfq]
    have hb : ∀ t ∈ [(lastOf (thead c p) (L c p), 2, f), (f, 1, lastOf (thead c p) (L c p)), (lastOf f M, 2, thead c p), (thead c p, 1, lastOf f M), (thead c q, 1, thead c q), (thead c q, 2, thead c q)], Base cs t.1 ∧ 1 ≤ t.2.1 ∧ t.2.1 ≤ 2 := by
      intro t ht
      simp only [List.mem_cons, List.not_mem_nil, or_false] at ht
      rcases ht with rfl | rfl | rfl | rfl | rfl | rfl
      · exact ⟨nz.1, by simp, by simp⟩
      · exact ⟨nf.1, by simp, by simp⟩
      · exact ⟨nl.1, by simp, by simp⟩
      · exact ⟨np.1, by simp, by simp⟩
      · exact ⟨nq.1, by simp, by simp⟩
      · exact ⟨nq.1, by simp, by simp⟩
    have hh : ∀ c' v, IsC cs c' v → wat (setAll W [(lastOf (thead c p) (L c p), 2, f), (f, 1, lastOf (thead c p) (L c p)), (lastOf f M, 2, thead c p), (thead c p, 1, lastOf f M), (thead c q, 1, thead c q), (thead c q, 2, thead c q)]) v = wat W v :=
      fun c' v hv => wat_setAll (fun t ht => header_ne hv (hb t ht).1 (hb t ht).2.1 (hb t ht).2.2)
    refine ⟨_, hW, ⟨?_, ?_, ?_, ?_, ?_⟩, fun X => fr_setAll hb X, hh⟩
    · rw [setAll_length]; exact h.wl
    · intro c2 l2 hc2 hl2
      unfold jn
      by_cases ec : c2 = c
      · subst ec
        rw [if_pos rfl]
        by_cases e1 : l2 = p
        · subst e1; rw [if_pos rfl, hL]; exact j1
        · rw [if_neg e1]
          by_cases e2 : l2 = q
          · subst e2
            rw [if_pos rfl]
            exact lone_ring j2 ⟨nq.1, by rw [setAll_length]; exact nq.2⟩
          · rw [if_neg e2]
            refine join_other rp rq (h.ring c2 l2 hc hl2) (fun u hu => ⟨h.apart hc hl2 hc hp (fun e => e1 e.2) u hu, ?_⟩)
            have := h.apart hc hl2 hc hq (fun e => e2 e.2) u hu
            rwa [hL] at this
      · rw [if_neg ec]
        refine join_other rp rq (h.ring c2 l2 hc2 hl2) (fun u hu => ⟨h.apart hc2 hl2 hc hp (fun e => ec e.1) u hu, ?_⟩)
        have := h.apart hc2 hl2 hc hq (fun e => ec e.1) u hu
        rwa [hL] at this
    · intro c2 l2 v hc2 hl2 hv
      unfold jn at hv
      by_cases ec : c2 = c
      · subst ec
        rw [if_pos rfl] at hv
        by_cases e1 : l2 = p
        · rw [if_pos e1] at hv
          rcases List.mem_append.1 hv with e | e
          · exact h.mem c2 p v hc hp e
          · exact h.mem c2 q v hc hq e
        · rw [if_neg e1] at hv
          by_cases e2 : l2 = q
          · rw [if_pos e2] at hv; cases hv
          · rw [if_neg e2] at hv; exact h.mem c2 l2 v hc hl2 hv
      · rw [if_neg ec] at hv; exact h.mem c2 l2 v hc2 hl2 hv
    · intro c2 la lb v hc2 hla hlb hva hvb
      have key : ∀ l2, l2 < 4 → v ∈ jn L c p q c2 l2 → (l2 = p ∧ c2 = c ∧ (v ∈ L c p ∨ v ∈ L c q)) ∨ (v ∈ L c2 l2 ∧ ¬ (c2 = c ∧ (l2 = p ∨ l2 = q))) := by
        intro l2 hl2 hv
        unfold jn at hv
        by_cases ec : c2 = c
        · subst ec
          rw [if_pos rfl] at hv
          by_cases e1 : l2 = p
          · rw [if_pos e1] at hv
            exact Or.inl ⟨e1, rfl, List.mem_append.1 hv⟩
          · rw [if_neg e1] at hv
            by_cases e2 : l2 = q
            · rw [if_pos e2] at hv; cases hv
            · rw [if_neg e2] at hv
              exact Or.inr ⟨hv, fun e => e.2.elim e1 e2⟩
        · rw [if_neg ec] at hv
          exact Or.inr ⟨hv, fun e => ec e.1⟩
      rcases key la hla hva with ⟨a1, a2, a3⟩ | ⟨a1, a2⟩ <;> rcases key lb hlb hvb with ⟨b1, b2, b3⟩ | ⟨b1, b2⟩
      · rw [a1, b1]
      · subst a2
        rcases a3 with a3 | a3
        · exact absurd ⟨rfl, Or.inl (h.disj c2 p lb v hc2 hp hlb a3 b1).symm⟩ b2
        · exact absurd ⟨rfl, Or.inr (h.disj c2 q lb v hc2 hq hlb a3 b1).symm⟩ b2
      · subst b2
        rcases b3 with b3 | b3
        · exact absurd ⟨rfl, Or.inl (h.disj c2 p la v hc2 hp hla b3 a1).symm⟩ a2
        · exact absurd ⟨rfl, Or.inr (h.disj c2 q la v hc2 hq hla b3 a1).symm⟩ a2
      · exact h.disj c2 la lb v hc2 hla hlb a1 b1
    · intro c' v hv
      rw [hh c' v hv]
      exact h.hdr c' v hv

/-- The same shapes and fields. -/
structure Same (cs W W' : List Nat) : Prop where
  shape : ∀ c v, IsC cs c v → hform (wat W' v) = hform (wat W v) ∧ htag (wat W' v) = htag (wat W v) ∧ hn (wat W' v) = hn (wat W v)
  fld : ∀ c v i, IsC cs c v → i < szs c → wat W' (v + 3 + i) = wat W (v + 3 + i)
theorem Same.refl (cs W : List Nat) : Same cs W W := ⟨fun _ _ _ => ⟨rfl, rfl, rfl⟩, fun _ _ _ _ _ => rfl⟩
theorem Same.trans {cs A B C : List Nat} (h : Same cs A B) (k : Same cs B C) : Same cs A C :=
  ⟨fun c v hv => ⟨(k.shape c v hv).1.trans (h.shape c v hv).1, (k.shape c v hv).2.1.trans (h.shape c v hv).2.1, (k.shape c v hv).2.2.trans (h.shape c v hv).2.2⟩, fun c v i hv hi => (k.fld c v i hv hi).trans (h.fld c v i hv hi)⟩
theorem Same.of_fr {cs W W' : List Nat} {u : Nat} (h : Fr cs W W' (fun v => v = u)) {m : Nat} (hm : m < 4) (hu : wat W' u = hdr (hform (wat W u)) (htag (wat W u)) m (hn (wat W u))) : Same cs W W' :=
  ⟨fun c v hv => by
    by_cases e : v = u
    · subst e
      rw [hu]
      exact ⟨hform_hdr (hform_lt _) (htag_lt _) hm (hn_lt _), htag_hdr (hform_lt _) (htag_lt _) hm (hn_lt _), hn_hdr (hform_lt _) (htag_lt _) hm (hn_lt _)⟩
    · rw [h.hdr c v hv e]
      exact ⟨rfl, rfl, rfl⟩, h.fld⟩

/-- The state s with its lists L; d: how many fewer are counted than are there. -/
structure Rep (s : TH) (L : Nat → Nat → List Nat) (d : Nat → Nat → Nat) : Prop where
  ls : THlen s
  st : s.start = starts s.count
  big : ∀ c, s.count.getD c 0 ≤ 4000
  cnt : ∀ c l, c < 4 → l < 4 → lget s c l + d c l = (L c l).length
  wait : s.wait = 0
  now : s.now ≤ 1
  rl : RL s.count s.W L
  cov : ∀ c u, IsC s.count c u → ∃ l, l < 4 ∧ u ∈ L c l
  tot : ∀ c, c < 4 → (L c 0).length + (L c 1).length + (L c 2).length + (L c 3).length = s.count.getD c 0
  mark : ∀ c l u, c < 4 → l < 4 → u ∈ L c l → (l = 1 → hmark (wat s.W u) = s.now) ∧ (l = 2 → hmark (wat s.W u) = 1 - s.now) ∧ (l = 3 → hmark (wat s.W u) = 2)
  form : ∀ c l u, c < 4 → 1 ≤ l → l < 4 → u ∈ L c l → (hform (wat s.W u) = 1 ∨ hform (wat s.W u) = 2) ∧ hn (wat s.W u) ≤ szs c
def d0 : Nat → Nat → Nat := fun _ _ => 0
def d1 (c l : Nat) : Nat → Nat → Nat := fun c2 l2 => if c2 = c ∧ l2 = l then 1 else 0

section
variable {s : TH} {L : Nat → Nat → List Nat} {d : Nat → Nat → Nat}
theorem Rep.len_le (h : Rep s L d) {c l : Nat} (hc : c < 4) (hl : l < 4) : (L c l).length ≤ 4000 := by
  have h1 := h.tot c hc
  have h2 := h.big c
  have : l = 0 ∨ l = 1 ∨ l = 2 ∨ l = 3 := by omega
  rcases this with rfl | rfl | rfl | rfl <;> omega
theorem Rep.lget_le (h : Rep s L d) {c l : Nat} (hc : c < 4) (hl : l < 4) : lget s c l ≤ 4000 := by
  have := h.cnt c l hc hl
  have := h.len_le hc hl
  omega
theorem lget_lset {s : TH} {c l x c' l' : Nat} (hls : THlen s) (hc : c < 4) (hl : l < 4) (hl' : l' < 4) : lget (lset s c l x) c' l' = if c' = c ∧ l' = l then x else lget s c' l' := by
  unfold lget lset
  simp only [List.getD]
  by_cases e : c' = c ∧ l' = l
  · obtain ⟨rfl, rfl⟩ := e
    rw [if_pos ⟨rfl, rfl⟩, List.getElem?_set_self (by rw [hls.c]; omega)]
    rfl
  · rw [if_neg e, List.getElem?_set_ne (by omega)]
theorem len_lset {s : TH} (h : THlen s) (c l x : Nat) : THlen (lset s c l x) := ⟨h.a, h.b, by simpa [lset] using h.c, h.d⟩

theorem Rep.tclass (h : Rep s L d) {u : Nat} {c : Nat} : tclass s u = some c ↔ IsC s.count c u := by
  have hat : ∀ k, k < 4 → tclassAt s u k = if stt s.count k ≤ u ∧ u < stt s.count (k + 1) then some (if (u - stt s.count k) % (3 + szs k) = 0 then some k else none) else none := by
    intro k hk
    unfold tclassAt stt
    rw [h.st]
  have hin : ∀ k, IsC s.count k u → tclassAt s u k = some (some k) := by
    intro k hk
    rw [hat k hk.1, if_pos ⟨hk.bd.1, by have := hk.bd.2; omega⟩]
    obtain ⟨_, i, hi, e⟩ := hk
    rw [e, Nat.add_sub_cancel_left, Nat.mul_mod_left, if_pos rfl]
  have hout : ∀ k j, k < 4 → j < 4 → k < j → IsC s.count j u → tclassAt s u k = none := by
    intro k j hk hj hkj hc
    rw [hat k hk, if_neg]
    intro e
    have := stt_mono s.count (show k + 1 ≤ j by omega) (by omega)
    have := hc.bd.1
    omega
  have hfrom : ∀ k r, k < 4 → tclassAt s u k = some r → r = some c → IsC s.count c u ∧ c = k := by
    intro k r hk h1 h2
    rw [hat k hk] at h1
    split at h1
    · rename_i hr
      injection h1 with h1
      rw [h2] at h1
      split at h1
      · rename_i hm
        injection h1 with h1
        subst h1
        refine ⟨⟨hk, (u - stt s.count k) / (3 + szs k), ?_, ?_⟩, rfl⟩
        · rw [stt_step s.count hk] at hr
          rw [Nat.div_lt_iff_lt_mul (by omega)]
          omega
        · have := Nat.div_add_mod (u - stt s.count k) (3 + szs k)
          rw [hm, Nat.add_zero, Nat.mul_comm] at this
          omega
      · cases h1
    · cases h1
  constructor
  · intro ht
    unfold Go.Proofs.Ytbjlapfcnldpoaa.tclass at ht
    split at ht
    · rename_i r h1; exact (hfrom 0 r (by omega) h1 ht).1
    · split at ht
      · rename_i r h1; exact (hfrom 1 r (by omega) h1 ht).1
      · split at ht
        · rename_i r h1; exact (hfrom 2 r (by omega) h1 ht).1
        · split at ht
          · rename_i r h1; exact (hfrom 3 r (by omega) h1 ht).1
          · cases ht
  · intro hc
    unfold Go.Proofs.Ytbjlapfcnldpoaa.tclass
    have := hc.1
    have : c = 0 ∨ c = 1 ∨ c = 2 ∨ c = 3 := by omega
    rcases this with rfl | rfl | rfl | rfl
    · rw [hin 0 hc]
    · rw [hout 0 1 (by omega) (by omega) (by omega) hc, hin 1 hc]
    · rw [hout 0 2 (by omega) (by omega) (by omega) hc, hout 1 2 (by omega) (by omega) (by omega) hc, hin 2 hc]
    · rw [hout 0 3 (by omega) (by omega) (by omega) hc, hout 1 3 (by omega) (by omega) (by omega) hc, hout 2 3 (by omega) (by omega) (by omega) hc, hin 3 hc]
theorem stt4_le {cs : List Nat} (h : ∀ c, cs.getD c 0 ≤ 4000) : stt cs 4 ≤ 720051 := by
  have h0 := h 0
  have h1 := h 1
  have h2 := h 2
  have h3 := h 3
  have e : stt cs 4 = 51 + cs.getD 0 0 * 6 + cs.getD 1 0 * 10 + cs.getD 2 0 * 34 + cs.getD 3 0 * 130 := rfl
  rw [e]
  omega
theorem Rep.tplace (h : Rep s L d) {x u c : Nat} : tplace s x = some (u, c) ↔ x = 8 * u + 1 ∧ IsC s.count c u := by
  unfold Go.Proofs.Ytbjlapfcnldpoaa.tplace tcell
  constructor
  · intro ht
    split at ht
    · rename_i hx
      simp only [Bool.and_eq_true, beq_iff_eq, decide_eq_true_eq] at hx
      simp only [Option.map_eq_some_iff] at ht
      obtain ⟨c', hc, e⟩ := ht
      simp only [Prod.mk.injEq] at e
      obtain ⟨rfl, rfl⟩ := e
      exact ⟨by omega, h.tclass.1 hc⟩
    · cases ht
  · rintro ⟨rfl, hc⟩
    have hlt := hc.lt
    have hb : stt s.count 4 ≤ 720051 := stt4_le h.big
    have hx : ((8 * u + 1) % 8 == 1 && decide ((8 * u + 1) / 8 ≤ 1099511627776)) = true := by
      simp only [Bool.and_eq_true, beq_iff_eq, decide_eq_true_eq]
      omega
    rw [if_pos hx, show (8 * u + 1) / 8 = u by omega, h.tclass.2 hc]
    rfl
theorem Rep.rdh (h : Rep s L d) {c u : Nat} (hu : IsC s.count c u) : rdh s.W u = some (wat s.W u) := by
  unfold Go.Proofs.Ytbjlapfcnldpoaa.rdh
  have h1 := (h.rl.node (Or.inr ⟨c, hu⟩)).2
  have h2 := h.rl.hdr c u hu
  rw [if_pos ⟨by omega, h2⟩]
end

theorem mv_length {L : Nat → Nat → List Nat} {c l l' u : Nat} (hu : u ∈ L c l) (hne : l ≠ l') (c2 l2 : Nat) :
    (mv L c l l' u c2 l2).length + (if c2 = c ∧ l2 = l then 1 else 0) = (L c2 l2).length + (if c2 = c ∧ l2 = l' then 1 else 0) := by
  unfold mv
  by_cases ec : c2 = c
  · subst ec
    rw [if_pos rfl]
    by_cases e1 : l2 = l
    · subst e1
      rw [if_pos rfl, if_pos ⟨rfl, rfl⟩, if_neg (fun e => hne e.2), List.length_erase_of_mem hu]
      have := List.length_pos_of_mem hu
      omega
    · by_cases e2 : l2 = l'
      · subst e2; simp [e1]
      · simp [e1, e2]
  · simp [ec]
theorem mem_mv {L : Nat → Nat → List Nat} {c l l' u c2 l2 v : Nat} (hnd : (L c l).Nodup) (hne : l ≠ l') (hv : v ∈ mv L c l l' u c2 l2) : (c2 = c ∧ l2 = l' ∧ v = u) ∨ (v ∈ L c2 l2 ∧ ¬ (c2 = c ∧ l2 = l ∧ v = u)) := by
  unfold mv at hv
  by_cases ec : c2 = c
  · subst ec
    rw [if_pos rfl] at hv
    by_cases e1 : l2 = l
    · subst e1
      rw [if_pos rfl] at hv
      refine Or.inr ⟨List.mem_of_mem_erase hv, fun e => ?_⟩
      rw [e.2.2] at hv
      exact List.Nodup.not_mem_erase hnd hv
    · rw [if_neg e1] at hv
      by_cases e2 : l2 = l'
      · subst e2
        rw [if_pos rfl] at hv
        rcases List.mem_cons.1 hv with e | e
        · exact Or.inl ⟨rfl, rfl, e⟩
        · exact Or.inr ⟨e, fun e' => e1 e'.2.1⟩
      · rw [if_neg e2] at hv
        exact Or.inr ⟨hv, fun e' => e1 e'.2.1⟩
  · rw [if_neg ec] at hv
    exact Or.inr ⟨hv, fun e' => ec e'.1⟩
theorem mv_mem {L : Nat → Nat → List Nat} {c l l' u c2 l2 v : Nat} (hv : v ∈ L c2 l2) (hne : l ≠ l') (hn : ¬ (c2 = c ∧ l2 = l ∧ v = u)) : v ∈ mv L c l l' u c2 l2 := by
  unfold mv
  by_cases ec : c2 = c
  · subst ec
    rw [if_pos rfl]
    by_cases e1 : l2 = l
    · subst e1
      rw [if_pos rfl]
      exact (List.mem_erase_of_ne (fun e => hn ⟨rfl, rfl, e⟩)).2 hv
    · rw [if_neg e1]
      by_cases e2 : l2 = l'
      · subst e2; rw [if_pos rfl]; exact List.mem_cons_of_mem _ hv
      · rw [if_neg e2]; exact hv
  · rw [if_neg ec]; exact hv
theorem mv_self {L : Nat → Nat → List Nat} {c l l' u : Nat} (hne : l ≠ l') : u ∈ mv L c l l' u c l' := by
  unfold mv
  rw [if_pos rfl, if_neg (Ne.symm hne), if_pos rfl]
  simp

/-- A cell that is no longer counted in its list goes into another one. -/
theorem rep_move {t : TH} {L : Nat → Nat → List Nat} {d : Nat → Nat → Nat} (h : Rep t L d) {c l l' u m : Nat} (hc : c < 4) (hl1 : 1 ≤ l) (hl : l < 4) (hl1' : 1 ≤ l') (hl' : l' < 4) (hne : l ≠ l') (hu : u ∈ L c l)
    (hd : 1 ≤ d c l) (hm : m < 4) (hm1 : l' = 1 → m = t.now) (hm2 : l' = 2 → m = 1 - t.now) (hm3 : l' = 3 → m = 2) :
    ∃ t', tmove t u c (thead c l') m l' = some t' ∧ Rep t' (mv L c l l' u) (fun c2 l2 => d c2 l2 - if c2 = c ∧ l2 = l then 1 else 0) ∧ Same t.count t.W t'.W ∧
      t' = { t with lists := t'.lists, W := t'.W } ∧ lget t' c 0 = lget t c 0 ∧ (∀ c2, c2 < 4 → lget t' c2 0 = lget t c2 0) := by
  have huc := h.rl.mem c l u hc hl hu
  obtain ⟨W1, W2, W3, e1, e2, e3, hrl, hfr, hx⟩ := rl_move h.rl hc hl hl' hne hu (hdr_lt (hform_lt (wat t.W u)) (htag_lt (wat t.W u)) hm (hn_lt (wat t.W u)))
  have hsame := Same.of_fr hfr hm hx
  have hlg := h.lget_le hc hl'
  have hmove : tmove t u c (thead c l') m l' = some { lset t c l' (lget t c l' + 1) with W := W3 } := by
    unfold tmove
    simp only [Option.bind_eq_bind, h.rdh huc, Option.bind_some, e1, e2, e3]
    unfold req
    rw [if_pos (by simp; omega)]
    rfl
  have hlg2 : ∀ c2 l2, c2 < 4 → l2 < 4 → lget { lset t c l' (lget t c l' + 1) with W := W3 } c2 l2 = if c2 = c ∧ l2 = l' then lget t c l' + 1 else lget t c2 l2 :=
    fun c2 l2 hc2 hl2 => lget_lset h.ls hc hl' hl2
  refine ⟨_, hmove, ⟨⟨h.ls.a, h.ls.b, by simpa [lset] using h.ls.c, h.ls.d⟩, h.st, h.big, ?_, h.wait, h.now, hrl, ?_, ?_, ?_, ?_⟩, hsame, rfl, ?_, ?_⟩
  · intro c2 l2 hc2 hl2
    have hcn := h.cnt c2 l2 hc2 hl2
    have hml := mv_length hu hne c2 l2
    rw [hlg2 c2 l2 hc2 hl2]
    by_cases e1 : c2 = c ∧ l2 = l
    · obtain ⟨rfl, rfl⟩ := e1
      simp only [and_self, if_true] at hml ⊢
      rw [if_neg (fun e => hne e.2)] at hml
      rw [if_neg (fun e => hne e.2)]
      omega
    · rw [if_neg e1] at hml ⊢
      by_cases e2 : c2 = c ∧ l2 = l'
      · obtain ⟨rfl, rfl⟩ := e2
        simp only [and_self, if_true] at hml ⊢
        omega
      · rw [if_neg e2] at hml ⊢
        omega
  · intro c2 v hv
    by_cases e : c2 = c ∧ v = u
    · obtain ⟨rfl, rfl⟩ := e
      exact ⟨l', hl', mv_self hne⟩
    · obtain ⟨l2, hl2, hv2⟩ := h.cov c2 v hv
      exact ⟨l2, hl2, mv_mem hv2 hne (fun e' => e ⟨e'.1, e'.2.2⟩)⟩
  · intro c2 hc2
    have ht := h.tot c2 hc2
    have m0 := mv_length hu hne c2 0
    have m1 := mv_length hu hne c2 1
    have m2 := mv_length hu hne c2 2
    have m3 := mv_length hu hne c2 3
    show (mv L c l l' u c2 0).length + (mv L c l l' u c2 1).length + (mv L c l l' u c2 2).length + (mv L c l l' u c2 3).length = t.count.getD c2 0
    by_cases ec : c2 = c
    · subst ec
      have hl3 : l = 1 ∨ l = 2 ∨ l = 3 := by omega
      have hl3' : l' = 1 ∨ l' = 2 ∨ l' = 3 := by omega
      rcases hl3 with rfl | rfl | rfl <;> rcases hl3' with rfl | rfl | rfl <;> simp_all <;> omega
    · simp only [ec, false_and, if_false] at m0 m1 m2 m3
      omega
  · intro c2 l2 v hc2 hl2 hv
    rcases mem_mv (h.rl.nodup hc hl) hne hv with ⟨rfl, rfl, rfl⟩ | ⟨hv2, hn⟩
    · show (_ → hmark (wat W3 v) = t.now) ∧ (_ → hmark (wat W3 v) = 1 - t.now) ∧ (_ → hmark (wat W3 v) = 2)
      rw [hx, hmark_hdr (hform_lt _) (htag_lt _) hm (hn_lt _)]
      exact ⟨hm1, hm2, hm3⟩
    · have hvc := h.rl.mem c2 l2 v hc2 hl2 hv2
      have hvu : v ≠ u := by
        intro e
        subst e
        have e1 := huc.one hvc
        subst e1
        exact hn ⟨rfl, h.rl.disj c l2 l v hc hl2 hl hv2 hu, rfl⟩
      show (_ → hmark (wat W3 v) = t.now) ∧ (_ → hmark (wat W3 v) = 1 - t.now) ∧ (_ → hmark (wat W3 v) = 2)
      rw [hfr.hdr c2 v hvc hvu]
      exact h.mark c2 l2 v hc2 hl2 hv2
  · intro c2 l2 v hc2 h1 hl2 hv
    show (hform (wat W3 v) = 1 ∨ hform (wat W3 v) = 2) ∧ hn (wat W3 v) ≤ szs c2
    rcases mem_mv (h.rl.nodup hc hl) hne hv with ⟨rfl, rfl, rfl⟩ | ⟨hv2, hn⟩
    · rw [(hsame.shape c2 v huc).1, (hsame.shape c2 v huc).2.2]
      exact h.form c2 l v hc hl1 hl hu
    · have hvc := h.rl.mem c2 l2 v hc2 hl2 hv2
      rw [(hsame.shape c2 v hvc).1, (hsame.shape c2 v hvc).2.2]
      exact h.form c2 l2 v hc2 h1 hl2 hv2
  · rw [hlg2 c 0 hc (by omega), if_neg (by omega)]
  · intro c2 hc2
    rw [hlg2 c2 0 hc2 (by omega), if_neg (by omega)]

end Go.Proofs.Ytbjlapfcnldpoaa

/- Colours on a graph: what a marking collector keeps. No heap and no program in sight. 0: free; 1: black; 2: white; 3: grey. -/
namespace Go.Proofs.Ytbjlapfcnldpoaa
set_option linter.unusedVariables false
set_option linter.unusedSimpArgs false

def updc (col : Nat → Nat) (u k : Nat) : Nat → Nat := fun v => if v = u then k else col v
theorem updc_at (col : Nat → Nat) (u k : Nat) : updc col u k u = k := by simp [updc]
theorem updc_ne (col : Nat → Nat) {u v : Nat} (k : Nat) (h : v ≠ u) : updc col u k v = col v := by simp [updc, h]

/-- A white one that a grey one comes to by white ones. -/
inductive GR (col : Nat → Nat) (edge : Nat → Nat → Prop) : Nat → Prop where
  | grey {g v : Nat} (h1 : col g = 3) (h2 : edge g v) (h3 : col v = 2) : GR col edge v
  | white {u v : Nat} (h1 : GR col edge u) (h2 : edge u v) (h3 : col v = 2) : GR col edge v
/-- It won't be lost. -/
def OK (col : Nat → Nat) (edge : Nat → Nat → Prop) (v : Nat) : Prop := col v = 1 ∨ col v = 3 ∨ (col v = 2 ∧ GR col edge v)
structure GI (col : Nat → Nat) (edge : Nat → Nat → Prop) (root : Nat → Prop) : Prop where
  alive : ∀ u v, col u ≠ 0 → edge u v → col v ≠ 0
  black : ∀ u v, col u = 1 → edge u v → OK col edge v
  root : ∀ v, root v → OK col edge v

section
variable {col : Nat → Nat} {edge edge' : Nat → Nat → Prop} {root root' : Nat → Prop} {u v w : Nat}
theorem GR.col2 (h : GR col edge v) : col v = 2 := by cases h <;> assumption
theorem OK.ne0 (h : OK col edge v) : col v ≠ 0 := by rcases h with h | h | ⟨h, -⟩ <;> omega
theorem gr_shade (hu : col u = 2) (h : GR col edge v) : v = u ∨ GR (updc col u 3) edge v := by
  induction h with
  | @grey g v h1 h2 h3 =>
    by_cases e : v = u
    · exact Or.inl e
    · refine Or.inr (.grey (g := g) ?_ h2 (by rw [updc_ne _ _ e]; exact h3))
      by_cases eg : g = u
      · rw [eg, updc_at]
      · rw [updc_ne _ _ eg]; exact h1
  | @white w v h1 h2 h3 ih =>
    by_cases e : v = u
    · exact Or.inl e
    · rcases ih with e1 | e1
      · exact Or.inr (.grey (g := w) (by rw [e1, updc_at]) h2 (by rw [updc_ne _ _ e]; exact h3))
      · exact Or.inr (.white e1 h2 (by rw [updc_ne _ _ e]; exact h3))
theorem ok_shade (hu : col u = 2) (h : OK col edge v) : OK (updc col u 3) edge v := by
  by_cases e : v = u
  · exact Or.inr (Or.inl (by rw [e, updc_at]))
  · rcases h with h | h | ⟨h, hg⟩
    · exact Or.inl (by rw [updc_ne _ _ e]; exact h)
    · exact Or.inr (Or.inl (by rw [updc_ne _ _ e]; exact h))
    · exact Or.inr (Or.inr ⟨by rw [updc_ne _ _ e]; exact h, (gr_shade hu hg).resolve_left e⟩)
theorem GI.shade (h : GI col edge root) (hu : col u = 2) : GI (updc col u 3) edge root := by
  have h0 : ∀ a, updc col u 3 a ≠ 0 ↔ col a ≠ 0 := by
    intro a
    by_cases e : a = u
    · rw [e, updc_at, hu]; simp
    · rw [updc_ne _ _ e]
  refine ⟨fun a b ha hab => (h0 b).2 (h.alive a b ((h0 a).1 ha) hab), fun a b ha hab => ?_, fun a ha => ok_shade hu (h.root a ha)⟩
  by_cases e : a = u
  · rw [e, updc_at] at ha; omega
  · rw [updc_ne _ _ e] at ha
    exact ok_shade hu (h.black a b ha hab)
theorem gr_black (hu : col u = 3) (hw : ∀ v, edge u v → col v ≠ 2) (h : GR col edge v) : GR (updc col u 1) edge v := by
  induction h with
  | @grey g v h1 h2 h3 =>
    have eg : g ≠ u := fun e => hw v (e ▸ h2) h3
    have ev : v ≠ u := fun e => by rw [e] at h3; omega
    exact .grey (g := g) (by rw [updc_ne _ _ eg]; exact h1) h2 (by rw [updc_ne _ _ ev]; exact h3)
  | @white w v h1 h2 h3 ih =>
    have ev : v ≠ u := fun e => by rw [e] at h3; omega
    exact .white ih h2 (by rw [updc_ne _ _ ev]; exact h3)
theorem ok_black (hu : col u = 3) (hw : ∀ v, edge u v → col v ≠ 2) (h : OK col edge v) : OK (updc col u 1) edge v := by
  by_cases e : v = u
  · exact Or.inl (by rw [e, updc_at])
  · rcases h with h | h | ⟨h, hg⟩
    · exact Or.inl (by rw [updc_ne _ _ e]; exact h)
    · exact Or.inr (Or.inl (by rw [updc_ne _ _ e]; exact h))
    · exact Or.inr (Or.inr ⟨by rw [updc_ne _ _ e]; exact h, gr_black hu hw hg⟩)
theorem GI.toBlack (h : GI col edge root) (hu : col u = 3) (hw : ∀ v, edge u v → col v ≠ 2) (hc : ∀ v, col v ≤ 3) : GI (updc col u 1) edge root := by
  have h0 : ∀ a, updc col u 1 a ≠ 0 ↔ col a ≠ 0 := by
    intro a
    by_cases e : a = u
    · rw [e, updc_at, hu]; simp
    · rw [updc_ne _ _ e]
  refine ⟨fun a b ha hab => (h0 b).2 (h.alive a b ((h0 a).1 ha) hab), fun a b ha hab => ?_, fun a ha => ok_black hu hw (h.root a ha)⟩
  by_cases e : a = u
  · subst e
    have h1 := h.alive a b (by omega) hab
    have h2 := hw b hab
    have h3 := hc b
    have : col b = 1 ∨ col b = 3 := by omega
    exact ok_black hu hw (this.elim Or.inl (fun e => Or.inr (Or.inl e)))
  · rw [updc_ne _ _ e] at ha
    exact ok_black hu hw (h.black a b ha hab)
/-- All black ones white. -/
def flipc (col : Nat → Nat) : Nat → Nat := fun v => if col v = 1 then 2 else col v
/-- All white ones free. -/
def endc (col : Nat → Nat) : Nat → Nat := fun v => if col v = 2 then 0 else col v
theorem GI.ends (h : GI col edge root) (hg : ∀ v, col v ≠ 3) (hc : ∀ v, col v ≤ 3) : GI (endc col) edge root := by
  have hgr : ∀ v, ¬ GR col edge v := by
    intro v hv
    induction hv with
    | grey h1 _ _ => exact hg _ h1
    | white _ _ _ ih => exact ih
  have hok : ∀ v, OK col edge v → col v = 1 := by
    intro v hv
    rcases hv with h | h | ⟨-, h⟩
    · exact h
    · exact absurd h (hg v)
    · exact absurd h (hgr v)
  have hok2 : ∀ v, OK col edge v → OK (endc col) edge v := by
    intro v hv
    have h1 := hok v hv
    exact Or.inl (by unfold endc; rw [h1]; rfl)
  have h1 : ∀ a, endc col a ≠ 0 → col a = 1 := by
    intro a ha
    have := hg a
    have := hc a
    unfold endc at ha
    split at ha <;> omega
  exact ⟨fun a b ha hab => (hok2 b (h.black a b (h1 a ha) hab)).ne0, fun a b ha hab => hok2 b (h.black a b (h1 a (by omega)) hab), fun a ha => hok2 a (h.root a ha)⟩
theorem ok_edge (h : GI col edge root) (hc : ∀ v, col v ≤ 3) (hu : OK col edge u) (he : edge u v) : OK col edge v := by
  have h0 := h.alive u v hu.ne0 he
  have h3 := hc v
  rcases hu with h1 | h1 | ⟨-, h1⟩
  · exact h.black u v h1 he
  · have : col v = 1 ∨ col v = 3 ∨ col v = 2 := by omega
    rcases this with e | e | e
    · exact Or.inl e
    · exact Or.inr (Or.inl e)
    · exact Or.inr (Or.inr ⟨e, .grey h1 he e⟩)
  · have : col v = 1 ∨ col v = 3 ∨ col v = 2 := by omega
    rcases this with e | e | e
    · exact Or.inl e
    · exact Or.inr (Or.inl e)
    · exact Or.inr (Or.inr ⟨e, .white h1 he e⟩)
theorem gr_edges (hE : ∀ a b, edge a b → col b = 2 → edge' a b) (h : GR col edge v) : GR col edge' v := by
  induction h with
  | grey h1 h2 h3 => exact .grey h1 (hE _ _ h2 h3) h3
  | white h1 h2 h3 ih => exact .white ih (hE _ _ h2 h3) h3
theorem ok_edges (hE : ∀ a b, edge a b → col b = 2 → edge' a b) (h : OK col edge v) : OK col edge' v := by
  rcases h with h | h | ⟨h, hg⟩
  · exact Or.inl h
  · exact Or.inr (Or.inl h)
  · exact Or.inr (Or.inr ⟨h, gr_edges hE hg⟩)
/-- One's edges are set anew. -/
theorem GI.write (h : GI col edge root) (hE : ∀ a b, a ≠ u → (edge' a b ↔ edge a b)) (hK : ∀ b, edge u b → col b = 2 → edge' u b) (hN : ∀ b, edge' u b → edge u b ∨ OK col edge b) : GI col edge' root := by
  have hE2 : ∀ a b, edge a b → col b = 2 → edge' a b := by
    intro a b hab h2
    by_cases e : a = u
    · subst e; exact hK b hab h2
    · exact (hE a b e).2 hab
  refine ⟨fun a b ha hab => ?_, fun a b ha hab => ?_, fun a ha => ok_edges hE2 (h.root a ha)⟩
  · by_cases e : a = u
    · subst e
      rcases hN b hab with h1 | h1
      · exact h.alive a b ha h1
      · exact h1.ne0
    · exact h.alive a b ha ((hE a b e).1 hab)
  · by_cases e : a = u
    · subst e
      rcases hN b hab with h1 | h1
      · exact ok_edges hE2 (h.black a b ha h1)
      · exact ok_edges hE2 h1
    · exact ok_edges hE2 (h.black a b ha ((hE a b e).1 hab))
theorem gr_alloc (hu : col u = 0) (hE : ∀ a b, a ≠ u → (edge' a b ↔ edge a b)) (h : GR col edge v) : GR (updc col u 1) edge' v := by
  induction h with
  | @grey g v h1 h2 h3 =>
    have eg : g ≠ u := fun e => by rw [e] at h1; omega
    have ev : v ≠ u := fun e => by rw [e] at h3; omega
    exact .grey (g := g) (by rw [updc_ne _ _ eg]; exact h1) ((hE _ _ eg).2 h2) (by rw [updc_ne _ _ ev]; exact h3)
  | @white w v h1 h2 h3 ih =>
    have ew : w ≠ u := fun e => by have := h1.col2; rw [e] at this; omega
    have ev : v ≠ u := fun e => by rw [e] at h3; omega
    exact .white ih ((hE _ _ ew).2 h2) (by rw [updc_ne _ _ ev]; exact h3)
theorem ok_alloc (hu : col u = 0) (hE : ∀ a b, a ≠ u → (edge' a b ↔ edge a b)) (h : OK col edge v) : OK (updc col u 1) edge' v := by
  have e : v ≠ u := fun e => h.ne0 (by rw [e]; exact hu)
  rcases h with h | h | ⟨h, hg⟩
  · exact Or.inl (by rw [updc_ne _ _ e]; exact h)
  · exact Or.inr (Or.inl (by rw [updc_ne _ _ e]; exact h))
  · exact Or.inr (Or.inr ⟨by rw [updc_ne _ _ e]; exact h, gr_alloc hu hE hg⟩)
/-- A free one is given out, black, without edges. -/
theorem GI.alloc (h : GI col edge root) (hu : col u = 0) (hE : ∀ a b, a ≠ u → (edge' a b ↔ edge a b)) (hN : ∀ b, ¬ edge' u b) : GI (updc col u 1) edge' root := by
  refine ⟨fun a b ha hab => ?_, fun a b ha hab => ?_, fun a ha => ok_alloc hu hE (h.root a ha)⟩
  · have e : a ≠ u := fun e => hN b (e ▸ hab)
    rw [updc_ne _ _ e] at ha
    have h1 := h.alive a b ha ((hE a b e).1 hab)
    by_cases eb : b = u
    · rw [eb, updc_at]; omega
    · rw [updc_ne _ _ eb]; exact h1
  · have e : a ≠ u := fun e => hN b (e ▸ hab)
    rw [updc_ne _ _ e] at ha
    exact ok_alloc hu hE (h.black a b ha ((hE a b e).1 hab))
theorem GI.roots (h : GI col edge root) (hr : ∀ v, root' v → OK col edge v) : GI col edge root' := ⟨h.alive, h.black, hr⟩
/-- Without black ones, and with all roots grey. -/
theorem GI.of_grey (h1 : ∀ u v, col u ≠ 0 → edge u v → col v ≠ 0) (h2 : ∀ u, col u ≠ 1) (h3 : ∀ v, root v → col v = 3) : GI col edge root :=
  ⟨h1, fun u v hu => absurd hu (h2 u), fun v hv => Or.inr (Or.inl (h3 v hv))⟩
theorem GI.edge_iff (h : GI col edge root) (he : ∀ a b, edge' a b ↔ edge a b) : GI col edge' root := by
  have : edge' = edge := by funext a b; exact propext (he a b)
  rw [this]; exact h
end

end Go.Proofs.Ytbjlapfcnldpoaa

/- A collector's step keeps what is reached: shade and scan. No program in sight. -/
namespace Go.Proofs.Ytbjlapfcnldpoaa
set_option linter.unusedVariables false
set_option linter.unusedSimpArgs false
open Go.RowKit

def inl (L : Nat → Nat → List Nat) (l v : Nat) : Bool := (List.range 4).any fun c => (L c l).contains v
/-- A cell's colour, by the list that it stands in. -/
def colOf (L : Nat → Nat → List Nat) (v : Nat) : Nat := if inl L 1 v then 1 else if inl L 2 v then 2 else if inl L 3 v then 3 else 0
theorem inl_iff {L : Nat → Nat → List Nat} {l v : Nat} : inl L l v = true ↔ ∃ c, c < 4 ∧ v ∈ L c l := by simp [inl]
theorem colOf_le (L : Nat → Nat → List Nat) (v : Nat) : colOf L v ≤ 3 := by unfold colOf; split <;> (try split) <;> (try split) <;> omega
theorem col_mem {cs W : List Nat} {L : Nat → Nat → List Nat} (h : RL cs W L) {c l v : Nat} (hc : c < 4) (hl : l < 4) (hv : v ∈ L c l) : colOf L v = l := by
  have key : ∀ l2, l2 < 4 → inl L l2 v = true → l2 = l := by
    intro l2 hl2 hi
    obtain ⟨c2, hc2, hv2⟩ := inl_iff.1 hi
    have e := (h.mem c2 l2 v hc2 hl2 hv2).one (h.mem c l v hc hl hv)
    subst e
    exact h.disj c2 l2 l v hc hl2 hl hv2 hv
  have hin : inl L l v = true := inl_iff.2 ⟨c, hc, hv⟩
  have no : ∀ l2, l2 < 4 → l2 ≠ l → inl L l2 v = false := by
    intro l2 hl2 hne
    cases hi : inl L l2 v with
    | false => rfl
    | true => exact absurd (key l2 hl2 hi) hne
  unfold colOf
  have : l = 0 ∨ l = 1 ∨ l = 2 ∨ l = 3 := by omega
  rcases this with rfl | rfl | rfl | rfl
  · rw [no 1 (by omega) (by omega), no 2 (by omega) (by omega), no 3 (by omega) (by omega)]; rfl
  · rw [hin]; rfl
  · rw [no 1 (by omega) (by omega), hin]; rfl
  · rw [no 1 (by omega) (by omega), no 2 (by omega) (by omega), hin]; rfl
theorem col_ne0 {L : Nat → Nat → List Nat} {v k : Nat} (h : colOf L v = k) (hk : k ≠ 0) : ∃ c, c < 4 ∧ v ∈ L c k := by
  unfold colOf at h
  split at h
  · rename_i hi; subst h; exact inl_iff.1 hi
  · split at h
    · rename_i hi; subst h; exact inl_iff.1 hi
    · split at h
      · rename_i hi; subst h; exact inl_iff.1 hi
      · exact absurd h.symm hk
theorem col_out {cs W : List Nat} {L : Nat → Nat → List Nat} (h : RL cs W L) {v : Nat} (hv : ∀ c l, c < 4 → l < 4 → v ∉ L c l) : colOf L v = 0 := by
  cases hk : colOf L v with
  | zero => rfl
  | succ k =>
    obtain ⟨c, hc, hm⟩ := col_ne0 hk (by omega)
    have := colOf_le L v
    exact absurd hm (hv c (k + 1) hc (by omega))
theorem col_mv {cs W W' : List Nat} {L : Nat → Nat → List Nat} {c l l' u : Nat} (h : RL cs W L) (h' : RL cs W' (mv L c l l' u)) (hc : c < 4) (hl : l < 4) (hl' : l' < 4) (hne : l ≠ l') (hu : u ∈ L c l) :
    colOf (mv L c l l' u) = updc (colOf L) u l' := by
  funext v
  by_cases e : v = u
  · subst e
    rw [updc_at]
    exact col_mem h' hc hl' (mv_self hne)
  · rw [updc_ne _ _ e]
    by_cases hin : ∃ c2 l2, c2 < 4 ∧ l2 < 4 ∧ v ∈ L c2 l2
    · obtain ⟨c2, l2, hc2, hl2, hv⟩ := hin
      rw [col_mem h hc2 hl2 hv]
      exact col_mem h' hc2 hl2 (mv_mem hv hne (fun e' => e e'.2.2))
    · rw [col_out h (fun c2 l2 hc2 hl2 hv => hin ⟨c2, l2, hc2, hl2, hv⟩)]
      refine col_out h' (fun c2 l2 hc2 hl2 hv => ?_)
      rcases mem_mv (h.nodup hc hl) hne hv with ⟨_, _, e'⟩ | ⟨hv', -⟩
      · exact e e'
      · exact hin ⟨c2, l2, hc2, hl2, hv'⟩
theorem mv_free {L : Nat → Nat → List Nat} {c l l' u : Nat} (h : 1 ≤ l) (h' : 1 ≤ l') (c2 : Nat) : mv L c l l' u c2 0 = L c2 0 := by
  unfold mv
  by_cases ec : c2 = c
  · subst ec
    rw [if_pos rfl, if_neg (by omega), if_neg (by omega)]
  · rw [if_neg ec]

/-- A plain cell's field names a cell. -/
def edgeW (cs W : List Nat) (u v : Nat) : Prop := (∃ c i, IsC cs c u ∧ hform (wat W u) = 1 ∧ i < hn (wat W u) ∧ i < szs c ∧ wat W (u + 3 + i) = 8 * v + 1) ∧ ∃ c, IsC cs c v
theorem edge_same {cs W W' : List Nat} (h : Same cs W W') (u v : Nat) : edgeW cs W' u v ↔ edgeW cs W u v := by
  constructor
  · rintro ⟨⟨c, i, hu, h1, h2, h3, h4⟩, hv⟩
    obtain ⟨a, -, b⟩ := h.shape c u hu
    exact ⟨⟨c, i, hu, by rw [← a]; exact h1, by rw [← b]; exact h2, h3, by rw [← h.fld c u i hu h3]; exact h4⟩, hv⟩
  · rintro ⟨⟨c, i, hu, h1, h2, h3, h4⟩, hv⟩
    obtain ⟨a, -, b⟩ := h.shape c u hu
    exact ⟨⟨c, i, hu, by rw [a]; exact h1, by rw [b]; exact h2, h3, by rw [h.fld c u i hu h3]; exact h4⟩, hv⟩

/-- Shadings, one behind the other. -/
inductive Shd (col : Nat → Nat) : (Nat → Nat) → Prop where
  | refl : Shd col col
  | step {col' : Nat → Nat} {u : Nat} (h : Shd col col') (hu : col' u = 2) : Shd col (updc col' u 3)
theorem Shd.trans {a b c : Nat → Nat} (h : Shd a b) (k : Shd b c) : Shd a c := by
  induction k with
  | refl => exact h
  | step _ hu ih => exact .step ih hu
theorem Shd.gi {a b : Nat → Nat} {edge : Nat → Nat → Prop} {root : Nat → Prop} (h : Shd a b) (g : GI a edge root) : GI b edge root := by
  induction h with
  | refl => exact g
  | step _ hu ih => exact ih.shade hu
theorem Shd.ok {a b : Nat → Nat} {edge : Nat → Nat → Prop} {v : Nat} (h : Shd a b) (g : OK a edge v) : OK b edge v := by
  induction h with
  | refl => exact g
  | step _ hu ih => exact ok_shade hu ih
theorem Shd.keep {a b : Nat → Nat} (h : Shd a b) (v : Nat) : (a v ≠ 2 → b v = a v) ∧ (a v = 2 → b v = 2 ∨ b v = 3) := by
  induction h with
  | refl => exact ⟨fun _ => rfl, fun h => Or.inl h⟩
  | @step col' u _ hu ih =>
    by_cases e : v = u
    · subst e
      rw [updc_at]
      refine ⟨fun h => ?_, fun _ => Or.inr rfl⟩
      have := ih.1 h
      rw [hu] at this
      exact absurd this.symm h
    · rw [updc_ne _ _ e]; exact ih
theorem Shd.zero {a b : Nat → Nat} (h : Shd a b) (v : Nat) : b v = 0 ↔ a v = 0 := by
  have k := h.keep v
  constructor
  · intro e
    by_cases h2 : a v = 2
    · have := k.2 h2; omega
    · rw [← k.1 h2]; exact e
  · intro e; rw [k.1 (by omega)]; exact e
theorem Shd.not2 {a b : Nat → Nat} (h : Shd a b) {v : Nat} (hv : a v ≠ 2) : b v ≠ 2 := by rw [(h.keep v).1 hv]; exact hv

/-- The words that may be shaded: what they name isn't free. -/
def Safe (cs : List Nat) (L : Nat → Nat → List Nat) (x : Nat) : Prop := x < 18446744073709551616 ∧ ∀ c u, IsC cs c u → x = 8 * u + 1 → u ∉ L c 0
structure Shaded (s s' : TH) (L L' : Nat → Nat → List Nat) (d : Nat → Nat → Nat) : Prop where
  rep : Rep s' L' d
  same : Same s.count s.W s'.W
  eq : s' = { s with lists := s'.lists, W := s'.W }
  free : ∀ c, L' c 0 = L c 0
  shd : Shd (colOf L) (colOf L')
theorem Shaded.refl {s : TH} {L : Nat → Nat → List Nat} {d : Nat → Nat → Nat} (h : Rep s L d) : Shaded s s L L d := ⟨h, Same.refl _ _, rfl, fun _ => rfl, .refl⟩
theorem Shaded.trans {a b c : TH} {L L' M : Nat → Nat → List Nat} {d : Nat → Nat → Nat} (h : Shaded a b L L' d) (k : Shaded b c L' M d) : Shaded a c L M d :=
  ⟨k.rep, h.same.trans (by have := k.same; rw [h.eq] at this; exact this), by rw [k.eq, h.eq], fun c => (k.free c).trans (h.free c), h.shd.trans k.shd⟩
theorem Shaded.stat {a b : TH} {L L' : Nat → Nat → List Nat} {d : Nat → Nat → Nat} (h : Shaded a b L L' d) : b.count = a.count ∧ b.roots = a.roots ∧ b.now = a.now ∧ b.marking = a.marking ∧ b.k = a.k ∧ b.cycles = a.cycles := by
  rw [h.eq]; exact ⟨rfl, rfl, rfl, rfl, rfl, rfl⟩

theorem rep_less {s : TH} {L : Nat → Nat → List Nat} {d : Nat → Nat → Nat} (h : Rep s L d) {c l : Nat} (hc : c < 4) (hl : l < 4) (hd : d c l = 0) (hn : L c l ≠ []) (z : Nat) :
    Rep { lset s c l (lget s c l - 1) with tries := z } L (fun c2 l2 => d c2 l2 + if c2 = c ∧ l2 = l then 1 else 0) := by
  refine ⟨⟨h.ls.a, h.ls.b, by simpa [lset] using h.ls.c, h.ls.d⟩, h.st, h.big, ?_, h.wait, h.now, h.rl, h.cov, h.tot, h.mark, h.form⟩
  intro c2 l2 hc2 hl2
  have hcn := h.cnt c2 l2 hc2 hl2
  have hlg : lget { lset s c l (lget s c l - 1) with tries := z } c2 l2 = if c2 = c ∧ l2 = l then lget s c l - 1 else lget s c2 l2 := lget_lset h.ls hc hl hl2
  rw [hlg]
  by_cases e : c2 = c ∧ l2 = l
  · obtain ⟨rfl, rfl⟩ := e
    simp only [and_self, if_true]
    have := List.length_pos_iff.2 hn
    omega
  · simp only [if_neg e]
    omega

theorem rep_shade {s : TH} {L : Nat → Nat → List Nat} {d : Nat → Nat → Nat} (h : Rep s L d) (hd : ∀ c, d c 2 = 0) {x : Nat} (hx : Safe s.count L x) :
    ∃ s' L', tshade s x = some s' ∧ Shaded s s' L L' d ∧ (∀ c u, IsC s.count c u → x = 8 * u + 1 → colOf L' u ≠ 2) ∧ ∀ v, colOf L' v = 3 → colOf L v = 3 ∨ x = 8 * v + 1 := by
  unfold tshade
  rw [if_neg (by have := hx.1; omega)]
  cases hp : tplace s x with
  | none =>
    refine ⟨s, L, rfl, Shaded.refl h, fun c u hu e => ?_, fun v hv => Or.inl hv⟩
    have := h.tplace.2 ⟨e, hu⟩
    rw [hp] at this
    cases this
  | some p =>
    obtain ⟨u, c⟩ := p
    obtain ⟨ex, huc⟩ := h.tplace.1 hp
    obtain ⟨l, hl, hul⟩ := h.cov c u huc
    have hc := huc.1
    have hl0 : l ≠ 0 := fun e => hx.2 c u huc ex (e ▸ hul)
    have hmk := h.mark c l u hc hl hul
    have hnow := h.now
    simp only [Option.bind_eq_bind, h.rdh huc, Option.bind_some]
    by_cases hl2 : l = 2
    · subst hl2
      have hm := hmk.2.1 rfl
      have hcn := h.cnt c 2 hc (by omega)
      have hpos := List.length_pos_of_mem hul
      have hle := h.lget_le hc (show 2 < 4 by omega)
      have hd2 := hd c
      have hr := rep_less h hc (by omega) hd2 (List.ne_nil_of_mem hul) s.tries
      obtain ⟨t', hmv, hrep, hsame, heq, -, -⟩ := rep_move hr hc (by omega) (by omega) (by omega) (by omega) (show 2 ≠ 3 by omega) hul (by simp) (show 2 < 4 by omega) (fun e => by omega) (fun e => by omega) (fun _ => rfl)
      have hdd : (fun c2 l2 => (d c2 l2 + if c2 = c ∧ l2 = 2 then 1 else 0) - if c2 = c ∧ l2 = 2 then 1 else 0) = d := by
        funext c2 l2; split <;> omega
      rw [hdd] at hrep
      refine ⟨t', mv L c 2 3 u, ?_, ⟨hrep, hsame, heq, fun c2 => mv_free (by omega) (by omega) c2, ?_⟩, fun c' v hv e => ?_, fun v hv => ?_⟩
      · rw [hm]
        simp only [ne_eq, not_true_eq_false, if_false]
        unfold req
        rw [if_pos (by simp; omega), Option.bind_some, if_pos (by simp; omega), Option.bind_some]
        exact hmv
      · have hcnt : t'.count = s.count := by rw [heq]; rfl
        have hrl' := hrep.rl
        rw [hcnt] at hrl'
        rw [col_mv h.rl hrl' hc (by omega) (by omega) (by omega) hul]
        exact .step .refl (col_mem h.rl hc (by omega) hul)
      · have : v = u := by omega
        subst this
        have hcnt : t'.count = s.count := by rw [heq]; rfl
        have hrl' := hrep.rl
        rw [hcnt] at hrl'
        rw [col_mv h.rl hrl' hc (by omega) (by omega) (by omega) hul, updc_at]
        omega
      · have hcnt : t'.count = s.count := by rw [heq]; rfl
        have hrl' := hrep.rl
        rw [hcnt] at hrl'
        rw [col_mv h.rl hrl' hc (by omega) (by omega) (by omega) hul] at hv
        by_cases e : v = u
        · exact Or.inr (by rw [e]; exact ex)
        · rw [updc_ne _ _ e] at hv
          exact Or.inl hv
    · have hm : hmark (wat s.W u) ≠ 1 - s.now := by
        have : l = 1 ∨ l = 3 := by omega
        rcases this with rfl | rfl
        · rw [hmk.1 rfl]; omega
        · rw [hmk.2.2 rfl]; omega
      refine ⟨s, L, by rw [if_pos hm]; rfl, Shaded.refl h, fun c' v hv e => ?_, fun v hv => Or.inl hv⟩
      have : v = u := by omega
      subst this
      rw [col_mem h.rl hc hl hul]
      exact hl2

theorem shadeF_ok {c u : Nat} {d : Nat → Nat → Nat} (hd : ∀ c, d c 2 = 0) : ∀ (m j : Nat) (s : TH) (L : Nat → Nat → List Nat), Rep s L d → IsC s.count c u → j + m ≤ szs c →
    (∀ i, j ≤ i → i < j + m → Safe s.count L (wat s.W (u + 3 + i))) →
    ∃ s' L', shadeFields s u m j = some s' ∧ Shaded s s' L L' d ∧ ∀ i, j ≤ i → i < j + m → ∀ c' v, IsC s.count c' v → wat s.W (u + 3 + i) = 8 * v + 1 → colOf L' v ≠ 2 := by
  intro m
  induction m with
  | zero => intro j s L h hu hj hs; exact ⟨s, L, rfl, Shaded.refl h, fun i h1 h2 => by omega⟩
  | succ m ih =>
    intro j s L h hu hj hs
    obtain ⟨t, L1, e1, sh1, c1, -⟩ := rep_shade h hd (hs j (Nat.le_refl _) (by omega))
    have hcnt : t.count = s.count := sh1.stat.1
    have hfld : ∀ i, i < szs c → wat t.W (u + 3 + i) = wat s.W (u + 3 + i) := fun i hi => sh1.same.fld c u i hu hi
    obtain ⟨s', L', e2, sh2, c2⟩ := ih (j + 1) t L1 sh1.rep (by rw [hcnt]; exact hu) (by omega) (fun i h1 h2 => by
      rw [hfld i (by omega), hcnt]
      have := hs i (by omega) (by omega)
      exact ⟨this.1, fun c' v hv e => by rw [sh1.free]; exact this.2 c' v hv e⟩)
    refine ⟨s', L', ?_, sh1.trans sh2, fun i h1 h2 c' v hv e => ?_⟩
    · simp only [shadeFields, Option.bind_eq_bind]
      have hlt := hu.lt
      have hwl := h.rl.wl
      have : rd s.W (u + 3 + j) = some (wat s.W (u + 3 + j)) := by unfold rd; rw [if_pos (by omega)]
      rw [this, Option.bind_some, e1, Option.bind_some]
      exact e2
    · by_cases ei : i = j
      · subst ei
        exact sh2.shd.not2 (c1 c' v hv e)
      · exact c2 i (by omega) (by omega) c' v (by rw [hcnt]; exact hv) (by rw [hfld i (by omega)]; exact e)
theorem shadeAll_ok {d : Nat → Nat → Nat} (hd : ∀ c, d c 2 = 0) : ∀ (l : List Nat) (s : TH) (L : Nat → Nat → List Nat), Rep s L d → (∀ x ∈ l, Safe s.count L x) →
    ∃ s' L', shadeAll l s = some s' ∧ Shaded s s' L L' d ∧ (∀ x ∈ l, ∀ c' v, IsC s.count c' v → x = 8 * v + 1 → colOf L' v ≠ 2) ∧ ∀ v, colOf L' v = 3 → colOf L v = 3 ∨ ∃ x ∈ l, x = 8 * v + 1 := by
  intro l
  induction l with
  | nil => intro s L h hs; exact ⟨s, L, rfl, Shaded.refl h, (fun x hx => by cases hx), fun v hv => Or.inl hv⟩
  | cons y l ih =>
    intro s L h hs
    obtain ⟨t, L1, e1, sh1, c1, g1⟩ := rep_shade h hd (hs y List.mem_cons_self)
    have hcnt : t.count = s.count := sh1.stat.1
    obtain ⟨s', L', e2, sh2, c2, g2⟩ := ih t L1 sh1.rep (fun x hx => by
      rw [hcnt]
      have := hs x (List.mem_cons_of_mem _ hx)
      exact ⟨this.1, fun c' v hv e => by rw [sh1.free]; exact this.2 c' v hv e⟩)
    refine ⟨s', L', ?_, sh1.trans sh2, fun x hx c' v hv e => ?_, fun v hv => ?_⟩
    · simp only [shadeAll]
      rw [e1, Option.bind_some]
      exact e2
    · rcases List.mem_cons.1 hx with rfl | hx
      · exact sh2.shd.not2 (c1 c' v hv e)
      · exact c2 x hx c' v (by rw [hcnt]; exact hv) e
    · rcases g2 v hv with e | ⟨x, hx, e⟩
      · rcases g1 v e with e | e
        · exact Or.inl e
        · exact Or.inr ⟨y, List.mem_cons_self, e⟩
      · exact Or.inr ⟨x, List.mem_cons_of_mem _ hx, e⟩

/-- Who is named by a register. -/
def rootP (s : TH) (v : Nat) : Prop := 8 * v + 1 ∈ s.roots ∧ ∃ c, IsC s.count c v
/-- All is as it should be, between a program's doings. -/
structure St (s : TH) (L : Nat → Nat → List Nat) : Prop where
  rep : Rep s L d0
  gi : GI (colOf L) (edgeW s.count s.W) (rootP s)
  idle : s.marking = false → ∀ c, c < 4 → L c 2 = [] ∧ L c 3 = []
  wf : ∀ c u i, IsC s.count c u → i < szs c → wat s.W (u + 3 + i) < 18446744073709551616
  wr : ∀ x ∈ s.roots, x < 18446744073709551616
theorem safe_of {s : TH} {L : Nat → Nat → List Nat} {d : Nat → Nat → Nat} (h : Rep s L d) {x : Nat} (hx : x < 18446744073709551616) (hv : ∀ c v, IsC s.count c v → x = 8 * v + 1 → colOf L v ≠ 0) : Safe s.count L x :=
  ⟨hx, fun c u hu e hm => hv c u hu e (col_mem h.rl hu.1 (by omega) hm)⟩

theorem ring_first {cs W : List Nat} {L : Nat → Nat → List Nat} (h : RL cs W L) (hb : stt cs 4 ≤ 720051) {c l u : Nat} {M : List Nat} (hc : c < 4) (hl : l < 4) (he : L c l = u :: M) : oBehind W (thead c l) = some u := by
  have hr := h.ring c l hc hl
  rw [he] at hr
  have e : wat W (thead c l + 2) = u := hr.path.1.1
  have n1 := hr.node (thead c l) (by simp)
  have n2 := hr.node u (by simp)
  have := h.wl
  unfold oBehind isPlace
  rw [e]
  have h1 := n1.2
  have h2 := n2.2
  rw [if_pos (by simp; omega)]

theorem scanAt_ok {s : TH} {L : Nat → Nat → List Nat} (h : St s L) {c : Nat} (hc : c < 4) (hne : lget s c 3 ≠ 0) :
    ∃ s' L', tscanAt s c = some s' ∧ Rep s' L' d0 ∧ GI (colOf L') (edgeW s'.count s'.W) (rootP s') ∧ Same s.count s.W s'.W ∧ s' = { s with lists := s'.lists, W := s'.W, tries := 0 } ∧ ∀ c2, L' c2 0 = L c2 0 := by
  have hR := h.rep
  have hcn := hR.cnt c 3 hc (by omega)
  have hle := hR.lget_le hc (show 3 < 4 by omega)
  simp only [d0, Nat.add_zero] at hcn
  cases hL : L c 3 with
  | nil => rw [hL] at hcn; simp at hcn; omega
  | cons u M =>
    have hu : u ∈ L c 3 := by rw [hL]; simp
    have huc := hR.rl.mem c 3 u hc (by omega) hu
    have hbe := ring_first hR.rl (stt4_le hR.big) hc (by omega) hL
    have hr := rep_less hR hc (by omega) (show d0 c 3 = 0 from rfl) (List.ne_nil_of_mem hu) 0
    have hcol : colOf L u = 3 := col_mem hR.rl hc (by omega) hu
    obtain ⟨hform, hnl⟩ := hR.form c 3 u hc (by omega) (by omega) hu
    unfold tscanAt
    simp only [Option.bind_eq_bind, hbe, hR.rdh huc, Option.bind_some]
    have hreq : req (decide (lget s c 3 < 1000000)) = some () := by unfold req; rw [if_pos (by simp; omega)]
    rw [hreq, Option.bind_some]
    have hd0 : (fun c2 l2 => (d0 c2 l2 + if c2 = c ∧ l2 = 3 then 1 else 0) - if c2 = c ∧ l2 = 3 then 1 else 0) = d0 := by
      funext c2 l2; unfold d0; split <;> rfl
    rcases hform with hf | hf
    · rw [if_neg (by omega), if_pos hf]
      have hsafe : ∀ i, 0 ≤ i → i < 0 + hn (wat s.W u) → Safe s.count L (wat s.W (u + 3 + i)) := by
        intro i _ hi
        refine safe_of hR (h.wf c u i huc (by omega)) (fun c' v hv e => ?_)
        exact h.gi.alive u v (by omega) ⟨⟨c, i, huc, hf, by omega, by omega, e⟩, c', hv⟩
      obtain ⟨s2, L2, e2, sh, hnw⟩ := shadeF_ok (c := c) (u := u) (d := fun c2 l2 => d0 c2 l2 + if c2 = c ∧ l2 = 3 then 1 else 0) (fun c2 => by simp [d0]) (hn (wat s.W u)) 0 _ L hr huc (by omega) hsafe
      have hst := sh.stat
      have hcnt : s2.count = s.count := hst.1
      have hnow2 : s2.now = s.now := hst.2.2.1
      have hcol2 : colOf L2 u = 3 := by rw [(sh.shd.keep u).1 (by omega)]; exact hcol
      obtain ⟨c', hc', hu2⟩ := col_ne0 hcol2 (by omega)
      have hcc : c' = c := by
        have h1 := sh.rep.rl.mem c' 3 u hc' (by omega) hu2
        rw [hcnt] at h1
        exact h1.one huc
      subst hcc
      obtain ⟨t', hmv, hrep, hsame, heq, -, -⟩ := rep_move sh.rep hc' (by omega) (by omega) (by omega) (by omega) (show 3 ≠ 1 by omega) hu2 (by simp) (show s2.now < 4 by have := sh.rep.now; omega) (fun _ => rfl) (fun e => by omega) (fun e => by omega)
      rw [hd0] at hrep
      have hsame1 : Same s.count s.W s2.W := sh.same
      have hsame2 : Same s.count s.W t'.W := by
        rw [hcnt] at hsame
        exact hsame1.trans hsame
      have hcnt' : t'.count = s.count := by rw [heq]; exact hcnt
      have hroots' : t'.roots = s.roots := by rw [heq]; exact hst.2.1
      refine ⟨t', mv L2 c' 3 1 u, ?_, hrep, ?_, hsame2, ?_, fun c2 => ?_⟩
      · show (shadeFields _ u (hn (wat s.W u)) 0).bind _ = _
        have : shadeFields { lset s c' 3 (lget s c' 3 - 1) with tries := 0 } u (hn (wat s.W u)) 0 = some s2 := e2
        rw [this, Option.bind_some]
        exact hmv
      · have hrl' := hrep.rl
        rw [hcnt', ← hcnt] at hrl'
        rw [col_mv sh.rep.rl hrl' hc' (by omega) (by omega) (by omega) hu2]
        have g1 : GI (colOf L2) (edgeW s.count s.W) (rootP s) := sh.shd.gi h.gi
        have g2 := g1.toBlack hcol2 (fun v hv => by
          obtain ⟨⟨c2, i, hu3, f1, f2, f3, f4⟩, c3, hv3⟩ := hv
          exact hnw i (Nat.zero_le _) (by omega) c3 v hv3 f4) (colOf_le L2)
        have g3 : GI (updc (colOf L2) u 1) (edgeW t'.count t'.W) (rootP s) := by
          rw [hcnt']
          exact g2.edge_iff (fun a b => edge_same hsame2 a b)
        have hrp : rootP t' = rootP s := by funext v; unfold rootP; rw [hcnt', hroots']
        rw [hrp]
        exact g3
      · rw [heq, sh.eq]; rfl
      · rw [mv_free (by omega) (by omega)]
        exact sh.free c2
    · rw [if_neg (by omega), if_neg (by omega), if_pos hf]
      obtain ⟨t', hmv, hrep, hsame, heq, -, -⟩ := rep_move hr hc (by omega) (by omega) (by omega) (by omega) (show 3 ≠ 1 by omega) hu (by simp) (show s.now < 4 by have := hR.now; omega) (fun _ => rfl) (fun e => by omega) (fun e => by omega)
      rw [hd0] at hrep
      have hcnt' : t'.count = s.count := by rw [heq]; rfl
      have hroots' : t'.roots = s.roots := by rw [heq]; rfl
      refine ⟨t', mv L c 3 1 u, hmv, hrep, ?_, hsame, ?_, fun c2 => mv_free (by omega) (by omega) c2⟩
      · have hrl' := hrep.rl
        rw [hcnt'] at hrl'
        rw [col_mv hR.rl hrl' hc (by omega) (by omega) (by omega) hu]
        have g2 := h.gi.toBlack hcol (fun v hv => by
          obtain ⟨⟨c2, i, hu3, f1, f2, f3, f4⟩, c3, hv3⟩ := hv
          omega) (colOf_le L)
        have g3 : GI (updc (colOf L) u 1) (edgeW t'.count t'.W) (rootP s) := by
          rw [hcnt']
          exact g2.edge_iff (fun a b => edge_same hsame a b)
        have hrp : rootP t' = rootP s := by funext v; unfold rootP; rw [hcnt', hroots']
        rw [hrp]
        exact g3
      · rw [heq]; rfl

end Go.Proofs.Ytbjlapfcnldpoaa

/- A collector's step keeps what is reached: flip, end, increments. No program in sight. -/
namespace Go.Proofs.Ytbjlapfcnldpoaa
set_option linter.unusedVariables false
set_option linter.unusedSimpArgs false
open Go.RowKit

theorem jn_at {L : Nat → Nat → List Nat} {c p q : Nat} (hne : p ≠ q) (c2 l2 : Nat) : jn L c p q c2 l2 = if c2 = c ∧ l2 = p then L c p ++ L c q else if c2 = c ∧ l2 = q then [] else L c2 l2 := by
  unfold jn
  by_cases ec : c2 = c
  · subst ec
    by_cases e1 : l2 = p
    · subst e1; simp
    · by_cases e2 : l2 = q
      · subst e2; simp [e1]
      · simp [e1, e2]
  · simp [ec]

/-- Headers and fields are word by word the same. -/
def Eqw (cs W W' : List Nat) : Prop := (∀ c v, IsC cs c v → wat W' v = wat W v) ∧ ∀ c v i, IsC cs c v → i < szs c → wat W' (v + 3 + i) = wat W (v + 3 + i)
theorem Eqw.same {cs W W' : List Nat} (h : Eqw cs W W') : Same cs W W' := ⟨fun c v hv => by rw [h.1 c v hv]; exact ⟨rfl, rfl, rfl⟩, h.2⟩
theorem Eqw.trans {cs A B C : List Nat} (h : Eqw cs A B) (k : Eqw cs B C) : Eqw cs A C := ⟨fun c v hv => (k.1 c v hv).trans (h.1 c v hv), fun c v i hv hi => (k.2 c v i hv hi).trans (h.2 c v i hv hi)⟩

/-- The lists when k sizes' black ones have become white. -/
def flipL (L : Nat → Nat → List Nat) (k : Nat) : Nat → Nat → List Nat := fun c l => if c < k then (if l = 2 then L c 1 else if l = 1 then [] else L c l) else L c l
theorem flipL_step {L : Nat → Nat → List Nat} {k : Nat} (h2 : L k 2 = []) : jn (flipL L k) k 2 1 = flipL L (k + 1) := by
  funext c l
  rw [jn_at (by omega)]
  have e1 : flipL L k k 2 = [] := by unfold flipL; rw [if_neg (by omega)]; exact h2
  have e2 : flipL L k k 1 = L k 1 := by unfold flipL; rw [if_neg (by omega)]
  rw [e1, e2, List.nil_append]
  by_cases ec : c = k
  · subst ec
    by_cases el : l = 2
    · subst el; simp [flipL]
    · by_cases el1 : l = 1
      · subst el1; simp [flipL]
      · simp [flipL, el, el1]
  · have hk : (c < k + 1) ↔ (c < k) := by omega
    simp [flipL, ec, hk]

theorem flipN_ok {t : TH} {L : Nat → Nat → List Nat} (hls : THlen t) (hrl : RL t.count t.W L) (hcnt : ∀ c l, c < 4 → l < 4 → lget t c l = (L c l).length) (h2 : ∀ c, c < 4 → L c 2 = []) :
    ∀ k, k ≤ 4 → ∃ tk, tflipN k t = some tk ∧ tk = { t with lists := tk.lists, W := tk.W } ∧ THlen tk ∧ RL t.count tk.W (flipL L k) ∧ (∀ c l, c < 4 → l < 4 → lget tk c l = (flipL L k c l).length) ∧ Eqw t.count t.W tk.W := by
  intro k
  induction k with
  | zero => intro _; exact ⟨t, rfl, rfl, hls, hrl, hcnt, fun _ _ _ => rfl, fun _ _ _ _ _ => rfl⟩
  | succ k ih =>
    intro hk
    obtain ⟨tk, e1, e2, h3, h4, h5, h6⟩ := ih (by omega)
    obtain ⟨W', j1, j2, j3, j4⟩ := rl_join h4 (show k < 4 by omega) (show 2 < 4 by omega) (show 1 < 4 by omega) (by omega)
    rw [flipL_step (h2 k (by omega))] at j2
    refine ⟨lset (lset { tk with W := W' } k 2 (lget tk k 1)) k 1 0, ?_, ?_, ⟨h3.a, h3.b, by simpa [lset] using h3.c, h3.d⟩, j2, ?_, h6.trans ⟨j4, (j3 (fun _ => False)).fld⟩⟩
    · simp only [tflipN]
      rw [e1, Option.bind_some]
      unfold tflip1
      simp only [Option.bind_eq_bind, j1, Option.bind_some]
      rfl
    · rw [e2]; rfl
    · intro c l hc hl
      have g1 : lget (lset (lset { tk with W := W' } k 2 (lget tk k 1)) k 1 0) c l = if c = k ∧ l = 1 then 0 else if c = k ∧ l = 2 then lget tk k 1 else lget tk c l := by
        rw [lget_lset (len_lset (s := { tk with W := W' }) ⟨h3.a, h3.b, h3.c, h3.d⟩ _ _ _) (by omega) (by omega) hl]
        rw [lget_lset (s := { tk with W := W' }) ⟨h3.a, h3.b, h3.c, h3.d⟩ (by omega) (by omega) hl]
        rfl
      rw [g1]
      have g2 := h5 c l hc hl
      have g3 := h5 k 1 (by omega) (by omega)
      by_cases ec : c = k
      · subst ec
        have e0 : ∀ l, flipL L c c l = L c l := fun l => by simp [flipL]
        rw [e0] at g2 g3
        by_cases el : l = 1
        · subst el; simp [flipL]
        · by_cases el2 : l = 2
          · subst el2; simp [flipL, g3]
          · simp [flipL, el, el2, g2]
      · have hk2 : (c < k + 1) ↔ (c < k) := by omega
        have e0 : flipL L (k + 1) c l = flipL L k c l := by simp [flipL, hk2]
        rw [e0, ← g2]
        simp [ec]

theorem col_flip {cs W W' : List Nat} {L : Nat → Nat → List Nat} (h : RL cs W L) (h' : RL cs W' (flipL L 4)) (h2 : ∀ c, c < 4 → L c 2 = []) : colOf (flipL L 4) = flipc (colOf L) := by
  funext v
  unfold flipc
  by_cases hin : ∃ c l, c < 4 ∧ l < 4 ∧ v ∈ L c l
  · obtain ⟨c, l, hc, hl, hv⟩ := hin
    rw [col_mem h hc hl hv]
    by_cases e1 : l = 1
    · subst e1
      rw [if_pos rfl]
      refine col_mem h' hc (show 2 < 4 by omega) ?_
      unfold flipL
      rw [if_pos hc, if_pos rfl]
      exact hv
    · rw [if_neg e1]
      have e2 : l ≠ 2 := fun e => by subst e; rw [h2 c hc] at hv; cases hv
      refine col_mem h' hc hl ?_
      unfold flipL
      rw [if_pos hc, if_neg e2, if_neg e1]
      exact hv
  · rw [col_out h (fun c l hc hl hv => hin ⟨c, l, hc, hl, hv⟩)]
    refine col_out h' (fun c l hc hl hv => ?_)
    unfold flipL at hv
    rw [if_pos hc] at hv
    split at hv
    · exact hin ⟨c, 1, hc, by omega, hv⟩
    · split at hv
      · cases hv
      · exact hin ⟨c, l, hc, hl, hv⟩

/-- What is the same behind a step. -/
structure Kept (s s' : TH) : Prop where
  count : s'.count = s.count
  roots : s'.roots = s.roots
  k : s'.k = s.k
  cyc : s'.cycles ≤ s.cycles + 1
  same : Same s.count s.W s'.W
  free : ∀ c, c < 4 → lget s c 0 ≤ lget s' c 0

theorem rootP_eq {s s' : TH} (h1 : s'.count = s.count) (h2 : s'.roots = s.roots) : rootP s' = rootP s := by funext v; unfold rootP; rw [h1, h2]
theorem wf_same {s s' : TH} {L : Nat → Nat → List Nat} (h : St s L) (hc : s'.count = s.count) (hs : Same s.count s.W s'.W) : ∀ c u i, IsC s'.count c u → i < szs c → wat s'.W (u + 3 + i) < 18446744073709551616 := by
  intro c u i hu hi
  rw [hc] at hu
  rw [hs.fld c u i hu hi]
  exact h.wf c u i hu hi

/-- The lists are as the flip, or the end, lays them. -/
theorem flip_ok {s : TH} {L : Nat → Nat → List Nat} (h : St s L) (hm : s.marking = false) :
    ∃ s' L', tflip s = some s' ∧ St s' L' ∧ Kept s s' ∧ s'.marking = true ∧ s'.cycles = s.cycles ∧ (∀ c, L' c 0 = L c 0) ∧ Shd (flipc (colOf L)) (colOf L') ∧ (NC s.roots → ∀ v, colOf L' v ≠ 3) := by
  have hR := h.rep
  have hidle := h.idle hm
  have hcnt0 : ∀ c l, c < 4 → l < 4 → lget s c l = (L c l).length := fun c l hc hl => by have := hR.cnt c l hc hl; simpa [d0] using this
  obtain ⟨t4, e1, e2, h3, h4, h5, h6⟩ := flipN_ok (t := { s with now := 1 - s.now }) (L := L) ⟨hR.ls.a, hR.ls.b, hR.ls.c, hR.ls.d⟩ hR.rl hcnt0 (fun c hc => (hidle c hc).1) 4 (Nat.le_refl _)
  have hcol := col_flip hR.rl h4 (fun c hc => (hidle c hc).1)
  have hle : ∀ c l, c < 4 → flipL L 4 c l = if l = 2 then L c 1 else if l = 1 then [] else L c l := fun c l hc => by unfold flipL; rw [if_pos hc]
  -- the state behind the joins
  have ht4c : t4.count = s.count := by rw [e2]
  have hrep : Rep { t4 with marking := true, tries := 0 } (flipL L 4) d0 := by
    refine ⟨⟨h3.a, h3.b, h3.c, h3.d⟩, ?_, ?_, ?_, ?_, ?_, ?_, ?_, ?_, ?_, ?_⟩
    · show t4.start = starts t4.count
      rw [e2]; exact hR.st
    · show ∀ c, t4.count.getD c 0 ≤ 4000
      rw [ht4c]; exact hR.big
    · intro c l hc hl
      have := h5 c l hc hl
      simp only [d0, Nat.add_zero]
      exact this
    · show t4.wait = 0
      rw [e2]; exact hR.wait
    · show t4.now ≤ 1
      rw [e2]; show 1 - s.now ≤ 1; omega
    · show RL t4.count t4.W (flipL L 4)
      rw [ht4c]; exact h4
    · show ∀ c u, IsC t4.count c u → _
      rw [ht4c]
      intro c u hu
      obtain ⟨l, hl, hul⟩ := hR.cov c u hu
      by_cases el : l = 1
      · subst el
        exact ⟨2, by omega, by rw [hle c 2 hu.1, if_pos rfl]; exact hul⟩
      · have el2 : l ≠ 2 := fun e => by subst e; rw [(hidle c hu.1).1] at hul; cases hul
        exact ⟨l, hl, by rw [hle c l hu.1, if_neg el2, if_neg el]; exact hul⟩
    · show ∀ c, c < 4 → _ = t4.count.getD c 0
      rw [ht4c]
      intro c hc
      have := hR.tot c hc
      rw [hle c 0 hc, hle c 1 hc, hle c 2 hc, hle c 3 hc]
      rw [(hidle c hc).1] at this
      simpa using this
    · intro c l u hc hl hu
      show (_ → hmark (wat t4.W u) = t4.now) ∧ (_ → hmark (wat t4.W u) = 1 - t4.now) ∧ (_ → hmark (wat t4.W u) = 2)
      have hnow : t4.now = 1 - s.now := by rw [e2]
      have hn1 := hR.now
      rw [hle c l hc] at hu
      refine ⟨fun e => ?_, fun e => ?_, fun e => ?_⟩
      · subst e
        rw [if_neg (by omega), if_pos rfl] at hu; cases hu
      · subst e
        rw [if_pos rfl] at hu
        have huc := hR.rl.mem c 1 u hc (by omega) hu
        rw [h6.1 c u huc, hnow]
        have := (hR.mark c 1 u hc (by omega) hu).1 rfl
        rw [show ({ s with now := 1 - s.now } : TH).W = s.W from rfl, this]
        omega
      · subst e
        rw [if_neg (by omega), if_neg (by omega), (hidle c hc).2] at hu; cases hu
    · intro c l u hc h1 hl hu
      show (hform (wat t4.W u) = 1 ∨ hform (wat t4.W u) = 2) ∧ hn (wat t4.W u) ≤ szs c
      rw [hle c l hc] at hu
      split at hu
      · have huc := hR.rl.mem c 1 u hc (by omega) hu
        rw [h6.1 c u huc]
        exact hR.form c 1 u hc (by omega) (by omega) hu
      · split at hu
        · cases hu
        · have huc := hR.rl.mem c l u hc hl hu
          rw [h6.1 c u huc]
          exact hR.form c l u hc h1 hl hu
  have hW6 : Same s.count s.W t4.W := h6.same
  have hroots4 : t4.roots = s.roots := by rw [e2]
  have hcol0 : ∀ v, colOf (flipL L 4) v = 0 ↔ colOf L v = 0 := by
    intro v
    rw [hcol]
    unfold flipc
    split
    · rename_i e; rw [e]; simp
    · rfl
  have hsafe : ∀ x ∈ t4.roots, Safe ({ t4 with marking := true, tries := 0 } : TH).count (flipL L 4) x := by
    intro x hx
    rw [hroots4] at hx
    refine safe_of hrep (h.wr x hx) (fun c v hv e => ?_)
    have hv' : IsC s.count c v := by rw [← ht4c]; exact hv
    intro e0
    exact (h.gi.root v ⟨by rw [← e]; exact hx, c, hv'⟩).ne0 ((hcol0 v).1 e0)
  obtain ⟨s', L', e7, sh, hnw, hng⟩ := shadeAll_ok (d := d0) (fun _ => rfl) t4.roots _ _ hrep hsafe
  have hst := sh.stat
  have hcnt' : s'.count = s.count := hst.1.trans ht4c
  have hroots' : s'.roots = s.roots := hst.2.1.trans hroots4
  have hsame' : Same s.count s.W s'.W := by
    refine hW6.trans ?_
    have := sh.same
    rw [show ({ t4 with marking := true, tries := 0 } : TH).count = s.count from ht4c] at this
    exact this
  have hmk' : s'.marking = true := hst.2.2.2.1
  have hcyc' : s'.cycles = s.cycles := by rw [hst.2.2.2.2.2]; show t4.cycles = s.cycles; rw [e2]
  refine ⟨s', L', ?_, ⟨sh.rep, ?_, (fun e => by rw [hmk'] at e; cases e), wf_same h hcnt' hsame', by rw [hroots']; exact h.wr⟩, ⟨hcnt', hroots', ?_, by rw [hcyc']; omega, hsame', fun c hc => ?_⟩, hmk', hcyc', fun c => ?_, ?_, fun hnc => ?_⟩
  · rw [tflip_def, e1, Option.bind_some]
    exact e7
  · rw [rootP_eq hcnt' hroots', hcnt']
    refine GI.edge_iff (edge := edgeW s.count s.W) ?_ (fun a b => edge_same hsame' a b)
    refine GI.of_grey (fun u v hu he e0 => ?_) (fun u e => ?_) (fun v hv => ?_)
    · have hu' : colOf L u ≠ 0 := fun e => hu ((sh.shd.zero u).2 ((hcol0 u).2 e))
      exact h.gi.alive u v hu' he ((hcol0 v).1 ((sh.shd.zero v).1 e0))
    · have k := sh.shd.keep u
      have h1 : colOf (flipL L 4) u ≠ 1 := by
        rw [hcol]; unfold flipc; split
        · omega
        · assumption
      by_cases e2' : colOf (flipL L 4) u = 2
      · have := k.2 e2'; omega
      · rw [k.1 e2'] at e; exact h1 e
    · obtain ⟨hv1, c, hv2⟩ := hv
      have hn2 := hnw (8 * v + 1) (by rw [hroots4]; exact hv1) c v (by rw [show ({ t4 with marking := true, tries := 0 } : TH).count = s.count from ht4c]; exact hv2) rfl
      have hne0 := (h.gi.root v ⟨hv1, c, hv2⟩).ne0
      have hz : colOf L' v ≠ 0 := fun e => hne0 ((hcol0 v).1 ((sh.shd.zero v).1 e))
      have hle3 := colOf_le L' v
      have hn1 : colOf L' v ≠ 1 := by
        intro e
        have k := sh.shd.keep v
        have h1 : colOf (flipL L 4) v ≠ 1 := by
          rw [hcol]; unfold flipc; split
          · omega
          · assumption
        by_cases e2' : colOf (flipL L 4) v = 2
        · have := k.2 e2'; omega
        · rw [k.1 e2'] at e; exact h1 e
      omega
  · rw [hst.2.2.2.2.1]; show t4.k = s.k; rw [e2]
  · have h1 := sh.rep.cnt c 0 hc (by omega)
    have h2 := hcnt0 c 0 hc (by omega)
    simp only [d0, Nat.add_zero] at h1
    rw [h1, h2, sh.free c, hle c 0 hc, if_neg (by omega), if_neg (by omega)]
    exact Nat.le_refl _
  · rw [sh.free c]
    unfold flipL
    split
    · rfl
    · rfl
  · rw [← hcol]; exact sh.shd
  · intro v e3
    rcases hng v e3 with e | ⟨x, hx, e⟩
    · rw [hcol] at e
      unfold flipc at e
      split at e
      · omega
      · obtain ⟨c, hc, hv⟩ := col_ne0 e (by omega)
        rw [(hidle c hc).2] at hv
        cases hv
    · rw [hroots4] at hx
      have h1 := (hnc x hx).1
      obtain ⟨c, hc, hv⟩ := col_ne0 e3 (by omega)
      have hvc := sh.rep.rl.mem c 3 v hc (by omega) hv
      have h2 := hvc.lt
      have h3 := stt4_le sh.rep.big
      unfold tcell at h1
      simp only [Bool.and_eq_false_iff, beq_eq_false_iff_ne, decide_eq_false_iff_not] at h1
      omega

/-- The lists when k sizes' white ones have become free. -/
def endL (L : Nat → Nat → List Nat) (k : Nat) : Nat → Nat → List Nat := fun c l => if c < k then (if l = 0 then L c 0 ++ L c 2 else if l = 2 then [] else L c l) else L c l
theorem endL_step {L : Nat → Nat → List Nat} {k : Nat} : jn (endL L k) k 0 2 = endL L (k + 1) := by
  funext c l
  rw [jn_at (by omega)]
  have e0 : ∀ l, endL L k k l = L k l := fun l => by simp [endL]
  rw [e0, e0]
  by_cases ec : c = k
  · subst ec
    by_cases el : l = 0
    · subst el; simp [endL]
    · by_cases el1 : l = 2
      · subst el1; simp [endL]
      · simp [endL, el, el1]
  · have hk : (c < k + 1) ↔ (c < k) := by omega
    simp [endL, ec, hk]
theorem endN_ok {t : TH} {L : Nat → Nat → List Nat} (hls : THlen t) (hrl : RL t.count t.W L) (hcnt : ∀ c l, c < 4 → l < 4 → lget t c l = (L c l).length) (hb : ∀ c l, c < 4 → l < 4 → (L c l).length ≤ 4000) :
    ∀ k, k ≤ 4 → ∃ tk, tendN k t = some tk ∧ tk = { t with lists := tk.lists, W := tk.W } ∧ THlen tk ∧ RL t.count tk.W (endL L k) ∧ (∀ c l, c < 4 → l < 4 → lget tk c l = (endL L k c l).length) ∧ Eqw t.count t.W tk.W := by
  intro k
  induction k with
  | zero => intro _; exact ⟨t, rfl, rfl, hls, hrl, hcnt, fun _ _ _ => rfl, fun _ _ _ _ _ => rfl⟩
  | succ k ih =>
    intro hk
    obtain ⟨tk, e1, e2, h3, h4, h5, h6⟩ := ih (by omega)
    obtain ⟨W', j1, j2, j3, j4⟩ := rl_join h4 (show k < 4 by omega) (show 0 < 4 by omega) (show 2 < 4 by omega) (by omega)
    rw [endL_step] at j2
    have e0 : ∀ l, endL L k k l = L k l := fun l => by simp [endL]
    have g0 := h5 k 0 (by omega) (by omega)
    have g2 := h5 k 2 (by omega) (by omega)
    rw [e0] at g0 g2
    have b0 := hb k 0 (by omega) (by omega)
    have b2 := hb k 2 (by omega) (by omega)
    refine ⟨lset (lset { tk with W := W' } k 0 (lget tk k 0 + lget tk k 2)) k 2 0, ?_, ?_, ⟨h3.a, h3.b, by simpa [lset] using h3.c, h3.d⟩, j2, ?_, h6.trans ⟨j4, (j3 (fun _ => False)).fld⟩⟩
    · simp only [tendN]
      rw [e1, Option.bind_some]
      unfold tend1
      simp only [Option.bind_eq_bind, j1, Option.bind_some]
      unfold req
      rw [if_pos (by simp; omega)]
      rfl
    · rw [e2]; rfl
    · intro c l hc hl
      have g1 : lget (lset (lset { tk with W := W' } k 0 (lget tk k 0 + lget tk k 2)) k 2 0) c l = if c = k ∧ l = 2 then 0 else if c = k ∧ l = 0 then lget tk k 0 + lget tk k 2 else lget tk c l := by
        rw [lget_lset (len_lset (s := { tk with W := W' }) ⟨h3.a, h3.b, h3.c, h3.d⟩ _ _ _) (by omega) (by omega) hl]
        rw [lget_lset (s := { tk with W := W' }) ⟨h3.a, h3.b, h3.c, h3.d⟩ (by omega) (by omega) hl]
        rfl
      rw [g1]
      have g3 := h5 c l hc hl
      by_cases ec : c = k
      · subst ec
        rw [e0] at g3
        by_cases el : l = 2
        · subst el; simp [endL]
        · by_cases el2 : l = 0
          · subst el2; simp [endL, g0, g2]
          · simp [endL, el, el2, g3]
      · have hk2 : (c < k + 1) ↔ (c < k) := by omega
        have e0 : endL L (k + 1) c l = endL L k c l := by simp [endL, hk2]
        rw [e0, ← g3]
        simp [ec]
theorem col_end {cs W W' : List Nat} {L : Nat → Nat → List Nat} (h : RL cs W L) (h' : RL cs W' (endL L 4)) : colOf (endL L 4) = endc (colOf L) := by
  funext v
  unfold endc
  by_cases hin : ∃ c l, c < 4 ∧ l < 4 ∧ v ∈ L c l
  · obtain ⟨c, l, hc, hl, hv⟩ := hin
    rw [col_mem h hc hl hv]
    by_cases e2 : l = 2
    · subst e2
      rw [if_pos rfl]
      refine col_mem h' hc (show 0 < 4 by omega) ?_
      unfold endL
      rw [if_pos hc, if_pos rfl]
      exact List.mem_append_right _ hv
    · rw [if_neg e2]
      by_cases e0 : l = 0
      · subst e0
        refine col_mem h' hc (show 0 < 4 by omega) ?_
        unfold endL
        rw [if_pos hc, if_pos rfl]
        exact List.mem_append_left _ hv
      · refine col_mem h' hc hl ?_
        unfold endL
        rw [if_pos hc, if_neg e0, if_neg e2]
        exact hv
  · rw [col_out h (fun c l hc hl hv => hin ⟨c, l, hc, hl, hv⟩)]
    refine col_out h' (fun c l hc hl hv => ?_)
    unfold endL at hv
    rw [if_pos hc] at hv
    split at hv
    · rcases List.mem_append.1 hv with e | e
      · exact hin ⟨c, 0, hc, by omega, e⟩
      · exact hin ⟨c, 2, hc, by omega, e⟩
    · split at hv
      · cases hv
      · exact hin ⟨c, l, hc, hl, hv⟩

theorem end_ok {s : TH} {L : Nat → Nat → List Nat} (h : St s L) (hg : ∀ c, c < 4 → L c 3 = []) (hcy : s.cycles < 1000000) :
    ∃ s', tend s = some s' ∧ St s' (endL L 4) ∧ Kept s s' ∧ s'.marking = false ∧ colOf (endL L 4) = endc (colOf L) := by
  have hR := h.rep
  have hcnt0 : ∀ c l, c < 4 → l < 4 → lget s c l = (L c l).length := fun c l hc hl => by have := hR.cnt c l hc hl; simpa [d0] using this
  obtain ⟨t4, e1, e2, h3, h4, h5, h6⟩ := endN_ok hR.ls hR.rl hcnt0 (fun c l hc hl => hR.len_le hc hl) 4 (Nat.le_refl _)
  have hcol := col_end hR.rl h4
  have hle : ∀ c l, c < 4 → endL L 4 c l = if l = 0 then L c 0 ++ L c 2 else if l = 2 then [] else L c l := fun c l hc => by unfold endL; rw [if_pos hc]
  have ht4c : t4.count = s.count := by rw [e2]
  have ht4r : t4.roots = s.roots := by rw [e2]
  have hdef : tend s = some { t4 with marking := false, cycles := t4.cycles + 1 } := by
    have hcy4 : t4.cycles = s.cycles := by rw [e2]
    have : tend s = (tendN 4 s).bind fun s => (req (s.cycles < 1000000)).bind fun _ => some { s with marking := false, cycles := s.cycles + 1 } := by
      unfold tend
      simp only [tendN, Option.bind_eq_bind, Option.bind_some, Option.bind_assoc, Option.pure_def]
    rw [this, e1, Option.bind_some]
    unfold req
    rw [if_pos (by simp; omega), Option.bind_some]
  refine ⟨_, hdef, ⟨⟨⟨h3.a, h3.b, h3.c, h3.d⟩, ?_, ?_, ?_, ?_, ?_, ?_, ?_, ?_, ?_, ?_⟩, ?_, ?_, ?_, ?_⟩, ⟨ht4c, ht4r, by rw [e2], by rw [e2]; exact Nat.le_refl _, h6.same, ?_⟩, rfl, hcol⟩
  · show t4.start = starts t4.count
    rw [e2]; exact hR.st
  · show ∀ c, t4.count.getD c 0 ≤ 4000
    rw [ht4c]; exact hR.big
  · intro c l hc hl
    have := h5 c l hc hl
    simp only [d0, Nat.add_zero]
    exact this
  · show t4.wait = 0
    rw [e2]; exact hR.wait
  · show t4.now ≤ 1
    rw [e2]; exact hR.now
  · show RL t4.count t4.W (endL L 4)
    rw [ht4c]; exact h4
  · show ∀ c u, IsC t4.count c u → _
    rw [ht4c]
    intro c u hu
    obtain ⟨l, hl, hul⟩ := hR.cov c u hu
    by_cases el : l = 2
    · subst el
      exact ⟨0, by omega, by rw [hle c 0 hu.1, if_pos rfl]; exact List.mem_append_right _ hul⟩
    · refine ⟨l, hl, ?_⟩
      rw [hle c l hu.1]
      split
      · rename_i e; subst e; exact List.mem_append_left _ hul
      · exact hul
  · show ∀ c, c < 4 → _ = t4.count.getD c 0
    rw [ht4c]
    intro c hc
    have := hR.tot c hc
    rw [hle c 0 hc, hle c 1 hc, hle c 2 hc, hle c 3 hc]
    have e1 : (if (1 : Nat) = 0 then L c 0 ++ L c 2 else if (1 : Nat) = 2 then [] else L c 1) = L c 1 := rfl
    have e2 : (if (2 : Nat) = 0 then L c 0 ++ L c 2 else if (2 : Nat) = 2 then [] else L c 2) = [] := rfl
    have e3 : (if (3 : Nat) = 0 then L c 0 ++ L c 2 else if (3 : Nat) = 2 then [] else L c 3) = L c 3 := rfl
    rw [if_pos rfl, e1, e2, e3, List.length_append, List.length_nil]
    omega
  · intro c l u hc hl hu
    show (_ → hmark (wat t4.W u) = t4.now) ∧ (_ → hmark (wat t4.W u) = 1 - t4.now) ∧ (_ → hmark (wat t4.W u) = 2)
    have hnow : t4.now = s.now := by rw [e2]
    rw [hle c l hc] at hu
    rw [hnow]
    by_cases e0 : l = 0
    · subst e0; exact ⟨fun e => by omega, fun e => by omega, fun e => by omega⟩
    · rw [if_neg e0] at hu
      split at hu
      · cases hu
      · have huc := hR.rl.mem c l u hc hl hu
        rw [h6.1 c u huc]
        exact hR.mark c l u hc hl hu
  · intro c l u hc h1 hl hu
    show (hform (wat t4.W u) = 1 ∨ hform (wat t4.W u) = 2) ∧ hn (wat t4.W u) ≤ szs c
    rw [hle c l hc, if_neg (by omega)] at hu
    split at hu
    · cases hu
    · have huc := hR.rl.mem c l u hc hl hu
      rw [h6.1 c u huc]
      exact hR.form c l u hc h1 hl hu
  · show GI (colOf (endL L 4)) (edgeW t4.count t4.W) (rootP _)
    have hrp : rootP { t4 with marking := false, cycles := t4.cycles + 1 } = rootP s := rootP_eq ht4c ht4r
    rw [hrp, hcol, ht4c]
    refine GI.edge_iff (edge := edgeW s.count s.W) (h.gi.ends (fun v e => ?_) (colOf_le L)) (fun a b => edge_same h6.same a b)
    obtain ⟨c, hc, hv⟩ := col_ne0 e (by omega)
    rw [hg c hc] at hv
    cases hv
  · intro _ c hc
    rw [hle c 2 hc, hle c 3 hc]
    exact ⟨rfl, by simpa using hg c hc⟩
  · exact wf_same (s' := { t4 with marking := false, cycles := t4.cycles + 1 }) h ht4c h6.same
  · show ∀ x ∈ t4.roots, _
    rw [ht4r]; exact h.wr
  · intro c hc
    show lget s c 0 ≤ lget t4 c 0
    rw [hcnt0 c 0 hc (by omega), h5 c 0 hc (by omega), hle c 0 hc, if_pos rfl, List.length_append]
    omega

theorem Kept.refl (s : TH) : Kept s s := ⟨rfl, rfl, rfl, Nat.le_succ _, Same.refl _ _, fun _ _ => Nat.le_refl _⟩
/-- A step. -/
theorem step_ok {s : TH} {L : Nat → Nat → List Nat} (h : St s L) (hcy : s.cycles < 1000000) : ∃ s' L', tstep s = some s' ∧ St s' L' ∧ Kept s s' := by
  unfold tstep
  by_cases hm : s.marking = true
  · rw [if_pos hm]
    have hR := h.rep
    have hcnt0 : ∀ c l, c < 4 → l < 4 → lget s c l = (L c l).length := fun c l hc hl => by have := hR.cnt c l hc hl; simpa [d0] using this
    have hscan : ∀ c, c < 4 → lget s c 3 ≠ 0 → ∃ s' L', tscanAt s c = some s' ∧ St s' L' ∧ Kept s s' := by
      intro c hc hne
      obtain ⟨s', L', e1, hrep, hgi, hsame, heq, hfree⟩ := scanAt_ok h hc hne
      have hc' : s'.count = s.count := by rw [heq]
      have hr' : s'.roots = s.roots := by rw [heq]
      refine ⟨s', L', e1, ⟨hrep, hgi, fun e => ?_, wf_same h hc' hsame, by rw [hr']; exact h.wr⟩, ⟨hc', hr', by rw [heq], by rw [heq]; exact Nat.le_succ _, hsame, fun c2 hc2 => ?_⟩⟩
      · have : s'.marking = s.marking := by rw [heq]
        rw [this, hm] at e
        cases e
      · have h1 := hrep.cnt c2 0 hc2 (by omega)
        simp only [d0, Nat.add_zero] at h1
        rw [h1, hcnt0 c2 0 hc2 (by omega), hfree c2]
        exact Nat.le_refl _
    show ∃ s' L', ((tscan s).bind _) = some s' ∧ St s' L' ∧ Kept s s'
    unfold tscan
    by_cases z0 : lget s 0 3 ≠ 0
    · obtain ⟨s', L', e1, h1, h2⟩ := hscan 0 (by omega) z0
      exact ⟨s', L', by rw [if_pos z0, e1]; rfl, h1, h2⟩
    rw [if_neg z0]
    by_cases z1 : lget s 1 3 ≠ 0
    · obtain ⟨s', L', e1, h1, h2⟩ := hscan 1 (by omega) z1
      exact ⟨s', L', by rw [if_pos z1, e1]; rfl, h1, h2⟩
    rw [if_neg z1]
    by_cases z2 : lget s 2 3 ≠ 0
    · obtain ⟨s', L', e1, h1, h2⟩ := hscan 2 (by omega) z2
      exact ⟨s', L', by rw [if_pos z2, e1]; rfl, h1, h2⟩
    rw [if_neg z2]
    by_cases z3 : lget s 3 3 ≠ 0
    · obtain ⟨s', L', e1, h1, h2⟩ := hscan 3 (by omega) z3
      exact ⟨s', L', by rw [if_pos z3, e1]; rfl, h1, h2⟩
    rw [if_neg z3]
    have hg : ∀ c, c < 4 → L c 3 = [] := by
      intro c hc
      have hz : lget s c 3 = 0 := by
        have : c = 0 ∨ c = 1 ∨ c = 2 ∨ c = 3 := by omega
        rcases this with rfl | rfl | rfl | rfl <;> omega
      rw [hcnt0 c 3 hc (by omega)] at hz
      exact List.length_eq_zero_iff.1 hz
    obtain ⟨s', e1, h1, h2, -, -⟩ := end_ok h hg hcy
    refine ⟨s', _, ?_, h1, h2⟩
    show ((tlook s).bind _) = some s'
    have : tlook s = some none := by unfold tlook; rw [if_pos hR.wait]
    rw [this]
    exact e1
  · rw [if_neg hm]
    obtain ⟨s', L', e1, h1, h2, -⟩ := flip_ok h (by simpa using hm)
    exact ⟨s', L', e1, h1, h2⟩
/-- What is the same behind n steps. -/
structure KeptN (n : Nat) (s s' : TH) : Prop where
  count : s'.count = s.count
  roots : s'.roots = s.roots
  k : s'.k = s.k
  cyc : s'.cycles ≤ s.cycles + n
  same : Same s.count s.W s'.W
  free : ∀ c, c < 4 → lget s c 0 ≤ lget s' c 0
theorem incr_ok : ∀ (n : Nat) {s : TH} {L : Nat → Nat → List Nat}, St s L → s.cycles + n ≤ 1000000 → ∃ s' L', tincr n s = some s' ∧ St s' L' ∧ KeptN n s s' := by
  intro n
  induction n with
  | zero => intro s L h _; exact ⟨s, L, rfl, h, rfl, rfl, rfl, Nat.le_refl _, Same.refl _ _, fun _ _ => Nat.le_refl _⟩
  | succ n ih =>
    intro s L h hcy
    obtain ⟨t, L1, e1, h1, k1⟩ := step_ok h (by omega)
    obtain ⟨s', L', e2, h2, k2⟩ := ih h1 (by have := k1.cyc; omega)
    refine ⟨s', L', ?_, h2, k2.count.trans k1.count, k2.roots.trans k1.roots, k2.k.trans k1.k, by have := k1.cyc; have := k2.cyc; omega, k1.same.trans (by have := k2.same; rwa [k1.count] at this), fun c hc => Nat.le_trans (k1.free c hc) (k2.free c hc)⟩
    simp only [tincr]
    rw [e1, Option.bind_some]
    exact e2

end Go.Proofs.Ytbjlapfcnldpoaa

/- A cell is given out, a field and a register are set: what is reached is kept. No program in sight. -/
namespace Go.Proofs.Ytbjlapfcnldpoaa
set_option linter.unusedVariables false
set_option linter.unusedSimpArgs false
open Go.RowKit

theorem RL.field {cs W : List Nat} {L : Nat → Nat → List Nat} (h : RL cs W L) {c u i : Nat} (hu : IsC cs c u) (hi : i < szs c) (x : Nat) : RL cs (W.set (u + 3 + i) x) L := by
  have hw : u + 3 + i < W.length := by rw [h.wl]; have := hu.lt; omega
  refine ⟨by simpa using h.wl, fun c' l hc' hl => ?_, h.mem, h.disj, fun c' v hv => ?_⟩
  · refine (h.ring c' l hc' hl).frame (by simp) (fun v hv => ?_) (fun v hv => ?_)
    · rw [wat_set _ _ _ _ hw, if_neg (field_ne hu hi (h.mem_base hc' hl hv) (by omega))]
    · rw [wat_set _ _ _ _ hw, if_neg (field_ne hu hi (h.mem_base hc' hl hv) (by omega))]
  · rw [wat_set _ _ _ _ hw, if_neg (fun e => field_ne hu hi (Or.inr ⟨c', hv⟩) (Nat.zero_le 2) (by omega))]
    exact h.hdr c' v hv
/-- A field's word is another's only if it is the same field. -/
theorem field_inj {cs : List Nat} {c c' u v i j : Nat} (hu : IsC cs c u) (hv : IsC cs c' v) (hi : i < szs c) (hj : j < szs c') (h : u + 3 + i = v + 3 + j) : u = v ∧ i = j := by
  have := hu.apart hv
  omega

/-- The fields from i on are x, m of them. -/
theorem fillF_ok {cs : List Nat} {L : Nat → Nat → List Nat} {c u x : Nat} (hu : IsC cs c u) : ∀ (m i : Nat) (W : List Nat), RL cs W L → i + m ≤ szs c →
    ∃ W', fillF W u x m i = some W' ∧ RL cs W' L ∧ (∀ c v, IsC cs c v → wat W' v = wat W v) ∧ ∀ c' v j, IsC cs c' v → j < szs c' → wat W' (v + 3 + j) = if v = u ∧ i ≤ j ∧ j < i + m then x else wat W (v + 3 + j) := by
  intro m
  induction m with
  | zero => intro i W h hi; exact ⟨W, rfl, h, fun _ _ _ => rfl, fun c' v j hv hj => by rw [if_neg (by omega)]⟩
  | succ m ih =>
    intro i W h hi
    have hw : u + 3 + i < W.length := by rw [h.wl]; have := hu.lt; omega
    obtain ⟨W', e1, e2, e3, e4⟩ := ih (i + 1) _ (h.field hu (show i < szs c by omega) x) (by omega)
    refine ⟨W', ?_, e2, fun c' v hv => ?_, fun c' v j hv hj => ?_⟩
    · simp only [fillF]
      have : wrt W (u + 3 + i) x = some (W.set (u + 3 + i) x) := by unfold wrt; rw [if_pos hw]
      rw [this, Option.bind_some]
      exact e1
    · rw [e3 c' v hv, wat_set _ _ _ _ hw, if_neg (fun e => field_ne hu (show i < szs c by omega) (Or.inr ⟨c', hv⟩) (Nat.zero_le 2) (by omega))]
    · rw [e4 c' v j hv hj]
      by_cases e : v = u
      · subst e
        have := hu.one hv
        subst this
        rw [wat_set _ _ _ _ hw]
        by_cases hj' : j = i
        · subst hj'
          rw [if_neg (by omega), if_pos rfl, if_pos (by omega)]
        · rw [if_neg (show ¬ v + 3 + j = v + 3 + i by omega)]
          by_cases h1 : i + 1 ≤ j ∧ j < i + 1 + m
          · rw [if_pos ⟨rfl, h1⟩, if_pos ⟨rfl, by omega⟩]
          · rw [if_neg (fun e => h1 e.2), if_neg (fun e => h1 (by omega))]
      · rw [if_neg (fun e' => e e'.1), if_neg (fun e' => e e'.1), wat_set _ _ _ _ hw, if_neg (fun e' => e (field_inj hv hu hj (by omega) e').1)]

theorem szs_tcls {n : Nat} (h : n ≤ 127) : n ≤ szs (tcls n) := by
  unfold tcls
  split
  · simpa [szs] using by assumption
  · split
    · simpa [szs] using by assumption
    · split
      · simpa [szs] using by assumption
      · simpa [szs] using h
theorem wat_set_self (W : List Nat) (p : Nat) (h : p < W.length) : W.set p (wat W p) = W := by
  apply List.ext_getElem?
  intro i
  by_cases e : i = p
  · subst e
    rw [List.getElem?_set_self h]
    unfold wat
    simp [List.getD, h]
  · rw [List.getElem?_set_ne (by omega)]

/-- It won't be lost. -/
def IsOK (s : TH) (L : Nat → Nat → List Nat) (v : Nat) : Prop := OK (colOf L) (edgeW s.count s.W) v
/-- What is in a new cell's state, and what stays. -/
structure Took (s s' : TH) (L L' : Nat → Nat → List Nat) (u form tag n fill : Nat) : Prop where
  st : St s' L'
  isC : IsC s.count (tcls n) u
  was : colOf L u = 0
  ok : IsOK s' L' u
  hdr : wat s'.W u = hdr form tag s.now n
  fld : ∀ i, i < n → wat s'.W (u + 3 + i) = fill
  count : s'.count = s.count
  roots : s'.roots = s.roots
  k : s'.k = s.k
  cyc : s'.cycles = s.cycles
  marking : s'.marking = s.marking
  othH : ∀ c v, IsC s.count c v → v ≠ u → wat s'.W v = wat s.W v
  othF : ∀ c v i, IsC s.count c v → v ≠ u → i < szs c → wat s'.W (v + 3 + i) = wat s.W (v + 3 + i)
  oks : ∀ v, IsOK s L v → IsOK s' L' v
  col : colOf L' = updc (colOf L) u 1
  free : ∀ c, c < 4 → lget s c 0 ≤ lget s' c 0 + (if c = tcls n then 1 else 0)

theorem take_ok {s : TH} {L : Nat → Nat → List Nat} (h : St s L) {form tag n : Nat} (hf : form = 1 ∨ form = 2) (ht : tag < 16) (hn : n ≤ 127) (hpos : 0 < lget s (tcls n) 0) :
    ∃ s' L' u, ttake s form tag n = some (s', 8 * u + 1) ∧ Took s s' L L' u form tag n (if form = 2 then 0 else 12) := by
  have hR := h.rep
  have hc := tcls_lt n
  have hsz := szs_tcls hn
  obtain ⟨c, hce⟩ : ∃ c, tcls n = c := ⟨_, rfl⟩
  obtain ⟨fill, hfill⟩ : ∃ x, (if form = 2 then 0 else 12) = x := ⟨_, rfl⟩
  rw [hce] at hc hsz hpos
  have hfb : fill = 0 ∨ fill = 12 := by rw [← hfill]; split <;> omega
  have hcnt0 : ∀ c l, c < 4 → l < 4 → lget s c l = (L c l).length := fun c l hc hl => by have := hR.cnt c l hc hl; simpa [d0] using this
  cases hL : L c 0 with
  | nil => rw [hcnt0 c 0 hc (by omega), hL] at hpos; simp at hpos
  | cons u M =>
    have hu : u ∈ L c 0 := by rw [hL]; simp
    have huc := hR.rl.mem c 0 u hc (by omega) hu
    have hbe := ring_first hR.rl (stt4_le hR.big) hc (by omega) hL
    have hw : u < s.W.length := by have := (hR.rl.node (Or.inr ⟨c, huc⟩)).2; omega
    obtain ⟨W1, W2, W3, e1, e2, e3, hrl, hfr, hx⟩ := rl_move hR.rl hc (show 0 < 4 by omega) (show 1 < 4 by omega) (by omega) hu (hR.rl.hdr c u huc)
    have e1' : W1 = s.W := by
      unfold wrt at e1
      rw [if_pos hw, wat_set_self _ _ hw] at e1
      injection e1 with e1
      exact e1.symm
    subst e1'
    have hhd : hdr form tag s.now n < 65536 := hdr_lt (by omega) ht (by have := hR.now; omega) (by omega)
    have hrl4 := hrl.header huc hhd
    have hw3 : u < W3.length := by have := (hrl.node (Or.inr ⟨c, huc⟩)).2; omega
    have hfr4 := fr_header (x := hdr form tag s.now n) huc hw3
    have hu4 : wat (W3.set u (hdr form tag s.now n)) u = hdr form tag s.now n := by rw [wat_set _ _ _ _ hw3, if_pos rfl]
    have e4 : wrt W3 u (hdr form tag s.now n) = some (W3.set u (hdr form tag s.now n)) := by unfold wrt; rw [if_pos hw3]
    generalize W3.set u (hdr form tag s.now n) = W4 at *
    obtain ⟨W5, e5, hrl5, g1, g2⟩ := fillF_ok (x := fill) huc n 0 W4 hrl4 (by omega)
    have hcol : colOf (mv L c 0 1 u) = updc (colOf L) u 1 := col_mv hR.rl hrl5 hc (by omega) (by omega) (by omega) hu
    have hcu : colOf L u = 0 := col_mem hR.rl hc (by omega) hu
    have hle0 := hR.lget_le hc (show 0 < 4 by omega)
    have hle1 := hR.lget_le hc (show 1 < 4 by omega)
    have hgu : wat W5 u = hdr form tag s.now n := by rw [g1 c u huc, hu4]
    have othH : ∀ c v, IsC s.count c v → v ≠ u → wat W5 v = wat s.W v := by
      intro c' v hv hne
      rw [g1 c' v hv, hfr4.hdr c' v hv hne, hfr.hdr c' v hv hne]
    have othF : ∀ c v i, IsC s.count c v → v ≠ u → i < szs c → wat W5 (v + 3 + i) = wat s.W (v + 3 + i) := by
      intro c' v i hv hne hi
      rw [g2 c' v i hv hi, if_neg (fun e => hne e.1), hfr4.fld c' v i hv hi, hfr.fld c' v i hv hi]
    have fldu : ∀ i, i < n → wat W5 (u + 3 + i) = fill := by
      intro i hi
      rw [g2 c u i huc (by omega), if_pos ⟨rfl, by omega, by omega⟩]
    have hE : ∀ a b, a ≠ u → (edgeW s.count W5 a b ↔ edgeW s.count s.W a b) := by
      intro a b hne
      constructor
      · rintro ⟨⟨c', i, ha, f1, f2, f3, f4⟩, hb⟩
        rw [othH c' a ha hne] at f1 f2
        rw [othF c' a i ha hne f3] at f4
        exact ⟨⟨c', i, ha, f1, f2, f3, f4⟩, hb⟩
      · rintro ⟨⟨c', i, ha, f1, f2, f3, f4⟩, hb⟩
        exact ⟨⟨c', i, ha, by rw [othH c' a ha hne]; exact f1, by rw [othH c' a ha hne]; exact f2, f3, by rw [othF c' a i ha hne f3]; exact f4⟩, hb⟩
    have hN : ∀ b, ¬ edgeW s.count W5 u b := by
      rintro b ⟨⟨c', i, ha, f1, f2, f3, f4⟩, hb⟩
      rw [hgu, hn_hdr (by omega) ht (by have := hR.now; omega) (by omega)] at f2
      rw [fldu i f2] at f4
      omega
    have hgi := h.gi.alloc hcu hE hN
    have hroot : rootP { took s c with W := W5 } = rootP s := rfl
    have hlg : ∀ c2 l2, c2 < 4 → l2 < 4 → lget { took s c with W := W5 } c2 l2 = if c2 = c ∧ l2 = 1 then lget s c 1 + 1 else if c2 = c ∧ l2 = 0 then lget s c 0 - 1 else lget s c2 l2 := by
      intro c2 l2 hc2 hl2
      show lget (took s c) c2 l2 = _
      unfold took
      rw [lget_lset (len_lset hR.ls _ _ _) hc (by omega) hl2, lget_lset hR.ls hc (by omega) hl2]
    have hrep : Rep { took s c with W := W5 } (mv L c 0 1 u) d0 := by
      refine ⟨⟨hR.ls.a, hR.ls.b, by simpa [took, lset] using hR.ls.c, hR.ls.d⟩, hR.st, hR.big, ?_, hR.wait, hR.now, hrl5, ?_, ?_, ?_, ?_⟩
      · intro c2 l2 hc2 hl2
        rw [hlg c2 l2 hc2 hl2]
        have hml := mv_length hu (show 0 ≠ 1 by omega) c2 l2
        have hcn := hcnt0 c2 l2 hc2 hl2
        have hcn0 := hcnt0 c 0 hc (by omega)
        simp only [d0, Nat.add_zero]
        by_cases a1 : c2 = c ∧ l2 = 1
        · obtain ⟨rfl, rfl⟩ := a1
          rw [if_pos ⟨rfl, rfl⟩]
          simp at hml
          omega
        · rw [if_neg a1]
          by_cases a0 : c2 = c ∧ l2 = 0
          · obtain ⟨rfl, rfl⟩ := a0
            rw [if_pos ⟨rfl, rfl⟩]
            simp at hml
            omega
          · rw [if_neg a0]
            rw [if_neg a0, if_neg a1] at hml
            omega
      · intro c2 v hv
        obtain ⟨l2, hl2, hv2⟩ := hR.cov c2 v hv
        by_cases e : c2 = c ∧ v = u
        · obtain ⟨rfl, rfl⟩ := e
          exact ⟨1, by omega, mv_self (by omega)⟩
        · exact ⟨l2, hl2, mv_mem hv2 (by omega) (fun e' => e ⟨e'.1, e'.2.2⟩)⟩
      · intro c2 hc2
        have ht := hR.tot c2 hc2
        have m0 := mv_length hu (show 0 ≠ 1 by omega) c2 0
        have m1 := mv_length hu (show 0 ≠ 1 by omega) c2 1
        have m2 := mv_length hu (show 0 ≠ 1 by omega) c2 2
        have m3 := mv_length hu (show 0 ≠ 1 by omega) c2 3
        show _ = s.count.getD c2 0
        by_cases ec : c2 = c
        · subst ec; simp at m0 m1 m2 m3; omega
        · simp only [ec, false_and, if_false] at m0 m1 m2 m3; omega
      · intro c2 l2 v hc2 hl2 hv
        show (_ → hmark (wat W5 v) = s.now) ∧ (_ → hmark (wat W5 v) = 1 - s.now) ∧ (_ → hmark (wat W5 v) = 2)
        rcases mem_mv (hR.rl.nodup hc (by omega)) (by omega) hv with ⟨rfl, rfl, rfl⟩ | ⟨hv2, hnn⟩
        · rw [hgu, hmark_hdr (by omega) ht (by have := hR.now; omega) (by omega)]
          exact ⟨fun _ => rfl, fun e => by omega, fun e => by omega⟩
        · have hvc := hR.rl.mem c2 l2 v hc2 hl2 hv2
          have hvu : v ≠ u := by
            intro e
            subst e
            have e1 := huc.one hvc
            subst e1
            exact hnn ⟨rfl, hR.rl.disj c l2 0 v hc hl2 (by omega) hv2 hu, rfl⟩
          rw [othH c2 v hvc hvu]
          exact hR.mark c2 l2 v hc2 hl2 hv2
      · intro c2 l2 v hc2 h1 hl2 hv
        show (hform (wat W5 v) = 1 ∨ hform (wat W5 v) = 2) ∧ Go.Proofs.Ytbjlapfcnldpoaa.hn (wat W5 v) ≤ szs c2
        rcases mem_mv (hR.rl.nodup hc (by omega)) (by omega) hv with ⟨rfl, rfl, rfl⟩ | ⟨hv2, hnn⟩
        · rw [hgu, hform_hdr (by omega) ht (by have := hR.now; omega) (by omega), hn_hdr (by omega) ht (by have := hR.now; omega) (by omega)]
          exact ⟨hf, by omega⟩
        · have hvc := hR.rl.mem c2 l2 v hc2 hl2 hv2
          have hvu : v ≠ u := by
            intro e
            subst e
            have e1 := huc.one hvc
            subst e1
            exact hnn ⟨rfl, hR.rl.disj c l2 0 v hc hl2 (by omega) hv2 hu, rfl⟩
          rw [othH c2 v hvc hvu]
          exact hR.form c2 l2 v hc2 h1 hl2 hv2
    refine ⟨{ took s c with W := W5 }, mv L c 0 1 u, u, ?_, ⟨⟨hrep, ?_, ?_, ?_, h.wr⟩, by rw [hce]; exact huc, hcu, ?_, hgu, by rw [hfill]; exact fldu, rfl, rfl, rfl, rfl, rfl, othH, othF, ?_, hcol, ?_⟩⟩
    · unfold ttake
      rw [hce, hfill]
      have r1 : req (decide (lget s c 0 > 0)) = some () := by unfold req; rw [if_pos (by simp; omega)]
      have r2 : req (decide (lget s c 0 < 1000000)) = some () := by unfold req; rw [if_pos (by simp; omega)]
      have r3 : req (decide (lget s c 1 < 1000000)) = some () := by unfold req; rw [if_pos (by simp; omega)]
      simp only [Option.bind_eq_bind, r1, r2, r3, hbe, Option.bind_some]
      have q1 : oRemove (lset (lset s c 0 (lget s c 0 - 1)) c 1 (lget (lset s c 0 (lget s c 0 - 1)) c 1 + 1)).W u = some W2 := e2
      rw [q1, Option.bind_some, e3, Option.bind_some]
      have q2 : wrt W3 u (hdr form tag (lset (lset s c 0 (lget s c 0 - 1)) c 1 (lget (lset s c 0 (lget s c 0 - 1)) c 1 + 1)).now n) = some W4 := e4
      rw [q2, Option.bind_some, e5, Option.bind_some, lget_lset_ne (by omega)]
      rfl
    · rw [hroot]
      show GI (colOf (mv L c 0 1 u)) (edgeW s.count W5) (rootP s)
      rw [hcol]
      exact hgi
    · intro hm c2 hc2
      have := h.idle hm c2 hc2
      have m2 : mv L c 0 1 u c2 2 = L c2 2 := by unfold mv; split <;> simp_all
      have m3 : mv L c 0 1 u c2 3 = L c2 3 := by unfold mv; split <;> simp_all
      rw [m2, m3]
      exact this
    · intro c2 v i hv hi
      show wat W5 (v + 3 + i) < _
      by_cases e : v = u
      · subst e
        rw [g2 c2 v i hv hi]
        split
        · omega
        · rw [hfr4.fld c2 v i hv hi, hfr.fld c2 v i hv hi]
          exact h.wf c2 v i hv hi
      · rw [othF c2 v i hv e hi]
        exact h.wf c2 v i hv hi
    · unfold IsOK
      rw [hcol]
      exact Or.inl (updc_at _ _ _)
    · intro v hv
      unfold IsOK
      rw [hcol]
      exact ok_alloc hcu hE hv
    · intro c2 hc2
      rw [hlg c2 0 hc2 (by omega), if_neg (by omega), hce]
      by_cases e : c2 = c
      · subst e; simp; omega
      · simp [e]

/-- A register is set. -/
theorem setRoot_ok {s : TH} {L : Nat → Nat → List Nat} (h : St s L) {i x : Nat} (hx : x < 18446744073709551616) (hok : ∀ c v, IsC s.count c v → x = 8 * v + 1 → IsOK s L v) : St (setRoot s i x) L := by
  have hmem : ∀ y, y ∈ s.roots.set i x → y = x ∨ y ∈ s.roots := by
    intro y hy
    rcases List.mem_or_eq_of_mem_set hy with e | e
    · exact Or.inr e
    · exact Or.inl e
  refine ⟨⟨⟨h.rep.ls.a, h.rep.ls.b, h.rep.ls.c, by simpa [setRoot] using h.rep.ls.d⟩, h.rep.st, h.rep.big, h.rep.cnt, h.rep.wait, h.rep.now, h.rep.rl, h.rep.cov, h.rep.tot, h.rep.mark, h.rep.form⟩, ?_, h.idle, h.wf, ?_⟩
  · refine h.gi.roots (fun v hv => ?_)
    obtain ⟨h1, c, h2⟩ := hv
    rcases hmem _ h1 with e | e
    · exact hok c v h2 e.symm
    · exact h.gi.root v ⟨e, c, h2⟩
  · intro y hy
    rcases hmem y hy with e | e
    · rw [e]; exact hx
    · exact h.wr y e

end Go.Proofs.Ytbjlapfcnldpoaa

/- A field is set: what is reached is kept. No program in sight. -/
namespace Go.Proofs.Ytbjlapfcnldpoaa
set_option linter.unusedVariables false
set_option linter.unusedSimpArgs false
open Go.RowKit

/-- What Set does, where it refuses nothing. -/
def tset (s : TH) (u i x : Nat) : Option TH :=
  (rdh s.W u).bind fun h => (rd s.W (u + 3 + i)).bind fun old => (if hform h = 1 ∧ s.marking = true then tshade s old else some s).bind fun s1 => (wrt s1.W (u + 3 + i) x).map fun W => { s1 with W := W }
structure SetTo (s s' : TH) (L L' : Nat → Nat → List Nat) (u i x : Nat) : Prop where
  st : St s' L'
  shape : ∀ c v, IsC s.count c v → hform (wat s'.W v) = hform (wat s.W v) ∧ htag (wat s'.W v) = htag (wat s.W v) ∧ hn (wat s'.W v) = hn (wat s.W v)
  fld : ∀ c v j, IsC s.count c v → j < szs c → wat s'.W (v + 3 + j) = if v = u ∧ j = i then x else wat s.W (v + 3 + j)
  count : s'.count = s.count
  roots : s'.roots = s.roots
  k : s'.k = s.k
  cyc : s'.cycles = s.cycles
  marking : s'.marking = s.marking
  free : ∀ c, c < 4 → lget s c 0 ≤ lget s' c 0
  oks : ∀ v, IsOK s L v → IsOK s' L' v
  alive : ∀ v, colOf L v ≠ 0 → colOf L' v ≠ 0
  grey : ∀ v, colOf L' v = 3 → colOf L v = 3 ∨ wat s.W (u + 3 + i) = 8 * v + 1

theorem shaded_st {s s1 : TH} {L L1 : Nat → Nat → List Nat} (h : St s L) (sh : Shaded s s1 L L1 d0) (hid : s.marking = true) : St s1 L1 := by
  have hst := sh.stat
  refine ⟨sh.rep, ?_, fun e => ?_, wf_same h hst.1 sh.same, by rw [hst.2.1]; exact h.wr⟩
  · rw [rootP_eq hst.1 hst.2.1, hst.1]
    exact (sh.shd.gi h.gi).edge_iff (fun a b => edge_same sh.same a b)
  · rw [hst.2.2.2.1, hid] at e
    cases e

/-- The store itself, where no white one is named by the old word. -/
theorem store_ok {s : TH} {L : Nat → Nat → List Nat} (h : St s L) {c u i x : Nat} (hu : IsC s.count c u) (hi : i < szs c) (hx : x < 18446744073709551616)
    (hold : hform (wat s.W u) = 1 → ∀ c' v, IsC s.count c' v → wat s.W (u + 3 + i) = 8 * v + 1 → colOf L v ≠ 2) (hok : hform (wat s.W u) = 1 → ∀ c' v, IsC s.count c' v → x = 8 * v + 1 → IsOK s L v) :
    ∃ s', (wrt s.W (u + 3 + i) x).map (fun W => ({ s with W := W } : TH)) = some s' ∧ SetTo s s' L L u i x := by
  have hR := h.rep
  have hw : u + 3 + i < s.W.length := by rw [hR.rl.wl]; have := hu.lt; omega
  have e1 : wrt s.W (u + 3 + i) x = some (s.W.set (u + 3 + i) x) := by unfold wrt; rw [if_pos hw]
  have hdr : ∀ c v, IsC s.count c v → wat (s.W.set (u + 3 + i) x) v = wat s.W v := fun c' v hv => by
    rw [wat_set _ _ _ _ hw, if_neg (fun e => field_ne hu hi (Or.inr ⟨c', hv⟩) (Nat.zero_le 2) (by omega))]
  have fld : ∀ c v j, IsC s.count c v → j < szs c → wat (s.W.set (u + 3 + i) x) (v + 3 + j) = if v = u ∧ j = i then x else wat s.W (v + 3 + j) := fun c' v j hv hj => by
    rw [wat_set _ _ _ _ hw]
    by_cases e : v = u ∧ j = i
    · rw [if_pos e, if_pos (by rw [e.1, e.2])]
    · rw [if_neg e, if_neg (fun e' => e (field_inj hv hu hj hi e'))]
  have hrl := hR.rl.field hu hi x
  generalize s.W.set (u + 3 + i) x = W1 at *
  have hE : ∀ a b, a ≠ u → (edgeW s.count W1 a b ↔ edgeW s.count s.W a b) := by
    intro a b hne
    constructor
    · rintro ⟨⟨c', j, ha, f1, f2, f3, f4⟩, hb⟩
      rw [hdr c' a ha] at f1 f2
      rw [fld c' a j ha f3, if_neg (fun e => hne e.1)] at f4
      exact ⟨⟨c', j, ha, f1, f2, f3, f4⟩, hb⟩
    · rintro ⟨⟨c', j, ha, f1, f2, f3, f4⟩, hb⟩
      exact ⟨⟨c', j, ha, by rw [hdr c' a ha]; exact f1, by rw [hdr c' a ha]; exact f2, f3, by rw [fld c' a j ha f3, if_neg (fun e => hne e.1)]; exact f4⟩, hb⟩
  have hK : ∀ b, edgeW s.count s.W u b → colOf L b = 2 → edgeW s.count W1 u b := by
    rintro b ⟨⟨c', j, ha, f1, f2, f3, f4⟩, c2, hb⟩ hb2
    have ec := ha.one hu
    subst ec
    by_cases ej : j = i
    · subst ej
      exact absurd hb2 (hold f1 c2 b hb f4)
    · exact ⟨⟨c', j, ha, by rw [hdr c' u ha]; exact f1, by rw [hdr c' u ha]; exact f2, f3, by rw [fld c' u j ha f3, if_neg (fun e => ej e.2)]; exact f4⟩, c2, hb⟩
  have hN : ∀ b, edgeW s.count W1 u b → edgeW s.count s.W u b ∨ OK (colOf L) (edgeW s.count s.W) b := by
    rintro b ⟨⟨c', j, ha, f1, f2, f3, f4⟩, c2, hb⟩
    rw [hdr c' u ha] at f1 f2
    rw [fld c' u j ha f3] at f4
    by_cases ej : j = i
    · rw [if_pos ⟨rfl, ej⟩] at f4
      exact Or.inr (hok f1 c2 b hb f4)
    · rw [if_neg (fun e => ej e.2)] at f4
      exact Or.inl ⟨⟨c', j, ha, f1, f2, f3, f4⟩, c2, hb⟩
  refine ⟨{ s with W := W1 }, by rw [e1]; rfl, ⟨⟨⟨⟨hR.ls.a, hR.ls.b, hR.ls.c, hR.ls.d⟩, hR.st, hR.big, hR.cnt, hR.wait, hR.now, hrl, hR.cov, hR.tot, ?_, ?_⟩, h.gi.write hE hK hN, h.idle, ?_, h.wr⟩, fun c' v hv => by rw [hdr c' v hv]; exact ⟨rfl, rfl, rfl⟩, fld, rfl, rfl, rfl, rfl, rfl, fun _ _ => Nat.le_refl _, ?_, fun v hv => hv, fun v hv => Or.inl hv⟩⟩
  · intro c2 l v hc2 hl hv
    show (_ → hmark (wat W1 v) = s.now) ∧ (_ → hmark (wat W1 v) = 1 - s.now) ∧ (_ → hmark (wat W1 v) = 2)
    rw [hdr c2 v (hR.rl.mem c2 l v hc2 hl hv)]
    exact hR.mark c2 l v hc2 hl hv
  · intro c2 l v hc2 h1 hl hv
    show (hform (wat W1 v) = 1 ∨ hform (wat W1 v) = 2) ∧ hn (wat W1 v) ≤ szs c2
    rw [hdr c2 v (hR.rl.mem c2 l v hc2 hl hv)]
    exact hR.form c2 l v hc2 h1 hl hv
  · intro c2 v j hv hj
    show wat W1 (v + 3 + j) < _
    rw [fld c2 v j hv hj]
    split
    · exact hx
    · exact h.wf c2 v j hv hj
  · intro v hv
    refine ok_edges (fun a b hab h2 => ?_) hv
    by_cases e : a = u
    · subst e; exact hK b hab h2
    · exact (hE a b e).2 hab

theorem set_ok {s : TH} {L : Nat → Nat → List Nat} (h : St s L) {c u i x : Nat} (hu : IsC s.count c u) (ha : colOf L u ≠ 0) (hi : i < hn (wat s.W u)) (hx : x < 18446744073709551616)
    (hok : hform (wat s.W u) = 1 → ∀ c' v, IsC s.count c' v → x = 8 * v + 1 → IsOK s L v) :
    ∃ s' L', tset s u i x = some s' ∧ SetTo s s' L L' u i x := by
  have hR := h.rep
  obtain ⟨c', hc', hul⟩ := col_ne0 (k := colOf L u) rfl ha
  have hle := colOf_le L u
  have ec := (hR.rl.mem c' _ u hc' (by omega) hul).one hu
  subst ec
  have hfm := hR.form c' _ u hc' (by omega) (by omega) hul
  have hisz : i < szs c' := by omega
  have hw : u + 3 + i < s.W.length := by rw [hR.rl.wl]; have := hu.lt; omega
  unfold tset
  rw [hR.rdh hu, Option.bind_some]
  have e1 : rd s.W (u + 3 + i) = some (wat s.W (u + 3 + i)) := by unfold rd; rw [if_pos hw]
  rw [e1, Option.bind_some]
  by_cases hm : hform (wat s.W u) = 1 ∧ s.marking = true
  · rw [if_pos hm]
    have hsafe : Safe s.count L (wat s.W (u + 3 + i)) := safe_of hR (h.wf c' u i hu hisz) (fun c2 v hv e => h.gi.alive u v ha ⟨⟨c', i, hu, hm.1, hi, hisz, e⟩, c2, hv⟩)
    obtain ⟨s1, L1, e2, sh, hnw, hgr⟩ := rep_shade hR (fun _ => rfl) hsafe
    rw [e2, Option.bind_some]
    have hst := sh.stat
    have h1 := shaded_st h sh hm.2
    have hoks : ∀ v, IsOK s L v → IsOK s1 L1 v := by
      intro v hv
      unfold IsOK
      rw [hst.1]
      refine ok_edges (fun a b hab _ => (edge_same sh.same a b).2 hab) (sh.shd.ok hv)
    obtain ⟨s2, e3, k⟩ := store_ok h1 (c := c') (u := u) (i := i) (x := x) (by rw [hst.1]; exact hu) hisz hx
      (fun _ c2 v hv e => by
        rw [hst.1] at hv
        rw [sh.same.fld c' u i hu hisz] at e
        exact hnw c2 v hv e)
      (fun hf c2 v hv e => by
        rw [hst.1] at hv
        exact hoks v (hok hm.1 c2 v hv e))
    refine ⟨s2, L1, e3, ⟨k.st, fun c2 v hv => ?_, fun c2 v j hv hj => ?_, k.count.trans hst.1, k.roots.trans hst.2.1, k.k.trans hst.2.2.2.2.1, k.cyc.trans hst.2.2.2.2.2, k.marking.trans hst.2.2.2.1, fun c2 hc2 => ?_, fun v hv => k.oks v (hoks v hv), fun v hv => ?_, fun v hv => hgr v hv⟩⟩
    · have a := k.shape c2 v (by rw [hst.1]; exact hv)
      have b := sh.same.shape c2 v hv
      exact ⟨a.1.trans b.1, a.2.1.trans b.2.1, a.2.2.trans b.2.2⟩
    · rw [k.fld c2 v j (by rw [hst.1]; exact hv) hj, sh.same.fld c2 v j hv hj]
    · refine Nat.le_trans ?_ (k.free c2 hc2)
      have a := hR.cnt c2 0 hc2 (by omega)
      have b := sh.rep.cnt c2 0 hc2 (by omega)
      rw [sh.free] at b
      simp only [d0, Nat.add_zero] at a b
      omega
    · exact k.alive v (fun e => hv ((sh.shd.zero v).1 e))
  · rw [if_neg hm, Option.bind_some]
    obtain ⟨s2, e3, k⟩ := store_ok h (c := c') (u := u) (i := i) (x := x) hu hisz hx
      (fun hf c2 v hv e e2 => by
        have hmf : s.marking = false := by
          cases hb : s.marking with
          | false => rfl
          | true => exact absurd ⟨hf, hb⟩ hm
        obtain ⟨c3, hc3, hv3⟩ := col_ne0 e2 (by omega)
        rw [(h.idle hmf c3 hc3).1] at hv3
        cases hv3)
      hok
    exact ⟨s2, L, e3, k⟩

end Go.Proofs.Ytbjlapfcnldpoaa

