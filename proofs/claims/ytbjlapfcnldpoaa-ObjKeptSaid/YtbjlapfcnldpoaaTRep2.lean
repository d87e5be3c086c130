/- Lists joined; the heap's state with its lists: shade, flip, end. No program in sight. -/
import Derived.Test.YtbjlapfcnldpoaaTRep
namespace Go.Proofs.Ytbjlapfcnldpoaa
set_option linter.unusedVariables false
set_option linter.unusedSimpArgs false
open Go.RowKit

def jn (L : Nat → Nat → List Nat) (c p q : Nat) : Nat → Nat → List Nat :=
  fun c2 l2 => if c2 = c then (if l2 = p then L c p ++ L c q else if l2 = q then [] else L c l2) else L c2 l2

theorem rl_join {cs W : List Nat} {L : Nat → Nat → List Nat} (h : RL cs W L) {c p q : Nat} (hc : c < 4) (hp : p < 4) (hq : q < 4) (hne : p ≠ q) :
    ∃ W', oJoin W (thead c p) (thead c q) = some W' ∧ RL cs W' (jn L c p q) ∧ (∀ X, Fr cs W W' X) ∧ (∀ c' v, IsC cs c' v → wat W' v = wat W v) := by
  have rp := h.ring c p hc hp
  have rq := h.ring c q hc hq
  have np := rp.node (thead c p) (by simp)
  have nq := rq.node (thead c q) (by simp)
  cases hL : L c q with
  | nil =>
    rw [hL] at rq
    have hl := ring_lone rq
    have e : jn L c p q = L := by
      funext c2 l2
      unfold jn
      by_cases ec : c2 = c
      · subst ec
        rw [if_pos rfl]
        by_cases e1 : l2 = p
        · subst e1; rw [if_pos rfl, hL, List.append_nil]
        · rw [if_neg e1]
          by_cases e2 : l2 = q
          · subst e2; rw [if_pos rfl, hL]
          · rw [if_neg e2]
      · rw [if_neg ec]
    refine ⟨W, ?_, by rw [e]; exact h, fun X => Fr.refl _ _ _, fun _ _ _ => rfl⟩
    unfold oJoin isPlace
    simp [np.2, nq.2, hl.2]
  | cons f M =>
    rw [hL] at rq
    have hd : ∀ u ∈ thead c p :: L c p, u ∉ thead c q :: f :: M := by
      intro u hu
      have := h.apart hc hp hc hq (fun e => hne e.2) u hu
      rwa [hL] at this
    obtain ⟨j1, j2⟩ := ring_join rp rq hd
    have e1 : wat W (thead c q + 2) = f := rq.path.1.1
    have e2 : wat W (thead c q + 1) = lastOf f M := ring_prev rq
    have e3 : wat W (thead c p + 1) = lastOf (thead c p) (L c p) := ring_prev rp
    have nf := rq.node f (by simp)
    have nl := rq.node (lastOf f M) (List.mem_cons_of_mem _ (lastOf_mem f M))
    have nz := rp.node _ (lastOf_mem (thead c p) (L c p))
    have hfq : f ≠ thead c q := fun e => (List.nodup_cons.1 rq.nodup).1 (by simp [e])
    have hW : oJoin W (thead c p) (thead c q) = some (setAll W [(lastOf (thead c p) (L c p), 2, f), (f, 1, lastOf (thead c p) (L c p)), (lastOf f M, 2, thead c p), (thead c p, 1, lastOf f M), (thead c q, 1, thead c q), (thead c q, 2, thead c q)]) := by
      unfold oJoin isPlace
      rw [e1, e2, e3]
      simp [np.2, nq.2, nf.2, nl.2, nz.2, hfq]
    have hb : ∀ t ∈ [(lastOf (thead c p) (L c p), 2, f), (f, 1, lastOf (thead c p) (L c p)), (lastOf f M, 2, thead c p), (thead c p, 1, lastOf f M), (thead c q, 1, thead c q), (thead c q, 2, thead c q)], Base cs t.1 ∧ 1 ≤ t.2.1 ∧ t.2.1 ≤ 2 := by
      intro t ht
      simp only [List.mem_cons, List.not_mem_nil, or_false] at ht
      rcases ht with rfl | rfl | rfl | rfl | rfl | rfl
      · exact ⟨nz.1, by simp, by simp⟩
      · exact ⟨nf.1, by simp, by simp⟩
      · exact ⟨nl.1, by simp, by simp⟩
      · exact ⟨np.1, by simp, by simp⟩
      · exact ⟨nq.1, by simp, by simp⟩
      · exact ⟨nq.1, by simp, by simp⟩
    have hh : ∀ c' v, IsC cs c' v → wat (setAll W [(lastOf (thead c p) (L c p), 2, f), (f, 1, lastOf (thead c p) (L c p)), (lastOf f M, 2, thead c p), (thead c p, 1, lastOf f M), (thead c q, 1, thead c q), (thead c q, 2, thead c q)]) v = wat W v :=
      fun c' v hv => wat_setAll (fun t ht => header_ne hv (hb t ht).1 (hb t ht).2.1 (hb t ht).2.2)
    refine ⟨_, hW, ⟨?_, ?_, ?_, ?_, ?_⟩, fun X => fr_setAll hb X, hh⟩
    · rw [setAll_length]; exact h.wl
    · intro c2 l2 hc2 hl2
      unfold jn
      by_cases ec : c2 = c
      · subst ec
        rw [if_pos rfl]
        by_cases e1 : l2 = p
        · subst e1; rw [if_pos rfl, hL]; exact j1
        · rw [if_neg e1]
          by_cases e2 : l2 = q
          · subst e2
            rw [if_pos rfl]
            exact lone_ring j2 ⟨nq.1, by rw [setAll_length]; exact nq.2⟩
          · rw [if_neg e2]
            refine join_other rp rq (h.ring c2 l2 hc hl2) (fun u hu => ⟨h.apart hc hl2 hc hp (fun e => e1 e.2) u hu, ?_⟩)
            have := h.apart hc hl2 hc hq (fun e => e2 e.2) u hu
            rwa [hL] at this
      · rw [if_neg ec]
        refine join_other rp rq (h.ring c2 l2 hc2 hl2) (fun u hu => ⟨h.apart hc2 hl2 hc hp (fun e => ec e.1) u hu, ?_⟩)
        have := h.apart hc2 hl2 hc hq (fun e => ec e.1) u hu
        rwa [hL] at this
    · intro c2 l2 v hc2 hl2 hv
      unfold jn at hv
      by_cases ec : c2 = c
      · subst ec
        rw [if_pos rfl] at hv
        by_cases e1 : l2 = p
        · rw [if_pos e1] at hv
          rcases List.mem_append.1 hv with e | e
          · exact h.mem c2 p v hc hp e
          · exact h.mem c2 q v hc hq e
        · rw [if_neg e1] at hv
          by_cases e2 : l2 = q
          · rw [if_pos e2] at hv; cases hv
          · rw [if_neg e2] at hv; exact h.mem c2 l2 v hc hl2 hv
      · rw [if_neg ec] at hv; exact h.mem c2 l2 v hc2 hl2 hv
    · intro c2 la lb v hc2 hla hlb hva hvb
      have key : ∀ l2, l2 < 4 → v ∈ jn L c p q c2 l2 → (l2 = p ∧ c2 = c ∧ (v ∈ L c p ∨ v ∈ L c q)) ∨ (v ∈ L c2 l2 ∧ ¬ (c2 = c ∧ (l2 = p ∨ l2 = q))) := by
        intro l2 hl2 hv
        unfold jn at hv
        by_cases ec : c2 = c
        · subst ec
          rw [if_pos rfl] at hv
          by_cases e1 : l2 = p
          · rw [if_pos e1] at hv
            exact Or.inl ⟨e1, rfl, List.mem_append.1 hv⟩
          · rw [if_neg e1] at hv
            by_cases e2 : l2 = q
            · rw [if_pos e2] at hv; cases hv
            · rw [if_neg e2] at hv
              exact Or.inr ⟨hv, fun e => e.2.elim e1 e2⟩
        · rw [if_neg ec] at hv
          exact Or.inr ⟨hv, fun e => ec e.1⟩
      rcases key la hla hva with ⟨a1, a2, a3⟩ | ⟨a1, a2⟩ <;> rcases key lb hlb hvb with ⟨b1, b2, b3⟩ | ⟨b1, b2⟩
      · rw [a1, b1]
      · subst a2
        rcases a3 with a3 | a3
        · exact absurd ⟨rfl, Or.inl (h.disj c2 p lb v hc2 hp hlb a3 b1).symm⟩ b2
        · exact absurd ⟨rfl, Or.inr (h.disj c2 q lb v hc2 hq hlb a3 b1).symm⟩ b2
      · subst b2
        rcases b3 with b3 | b3
        · exact absurd ⟨rfl, Or.inl (h.disj c2 p la v hc2 hp hla b3 a1).symm⟩ a2
        · exact absurd ⟨rfl, Or.inr (h.disj c2 q la v hc2 hq hla b3 a1).symm⟩ a2
      · exact h.disj c2 la lb v hc2 hla hlb a1 b1
    · intro c' v hv
      rw [hh c' v hv]
      exact h.hdr c' v hv

/-- The same shapes and fields. -/
structure Same (cs W W' : List Nat) : Prop where
  shape : ∀ c v, IsC cs c v → hform (wat W' v) = hform (wat W v) ∧ htag (wat W' v) = htag (wat W v) ∧ hn (wat W' v) = hn (wat W v)
  fld : ∀ c v i, IsC cs c v → i < szs c → wat W' (v + 3 + i) = wat W (v + 3 + i)
theorem Same.refl (cs W : List Nat) : Same cs W W := ⟨fun _ _ _ => ⟨rfl, rfl, rfl⟩, fun _ _ _ _ _ => rfl⟩
theorem Same.trans {cs A B C : List Nat} (h : Same cs A B) (k : Same cs B C) : Same cs A C :=
  ⟨fun c v hv => ⟨(k.shape c v hv).1.trans (h.shape c v hv).1, (k.shape c v hv).2.1.trans (h.shape c v hv).2.1, (k.shape c v hv).2.2.trans (h.shape c v hv).2.2⟩, fun c v i hv hi => (k.fld c v i hv hi).trans (h.fld c v i hv hi)⟩
theorem Same.of_fr {cs W W' : List Nat} {u : Nat} (h : Fr cs W W' (fun v => v = u)) {m : Nat} (hm : m < 4) (hu : wat W' u = hdr (hform (wat W u)) (htag (wat W u)) m (hn (wat W u))) : Same cs W W' :=
  ⟨fun c v hv => by
    by_cases e : v = u
    · subst e
      rw [hu]
      exact ⟨hform_hdr (hform_lt _) (htag_lt _) hm (hn_lt _), htag_hdr (hform_lt _) (htag_lt _) hm (hn_lt _), hn_hdr (hform_lt _) (htag_lt _) hm (hn_lt _)⟩
    · rw [h.hdr c v hv e]
      exact ⟨rfl, rfl, rfl⟩, h.fld⟩

/-- The state s with its lists L; d: how many fewer are counted than are there. -/
structure Rep (s : TH) (L : Nat → Nat → List Nat) (d : Nat → Nat → Nat) : Prop where
  ls : THlen s
  st : s.start = starts s.count
  big : ∀ c, s.count.getD c 0 ≤ 4000
  cnt : ∀ c l, c < 4 → l < 4 → lget s c l + d c l = (L c l).length
  wait : s.wait = 0
  now : s.now ≤ 1
  rl : RL s.count s.W L
  cov : ∀ c u, IsC s.count c u → ∃ l, l < 4 ∧ u ∈ L c l
  tot : ∀ c, c < 4 → (L c 0).length + (L c 1).length + (L c 2).length + (L c 3).length = s.count.getD c 0
  mark : ∀ c l u, c < 4 → l < 4 → u ∈ L c l → (l = 1 → hmark (wat s.W u) = s.now) ∧ (l = 2 → hmark (wat s.W u) = 1 - s.now) ∧ (l = 3 → hmark (wat s.W u) = 2)
  form : ∀ c l u, c < 4 → 1 ≤ l → l < 4 → u ∈ L c l → (hform (wat s.W u) = 1 ∨ hform (wat s.W u) = 2) ∧ hn (wat s.W u) ≤ szs c
def d0 : Nat → Nat → Nat := fun _ _ => 0
def d1 (c l : Nat) : Nat → Nat → Nat := fun c2 l2 => if c2 = c ∧ l2 = l then 1 else 0

section
variable {s : TH} {L : Nat → Nat → List Nat} {d : Nat → Nat → Nat}
theorem Rep.len_le (h : Rep s L d) {c l : Nat} (hc : c < 4) (hl : l < 4) : (L c l).length ≤ 4000 := by
  have h1 := h.tot c hc
  have h2 := h.big c
  have : l = 0 ∨ l = 1 ∨ l = 2 ∨ l = 3 := by omega
  rcases this with rfl | rfl | rfl | rfl <;> omega
theorem Rep.lget_le (h : Rep s L d) {c l : Nat} (hc : c < 4) (hl : l < 4) : lget s c l ≤ 4000 := by
  have := h.cnt c l hc hl
  have := h.len_le hc hl
  omega
theorem lget_lset {s : TH} {c l x c' l' : Nat} (hls : THlen s) (hc : c < 4) (hl : l < 4) (hl' : l' < 4) : lget (lset s c l x) c' l' = if c' = c ∧ l' = l then x else lget s c' l' := by
  unfold lget lset
  simp only [List.getD]
  by_cases e : c' = c ∧ l' = l
  · obtain ⟨rfl, rfl⟩ := e
    rw [if_pos ⟨rfl, rfl⟩, List.getElem?_set_self (by rw [hls.c]; omega)]
    rfl
  · rw [if_neg e, List.getElem?_set_ne (by omega)]
theorem len_lset {s : TH} (h : THlen s) (c l x : Nat) : THlen (lset s c l x) := ⟨h.a, h.b, by simpa [lset] using h.c, h.d⟩

theorem Rep.tclass (h : Rep s L d) {u : Nat} {c : Nat} : tclass s u = some c ↔ IsC s.count c u := by
  have hat : ∀ k, k < 4 → tclassAt s u k = if stt s.count k ≤ u ∧ u < stt s.count (k + 1) then some (if (u - stt s.count k) % (3 + szs k) = 0 then some k else none) else none := by
    intro k hk
    unfold tclassAt stt
    rw [h.st]
  have hin : ∀ k, IsC s.count k u → tclassAt s u k = some (some k) := by
    intro k hk
    rw [hat k hk.1, if_pos ⟨hk.bd.1, by have := hk.bd.2; omega⟩]
    obtain ⟨_, i, hi, e⟩ := hk
    rw [e, Nat.add_sub_cancel_left, Nat.mul_mod_left, if_pos rfl]
  have hout : ∀ k j, k < 4 → j < 4 → k < j → IsC s.count j u → tclassAt s u k = none := by
    intro k j hk hj hkj hc
    rw [hat k hk, if_neg]
    intro e
    have := stt_mono s.count (show k + 1 ≤ j by omega) (by omega)
    have := hc.bd.1
    omega
  have hfrom : ∀ k r, k < 4 → tclassAt s u k = some r → r = some c → IsC s.count c u ∧ c = k := by
    intro k r hk h1 h2
    rw [hat k hk] at h1
    split at h1
    · rename_i hr
      injection h1 with h1
      rw [h2] at h1
      split at h1
      · rename_i hm
        injection h1 with h1
        subst h1
        refine ⟨⟨hk, (u - stt s.count k) / (3 + szs k), ?_, ?_⟩, rfl⟩
        · rw [stt_step s.count hk] at hr
          rw [Nat.div_lt_iff_lt_mul (by omega)]
          omega
        · have := Nat.div_add_mod (u - stt s.count k) (3 + szs k)
          rw [hm, Nat.add_zero, Nat.mul_comm] at this
          omega
      · cases h1
    · cases h1
  constructor
  · intro ht
    unfold Go.Proofs.Ytbjlapfcnldpoaa.tclass at ht
    split at ht
    · rename_i r h1; exact (hfrom 0 r (by omega) h1 ht).1
    · split at ht
      · rename_i r h1; exact (hfrom 1 r (by omega) h1 ht).1
      · split at ht
        · rename_i r h1; exact (hfrom 2 r (by omega) h1 ht).1
        · split at ht
          · rename_i r h1; exact (hfrom 3 r (by omega) h1 ht).1
          · cases ht
  · intro hc
    unfold Go.Proofs.Ytbjlapfcnldpoaa.tclass
    have := hc.1
    have : c = 0 ∨ c = 1 ∨ c = 2 ∨ c = 3 := by omega
    rcases this with rfl | rfl | rfl | rfl
    · rw [hin 0 hc]
    · rw [hout 0 1 (by omega) (by omega) (by omega) hc, hin 1 hc]
    · rw [hout 0 2 (by omega) (by omega) (by omega) hc, hout 1 2 (by omega) (by omega) (by omega) hc, hin 2 hc]
    · rw [hout 0 3 (by omega) (by omega) (by omega) hc, hout 1 3 (by omega) (by omega) (by omega) hc, hout 2 3 (by omega) (by omega) (by omega) hc, hin 3 hc]
theorem stt4_le {cs : List Nat} (h : ∀ c, cs.getD c 0 ≤ 4000) : stt cs 4 ≤ 720051 := by
  have h0 := h 0
  have h1 := h 1
  have h2 := h 2
  have h3 := h 3
  have e : stt cs 4 = 51 + cs.getD 0 0 * 6 + cs.getD 1 0 * 10 + cs.getD 2 0 * 34 + cs.getD 3 0 * 130 := rfl
  rw [e]
  omega
theorem Rep.tplace (h : Rep s L d) {x u c : Nat} : tplace s x = some (u, c) ↔ x = 8 * u + 1 ∧ IsC s.count c u := by
  unfold Go.Proofs.Ytbjlapfcnldpoaa.tplace tcell
  constructor
  · intro ht
    split at ht
    · rename_i hx
      simp only [Bool.and_eq_true, beq_iff_eq, decide_eq_true_eq] at hx
      simp only [Option.map_eq_some_iff] at ht
      obtain ⟨c', hc, e⟩ := ht
      simp only [Prod.mk.injEq] at e
      obtain ⟨rfl, rfl⟩ := e
      exact ⟨by omega, h.tclass.1 hc⟩
    · cases ht
  · rintro ⟨rfl, hc⟩
    have hlt := hc.lt
    have hb : stt s.count 4 ≤ 720051 := stt4_le h.big
    have hx : ((8 * u + 1) % 8 == 1 && decide ((8 * u + 1) / 8 ≤ 1099511627776)) = true := by
      simp only [Bool.and_eq_true, beq_iff_eq, decide_eq_true_eq]
      omega
    rw [if_pos hx, show (8 * u + 1) / 8 = u by omega, h.tclass.2 hc]
    rfl
theorem Rep.rdh (h : Rep s L d) {c u : Nat} (hu : IsC s.count c u) : rdh s.W u = some (wat s.W u) := by
  unfold Go.Proofs.Ytbjlapfcnldpoaa.rdh
  have h1 := (h.rl.node (Or.inr ⟨c, hu⟩)).2
  have h2 := h.rl.hdr c u hu
  rw [if_pos ⟨by omega, h2⟩]
end

theorem mv_length {L : Nat → Nat → List Nat} {c l l' u : Nat} (hu : u ∈ L c l) (hne : l ≠ l') (c2 l2 : Nat) :
    (mv L c l l' u c2 l2).length + (if c2 = c ∧ l2 = l then 1 else 0) = (L c2 l2).length + (if c2 = c ∧ l2 = l' then 1 else 0) := by
  unfold mv
  by_cases ec : c2 = c
  · subst ec
    rw [if_pos rfl]
    by_cases e1 : l2 = l
    · subst e1
      rw [if_pos rfl, if_pos ⟨rfl, rfl⟩, if_neg (fun e => hne e.2), List.length_erase_of_mem hu]
      have := List.length_pos_of_mem hu
      omega
    · by_cases e2 : l2 = l'
      · subst e2; simp [e1]
      · simp [e1, e2]
  · simp [ec]
theorem mem_mv {L : Nat → Nat → List Nat} {c l l' u c2 l2 v : Nat} (hnd : (L c l).Nodup) (hne : l ≠ l') (hv : v ∈ mv L c l l' u c2 l2) : (c2 = c ∧ l2 = l' ∧ v = u) ∨ (v ∈ L c2 l2 ∧ ¬ (c2 = c ∧ l2 = l ∧ v = u)) := by
  unfold mv at hv
  by_cases ec : c2 = c
  · subst ec
    rw [if_pos rfl] at hv
    by_cases e1 : l2 = l
    · subst e1
      rw [if_pos rfl] at hv
      refine Or.inr ⟨List.mem_of_mem_erase hv, fun e => ?_⟩
      rw [e.2.2] at hv
      exact List.Nodup.not_mem_erase hnd hv
    · rw [if_neg e1] at hv
      by_cases e2 : l2 = l'
      · subst e2
        rw [if_pos rfl] at hv
        rcases List.mem_cons.1 hv with e | e
        · exact Or.inl ⟨rfl, rfl, e⟩
        · exact Or.inr ⟨e, fun e' => e1 e'.2.1⟩
      · rw [if_neg e2] at hv
        exact Or.inr ⟨hv, fun e' => e1 e'.2.1⟩
  · rw [if_neg ec] at hv
    exact Or.inr ⟨hv, fun e' => ec e'.1⟩
theorem mv_mem {L : Nat → Nat → List Nat} {c l l' u c2 l2 v : Nat} (hv : v ∈ L c2 l2) (hne : l ≠ l') (hn : ¬ (c2 = c ∧ l2 = l ∧ v = u)) : v ∈ mv L c l l' u c2 l2 := by
  unfold mv
  by_cases ec : c2 = c
  · subst ec
    rw [if_pos rfl]
    by_cases e1 : l2 = l
    · subst e1
      rw [if_pos rfl]
      exact (List.mem_erase_of_ne (fun e => hn ⟨rfl, rfl, e⟩)).2 hv
    · rw [if_neg e1]
      by_cases e2 : l2 = l'
      · subst e2; rw [if_pos rfl]; exact List.mem_cons_of_mem _ hv
      · rw [if_neg e2]; exact hv
  · rw [if_neg ec]; exact hv
theorem mv_self {L : Nat → Nat → List Nat} {c l l' u : Nat} (hne : l ≠ l') : u ∈ mv L c l l' u c l' := by
  unfold mv
  rw [if_pos rfl, if_neg (Ne.symm hne), if_pos rfl]
  simp

/-- A cell that is no longer counted in its list goes into another one. -/
theorem rep_move {t : TH} {L : Nat → Nat → List Nat} {d : Nat → Nat → Nat} (h : Rep t L d) {c l l' u m : Nat} (hc : c < 4) (hl1 : 1 ≤ l) (hl : l < 4) (hl1' : 1 ≤ l') (hl' : l' < 4) (hne : l ≠ l') (hu : u ∈ L c l)
    (hd : 1 ≤ d c l) (hm : m < 4) (hm1 : l' = 1 → m = t.now) (hm2 : l' = 2 → m = 1 - t.now) (hm3 : l' = 3 → m = 2) :
    ∃ t', tmove t u c (thead c l') m l' = some t' ∧ Rep t' (mv L c l l' u) (fun c2 l2 => d c2 l2 - if c2 = c ∧ l2 = l then 1 else 0) ∧ Same t.count t.W t'.W ∧
      t' = { t with lists := t'.lists, W := t'.W } ∧ lget t' c 0 = lget t c 0 ∧ (∀ c2, c2 < 4 → lget t' c2 0 = lget t c2 0) := by
  have huc := h.rl.mem c l u hc hl hu
  obtain ⟨W1, W2, W3, e1, e2, e3, hrl, hfr, hx⟩ := rl_move h.rl hc hl hl' hne hu (hdr_lt (hform_lt (wat t.W u)) (htag_lt (wat t.W u)) hm (hn_lt (wat t.W u)))
  have hsame := Same.of_fr hfr hm hx
  have hlg := h.lget_le hc hl'
  have hmove : tmove t u c (thead c l') m l' = some { lset t c l' (lget t c l' + 1) with W := W3 } := by
    unfold tmove
    simp only [Option.bind_eq_bind, h.rdh huc, Option.bind_some, e1, e2, e3]
    unfold req
    rw [if_pos (by simp; omega)]
    rfl
  have hlg2 : ∀ c2 l2, c2 < 4 → l2 < 4 → lget { lset t c l' (lget t c l' + 1) with W := W3 } c2 l2 = if c2 = c ∧ l2 = l' then lget t c l' + 1 else lget t c2 l2 :=
    fun c2 l2 hc2 hl2 => lget_lset h.ls hc hl' hl2
  refine ⟨_, hmove, ⟨⟨h.ls.a, h.ls.b, by simpa [lset] using h.ls.c, h.ls.d⟩, h.st, h.big, ?_, h.wait, h.now, hrl, ?_, ?_, ?_, ?_⟩, hsame, rfl, ?_, ?_⟩
  · intro c2 l2 hc2 hl2
    have hcn := h.cnt c2 l2 hc2 hl2
    have hml := mv_length hu hne c2 l2
    rw [hlg2 c2 l2 hc2 hl2]
    by_cases e1 : c2 = c ∧ l2 = l
    · obtain ⟨rfl, rfl⟩ := e1
      simp only [and_self, if_true] at hml ⊢
      rw [if_neg (fun e => hne e.2)] at hml
      rw [if_neg (fun e => hne e.2)]
      omega
    · rw [if_neg e1] at hml ⊢
      by_cases e2 : c2 = c ∧ l2 = l'
      · obtain ⟨rfl, rfl⟩ := e2
        simp only [and_self, if_true] at hml ⊢
        omega
      · rw [if_neg e2] at hml ⊢
        omega
  · intro c2 v hv
    by_cases e : c2 = c ∧ v = u
    · obtain ⟨rfl, rfl⟩ := e
      exact ⟨l', hl', mv_self hne⟩
    · obtain ⟨l2, hl2, hv2⟩ := h.cov c2 v hv
      exact ⟨l2, hl2, mv_mem hv2 hne (fun e' => e ⟨e'.1, e'.2.2⟩)⟩
  · intro c2 hc2
    have ht := h.tot c2 hc2
    have m0 := mv_length hu hne c2 0
    have m1 := mv_length hu hne c2 1
    have m2 := mv_length hu hne c2 2
    have m3 := mv_length hu hne c2 3
    show (mv L c l l' u c2 0).length + (mv L c l l' u c2 1).length + (mv L c l l' u c2 2).length + (mv L c l l' u c2 3).length = t.count.getD c2 0
    by_cases ec : c2 = c
    · subst ec
      have hl3 : l = 1 ∨ l = 2 ∨ l = 3 := by omega
      have hl3' : l' = 1 ∨ l' = 2 ∨ l' = 3 := by omega
      rcases hl3 with rfl | rfl | rfl <;> rcases hl3' with rfl | rfl | rfl <;> simp_all <;> omega
    · simp only [ec, false_and, if_false] at m0 m1 m2 m3
      omega
  · intro c2 l2 v hc2 hl2 hv
    rcases mem_mv (h.rl.nodup hc hl) hne hv with ⟨rfl, rfl, rfl⟩ | ⟨hv2, hn⟩
    · show (_ → hmark (wat W3 v) = t.now) ∧ (_ → hmark (wat W3 v) = 1 - t.now) ∧ (_ → hmark (wat W3 v) = 2)
      rw [hx, hmark_hdr (hform_lt _) (htag_lt _) hm (hn_lt _)]
      exact ⟨hm1, hm2, hm3⟩
    · have hvc := h.rl.mem c2 l2 v hc2 hl2 hv2
      have hvu : v ≠ u := by
        intro e
        subst e
        have e1 := huc.one hvc
        subst e1
        exact hn ⟨rfl, h.rl.disj c l2 l v hc hl2 hl hv2 hu, rfl⟩
      show (_ → hmark (wat W3 v) = t.now) ∧ (_ → hmark (wat W3 v) = 1 - t.now) ∧ (_ → hmark (wat W3 v) = 2)
      rw [hfr.hdr c2 v hvc hvu]
      exact h.mark c2 l2 v hc2 hl2 hv2
  · intro c2 l2 v hc2 h1 hl2 hv
    show (hform (wat W3 v) = 1 ∨ hform (wat W3 v) = 2) ∧ hn (wat W3 v) ≤ szs c2
    rcases mem_mv (h.rl.nodup hc hl) hne hv with ⟨rfl, rfl, rfl⟩ | ⟨hv2, hn⟩
    · rw [(hsame.shape c2 v huc).1, (hsame.shape c2 v huc).2.2]
      exact h.form c2 l v hc hl1 hl hu
    · have hvc := h.rl.mem c2 l2 v hc2 hl2 hv2
      rw [(hsame.shape c2 v hvc).1, (hsame.shape c2 v hvc).2.2]
      exact h.form c2 l2 v hc2 h1 hl2 hv2
  · rw [hlg2 c 0 hc (by omega), if_neg (by omega)]
  · intro c2 hc2
    rw [hlg2 c2 0 hc2 (by omega), if_neg (by omega)]

end Go.Proofs.Ytbjlapfcnldpoaa
