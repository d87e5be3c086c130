/- Part 6 of 11 of this proof's own texts, joined in build order by a program. -/
import Derived.Test.YtbjlapfcnldpoaaZ5
/- A new heap: all cells are free. No program in sight. -/
namespace Go.Proofs.Ytbjlapfcnldpoaa
set_option linter.unusedVariables false
set_option linter.unusedSimpArgs false
open Go.RowKit

theorem wat_init {W : List Nat} {p q : Nat} (hp : p + 2 < W.length) : wat (setAll W [(p, 1, p), (p, 2, p)]) q = if q = p + 1 ∨ q = p + 2 then p else wat W q := by
  simp only [setAll, List.foldl_cons, List.foldl_nil]
  rw [wat_set _ _ _ _ (by simp; omega), wat_set _ _ _ _ (by omega)]
  by_cases h2 : q = p + 2
  · rw [if_pos h2, if_pos (Or.inr h2)]
  · rw [if_neg h2]
    by_cases h1 : q = p + 1
    · rw [if_pos h1, if_pos (Or.inl h1)]
    · rw [if_neg h1, if_neg (by omega)]
theorem initAll_ok {N : Nat} (hN : 51 ≤ N) : ∀ (m k : Nat) (W : List Nat), m + k = 17 → W.length = N → (∀ a, a < k → Lone W (3 * a)) → (∀ p, 51 ≤ p → wat W p = 0) →
    ∃ W', initAll W m k = some W' ∧ W'.length = N ∧ (∀ a, a < 17 → Lone W' (3 * a)) ∧ ∀ p, 51 ≤ p → wat W' p = 0 := by
  intro m
  induction m with
  | zero =>
    intro k W hk hl h1 h2
    have : k = 17 := by omega
    subst this
    exact ⟨W, rfl, hl, h1, h2⟩
  | succ m ih =>
    intro k W hk hl h1 h2
    have hp : 3 * k + 2 < W.length := by omega
    have e1 : oInit W (3 * k) = some (setAll W [(3 * k, 1, 3 * k), (3 * k, 2, 3 * k)]) := by
      unfold oInit isPlace
      rw [if_pos (by simpa using hp)]
    obtain ⟨W', e2, e3, e4, e5⟩ := ih (k + 1) (setAll W [(3 * k, 1, 3 * k), (3 * k, 2, 3 * k)]) (by omega) (by rw [setAll_length]; exact hl) (fun a ha => by
      unfold Lone
      rw [wat_init hp, wat_init hp]
      by_cases e : a = k
      · subst e
        rw [if_pos (by omega), if_pos (by omega)]
        exact ⟨rfl, rfl⟩
      · rw [if_neg (by omega), if_neg (by omega)]
        exact h1 a (by omega)) (fun p hp' => by rw [wat_init hp, if_neg (by omega)]; exact h2 p hp')
    refine ⟨W', ?_, e3, e4, e5⟩
    simp only [initAll]
    rw [e1, Option.bind_some]
    exact e2

/-- The first n cells of a size. -/
def cellsN (cs : List Nat) (c n : Nat) : List Nat := (List.range n).map fun i => stt cs c + i * (3 + szs c)
theorem mem_cellsN {cs : List Nat} {c n u : Nat} : u ∈ cellsN cs c n ↔ ∃ i, i < n ∧ u = stt cs c + i * (3 + szs c) := by
  unfold cellsN
  rw [List.mem_map]
  constructor
  · rintro ⟨i, hi, rfl⟩; exact ⟨i, List.mem_range.1 hi, rfl⟩
  · rintro ⟨i, hi, rfl⟩; exact ⟨i, List.mem_range.2 hi, rfl⟩
theorem cellsN_succ (cs : List Nat) (c n : Nat) : cellsN cs c (n + 1) = cellsN cs c n ++ [stt cs c + n * (3 + szs c)] := by simp [cellsN, List.range_succ]
theorem cellsN_length (cs : List Nat) (c n : Nat) : (cellsN cs c n).length = n := by simp [cellsN]
/-- The lists when k sizes are laid, and i cells of the next one. -/
def layL (cs : List Nat) (k i : Nat) : Nat → Nat → List Nat := fun c l => if l = 0 then (if c < k then cellsN cs c (cs.getD c 0) else if c = k then cellsN cs c i else []) else []
theorem layL_next (cs : List Nat) (k : Nat) : layL cs k (cs.getD k 0) = layL cs (k + 1) 0 := by
  funext c l
  unfold layL
  by_cases el : l = 0
  · rw [if_pos el, if_pos el]
    by_cases h : c < k
    · rw [if_pos h, if_pos (show c < k + 1 by omega)]
    · rw [if_neg h]
      by_cases e : c = k
      · subst e; rw [if_pos rfl, if_pos (Nat.lt_succ_self c)]
      · rw [if_neg e, if_neg (show ¬ c < k + 1 by omega)]
        split
        · rename_i e2; simp [cellsN]
        · rfl
  · rw [if_neg el, if_neg el]

theorem layC_ok {cs : List Nat} {c : Nat} (hc : c < 4) (hb : stt cs 4 ≤ 720051) : ∀ (m i : Nat) (W : List Nat), i + m = cs.getD c 0 → RL cs W (layL cs c i) → (∀ c v, IsC cs c v → wat W v = 0) → (∀ c v j, IsC cs c v → j < szs c → wat W (v + 3 + j) = 0) →
    ∃ W', layC W (stt cs c) c (szs c) m i = some W' ∧ RL cs W' (layL cs c (cs.getD c 0)) ∧ (∀ c v, IsC cs c v → wat W' v = 0) ∧ ∀ c v j, IsC cs c v → j < szs c → wat W' (v + 3 + j) = 0 := by
  intro m
  induction m with
  | zero =>
    intro i W hi h h1 h2
    have : i = cs.getD c 0 := by omega
    subst this
    exact ⟨W, rfl, h, h1, h2⟩
  | succ m ih =>
    intro i W hi h h1 h2
    obtain ⟨b, hbe⟩ : ∃ b, stt cs c + i * (3 + szs c) = b := ⟨_, rfl⟩
    have hbc : IsC cs c b := ⟨hc, i, by omega, hbe.symm⟩
    have hL0 : layL cs c i c 0 = cellsN cs c i := by simp [layL]
    have hnot : ∀ c2 l2, c2 < 4 → l2 < 4 → b ∉ thead c2 l2 :: layL cs c i c2 l2 := by
      intro c2 l2 hc2 hl2 hm
      rcases List.mem_cons.1 hm with e | e
      · have := hbc.ge; have := thead_lt hc2 hl2; omega
      · have hb2 := h.mem c2 l2 b hc2 hl2 e
        have ec := hb2.one hbc
        subst ec
        unfold layL at e
        split at e
        · rw [if_neg (by omega), if_pos rfl] at e
          obtain ⟨j, hj, ej⟩ := mem_cellsN.1 e
          rw [← hbe] at ej
          have := Nat.mul_le_mul_right (3 + szs c2) (show j + 1 ≤ i by omega)
          rw [Nat.add_mul] at this
          omega
        · cases e
    have nb : Node (Base cs) W b := h.node (Or.inr ⟨c, hbc⟩)
    have hr0 := h.ring c 0 hc (by omega)
    have hpv := ring_prev hr0
    have nl := hr0.node _ (lastOf_mem (thead c 0) (layL cs c i c 0))
    have nh := hr0.node (thead c 0) (by simp)
    have hwl := h.wl
    obtain ⟨last, hlast⟩ : ∃ x, lastOf (thead c 0) (layL cs c i c 0) = x := ⟨_, rfl⟩
    rw [hlast] at hpv nl
    have e1 : oAhead W (thead c 0) = some last := by
      unfold oAhead isPlace
      rw [hpv]
      have := nl.2
      have := nh.2
      rw [if_pos (by simp; omega)]
    have e2 : oInit W b = some (setAll W [(b, 1, b), (b, 2, b)]) := by
      unfold oInit isPlace
      rw [if_pos (by simpa using nb.2)]
    have h3 : RL cs (setAll W [(b, 1, b), (b, 2, b)]) (layL cs c i) := by
      refine ⟨by rw [setAll_length]; exact h.wl, fun c2 l2 hc2 hl2 => ?_, h.mem, h.disj, fun c2 v hv => ?_⟩
      · refine (h.ring c2 l2 hc2 hl2).frame (setAll_length _ _) (fun v hv => ?_) (fun v hv => ?_)
        · rw [init_B nb (h.mem_base hc2 hl2 hv), if_neg (ne_mem hv (hnot c2 l2 hc2 hl2))]
        · rw [init_A nb (h.mem_base hc2 hl2 hv), if_neg (ne_mem hv (hnot c2 l2 hc2 hl2))]
      · rw [wat_init nb.2, if_neg (fun e => e.elim (fun e => header_ne hv nb.1 (by omega) (by omega) e.symm) (fun e => header_ne hv nb.1 (by omega) (by omega) e.symm))]
        exact h.hdr c2 v hv
    have k1 : ∀ c v, IsC cs c v → wat (setAll W [(b, 1, b), (b, 2, b)]) v = 0 := fun c2 v hv => by
      rw [wat_init nb.2, if_neg (fun e => e.elim (fun e => header_ne hv nb.1 (by omega) (by omega) e.symm) (fun e => header_ne hv nb.1 (by omega) (by omega) e.symm))]
      exact h1 c2 v hv
    have k2 : ∀ c v j, IsC cs c v → j < szs c → wat (setAll W [(b, 1, b), (b, 2, b)]) (v + 3 + j) = 0 := fun c2 v j hv hj => by
      rw [wat_init nb.2, if_neg (fun e => e.elim (fun e => field_ne hv hj nb.1 (by omega) e.symm) (fun e => field_ne hv hj nb.1 (by omega) e.symm))]
      exact h2 c2 v j hv hj
    have nb1 : Node (Base cs) (setAll W [(b, 1, b), (b, 2, b)]) b := ⟨nb.1, by rw [setAll_length]; exact nb.2⟩
    generalize setAll W [(b, 1, b), (b, 2, b)] = W1 at *
    have hr1 := h3.ring c 0 hc (by omega)
    have hlm : last ∈ thead c 0 :: layL cs c i c 0 := by rw [← hlast]; exact lastOf_mem _ _
    have i1 := ring_insert_last hr1 nb1 (hnot c 0 hc (by omega))
    rw [hlast] at i1
    have nx : Node (Base cs) W1 (wat W1 (last + 2)) := hr1.node _ (ring_next hr1 hlm)
    have nl1 := hr1.node last hlm
    have e3 : oInsert W1 last b = some (setAll W1 [(b, 1, last), (b, 2, wat W1 (last + 2)), (last, 2, b), (wat W1 (last + 2), 1, b)]) := by
      unfold oInsert isPlace
      simp [nl1.2, nb1.2, nx.2]
    have hbt : ∀ t ∈ [(b, 1, last), (b, 2, wat W1 (last + 2)), (last, 2, b), (wat W1 (last + 2), 1, b)], Base cs t.1 ∧ 1 ≤ t.2.1 ∧ t.2.1 ≤ 2 := by
      intro t ht
      simp only [List.mem_cons, List.not_mem_nil, or_false] at ht
      rcases ht with rfl | rfl | rfl | rfl
      · exact ⟨nb1.1, by simp, by simp⟩
      · exact ⟨nb1.1, by simp, by simp⟩
      · exact ⟨nl1.1, by simp, by simp⟩
      · exact ⟨nx.1, by simp, by simp⟩
    have hn : ∀ c2 l2, layL cs c (i + 1) c2 l2 = if c2 = c ∧ l2 = 0 then layL cs c i c 0 ++ [b] else layL cs c i c2 l2 := by
      intro c2 l2
      unfold layL
      by_cases el : l2 = 0
      · subst el
        by_cases ec : c2 = c
        · subst ec
          simp [cellsN_succ, hbe]
        · simp [ec]
      · simp [el]
    have h4 : RL cs (setAll W1 [(b, 1, last), (b, 2, wat W1 (last + 2)), (last, 2, b), (wat W1 (last + 2), 1, b)]) (layL cs c (i + 1)) := by
      refine ⟨by rw [setAll_length]; exact h3.wl, fun c2 l2 hc2 hl2 => ?_, fun c2 l2 v hc2 hl2 hv => ?_, fun c2 la lb v hc2 hla hlb hva hvb => ?_, fun c2 v hv => ?_⟩
      · rw [hn]
        by_cases e : c2 = c ∧ l2 = 0
        · rw [if_pos e, e.1, e.2]; exact i1
        · rw [if_neg e]
          refine insert_other_at hr1 hlm nb1 (h3.ring c2 l2 hc2 hl2) (fun v hv => ⟨h3.apart hc2 hl2 hc (by omega) e v hv, ?_⟩)
          exact ne_mem hv (hnot c2 l2 hc2 hl2)
      · rw [hn] at hv
        split at hv
        · rename_i e
          rcases List.mem_append.1 hv with hv | hv
          · rw [e.1]; exact h3.mem c 0 v hc (by omega) hv
          · simp at hv; rw [hv, e.1]; exact hbc
        · exact h3.mem c2 l2 v hc2 hl2 hv
      · unfold layL at hva hvb
        split at hva
        · split at hvb
          · rename_i a b; rw [a, b]
          · cases hvb
        · cases hva
      · rw [wat_setAll (fun t ht => header_ne hv (hbt t ht).1 (hbt t ht).2.1 (hbt t ht).2.2)]
        exact h3.hdr c2 v hv
    obtain ⟨W', e4, e5, e6, e7⟩ := ih (i + 1) _ (by omega) h4
      (fun c2 v hv => by rw [wat_setAll (fun t ht => header_ne hv (hbt t ht).1 (hbt t ht).2.1 (hbt t ht).2.2)]; exact k1 c2 v hv)
      (fun c2 v j hv hj => by rw [wat_setAll (fun t ht => field_ne hv hj (hbt t ht).1 (hbt t ht).2.2)]; exact k2 c2 v j hv hj)
    refine ⟨W', ?_, e5, e6, e7⟩
    simp only [layC, Option.bind_eq_bind]
    rw [e1, Option.bind_some, hbe, e2, Option.bind_some, e3, Option.bind_some]
    exact e4

theorem starts_take (a b c d : Nat) : starts [a, b, c, d] = [stt [a, b, c, d] 0, stt [a, b, c, d] 1, stt [a, b, c, d] 2, stt [a, b, c, d] 3, stt [a, b, c, d] 4] := rfl

theorem layN_ok {s : TH} (hls : THlen s) (hst : s.start = starts s.count) (hb : stt s.count 4 ≤ 720051) (hz : ∀ c l, lget s c l = 0) (hrl : RL s.count s.W (layL s.count 0 0)) (h1 : ∀ c v, IsC s.count c v → wat s.W v = 0) (h2 : ∀ c v j, IsC s.count c v → j < szs c → wat s.W (v + 3 + j) = 0) :
    ∀ k, k ≤ 4 → ∃ sk, layN k s = some sk ∧ sk = { s with lists := sk.lists, W := sk.W } ∧ THlen sk ∧ RL s.count sk.W (layL s.count k 0) ∧ (∀ c l, c < 4 → l < 4 → lget sk c l = (layL s.count k 0 c l).length) ∧ (∀ c v, IsC s.count c v → wat sk.W v = 0) ∧ ∀ c v j, IsC s.count c v → j < szs c → wat sk.W (v + 3 + j) = 0 := by
  intro k
  induction k with
  | zero =>
    intro _
    refine ⟨s, rfl, rfl, hls, hrl, fun c l hc hl => ?_, h1, h2⟩
    rw [hz c l]
    unfold layL
    split
    · rw [if_neg (by omega)]
      split
      · simp [cellsN]
      · rfl
    · rfl
  | succ k ih =>
    intro hk
    obtain ⟨sk, e1, e2, h3, h4, h5, h6, h7⟩ := ih (by omega)
    obtain ⟨W', j1, j2, j3, j4⟩ := layC_ok (show k < 4 by omega) hb (s.count.getD k 0) 0 sk.W (by omega) h4 h6 h7
    rw [layL_next] at j2
    refine ⟨lset { sk with W := W' } k 0 (s.count.getD k 0), ?_, ?_, ⟨h3.a, h3.b, by simpa [lset] using h3.c, h3.d⟩, j2, ?_, j3, j4⟩
    · simp only [layN]
      rw [e1, Option.bind_some]
      unfold lay1
      have a1 : sk.start.getD k 0 = stt s.count k := by rw [e2]; show s.start.getD k 0 = _; rw [hst]; rfl
      have a2 : sk.count.getD k 0 = s.count.getD k 0 := by rw [e2]
      rw [a1, a2, j1]
      rfl
    · rw [e2]; rfl
    · intro c l hc hl
      have g1 : lget (lset { sk with W := W' } k 0 (s.count.getD k 0)) c l = if c = k ∧ l = 0 then s.count.getD k 0 else lget sk c l :=
        lget_lset (s := { sk with W := W' }) ⟨h3.a, h3.b, h3.c, h3.d⟩ (by omega) (by omega) hl
      rw [g1]
      have g2 := h5 c l hc hl
      by_cases e : c = k ∧ l = 0
      · obtain ⟨rfl, rfl⟩ := e
        rw [if_pos ⟨rfl, rfl⟩]
        simp [layL, cellsN_length]
      · rw [if_neg e, g2]
        rw [← layL_next]
        unfold layL
        by_cases el : l = 0
        · have ec : c ≠ k := fun e' => e ⟨e', el⟩
          simp [el, ec]
        · simp [el]

/-- A new heap. -/
theorem lay_ok (c0 c1 c2 c3 k : Nat) (h0 : c0 ≤ 4000) (h1 : c1 ≤ 4000) (h2 : c2 ≤ 4000) (h3 : c3 ≤ 4000) :
    ∃ s, tlay (pre c0 c1 c2 c3 k) = some s ∧ St s (layL [c0, c1, c2, c3] 4 0) ∧ s.count = [c0, c1, c2, c3] ∧ ∀ c, c < 4 → lget s c 0 = [c0, c1, c2, c3].getD c 0 := by
  have hbig : ∀ c, [c0, c1, c2, c3].getD c 0 ≤ 4000 := fun c => get4_le c0 c1 c2 c3 c h0 h1 h2 h3
  have hb := stt4_le hbig
  have hge := stt_ge [c0, c1, c2, c3] (Nat.le_refl 4)
  obtain ⟨W0, e1, e2, e3, e4⟩ := initAll_ok (N := stt [c0, c1, c2, c3] 4) hge 17 0 (List.replicate (stt [c0, c1, c2, c3] 4) 0) rfl (by simp) (fun a ha => by omega) (fun p _ => by
    unfold wat
    simp only [List.getD]
    by_cases hp : p < stt [c0, c1, c2, c3] 4
    · simp [hp]
    · rw [List.getElem?_eq_none (by simp; omega)]; rfl)
  have hE : ∀ c l, layL [c0, c1, c2, c3] 0 0 c l = [] := by
    intro c l
    unfold layL
    split
    · rw [if_neg (by omega)]
      split
      · simp [cellsN]
      · rfl
    · rfl
  have hrl : RL [c0, c1, c2, c3] W0 (layL [c0, c1, c2, c3] 0 0) := by
    refine ⟨e2, fun c l hc hl => ?_, (fun c l u hc hl hu => by rw [hE] at hu; cases hu), (fun c l l' u hc hl hl' hu => by rw [hE] at hu; cases hu), (fun c u hu => by rw [e4 u hu.ge]; omega)⟩
    rw [hE]
    have := e3 (4 * c + l) (by omega)
    exact lone_ring this ⟨head_base _ hc hl, by rw [e2]; unfold thead; omega⟩
  have hz : ∀ c l, lget { pre c0 c1 c2 c3 k with W := W0 } c l = 0 := by
    intro c l
    show (List.replicate 16 0).getD (4 * c + l) 0 = 0
    rw [List.getD_eq_getElem?_getD]
    by_cases h : 4 * c + l < 16
    · rw [List.getElem?_replicate, if_pos h]; rfl
    · rw [List.getElem?_replicate, if_neg h]; rfl
  obtain ⟨s, f1, f2, f3, f4, f5, f6, f7⟩ := layN_ok (s := { pre c0 c1 c2 c3 k with W := W0 }) ⟨rfl, rfl, rfl, rfl⟩ rfl hb hz hrl (fun c v hv => e4 v hv.ge) (fun c v j hv hj => e4 _ (by have := hv.ge; omega)) 4 (Nat.le_refl _)
  have hct : s.count = [c0, c1, c2, c3] := by rw [f2]; rfl
  have hLe : ∀ c l, c < 4 → layL [c0, c1, c2, c3] 4 0 c l = if l = 0 then cellsN [c0, c1, c2, c3] c ([c0, c1, c2, c3].getD c 0) else [] := by
    intro c l hc
    simp [layL, hc]
  have f4' : RL [c0, c1, c2, c3] s.W (layL [c0, c1, c2, c3] 4 0) := f4
  have f5' : ∀ c l, c < 4 → l < 4 → lget s c l = (layL [c0, c1, c2, c3] 4 0 c l).length := f5
  have f6' : ∀ c v, IsC [c0, c1, c2, c3] c v → wat s.W v = 0 := f6
  have f7' : ∀ c v j, IsC [c0, c1, c2, c3] c v → j < szs c → wat s.W (v + 3 + j) = 0 := f7
  have hcol : ∀ v, colOf (layL [c0, c1, c2, c3] 4 0) v = 0 := by
    intro v
    cases hk : colOf (layL [c0, c1, c2, c3] 4 0) v with
    | zero => rfl
    | succ j =>
      obtain ⟨c, hc, hm⟩ := col_ne0 hk (by omega)
      rw [hLe c _ hc, if_neg (by omega)] at hm
      cases hm
  refine ⟨s, ?_, ⟨⟨f3, ?_, ?_, ?_, ?_, ?_, ?_, ?_, ?_, ?_, ?_⟩, ⟨fun u v hu => absurd (hcol u) hu, fun u v hu => by rw [hcol u] at hu; omega, ?_⟩, ?_, ?_, ?_⟩, hct, ?_⟩
  · unfold tlay
    have : initAll (pre c0 c1 c2 c3 k).W 17 0 = some W0 := e1
    rw [this, Option.bind_some]
    exact f1
  · rw [f2]; rfl
  · rw [hct]; exact hbig
  · intro c l hc hl
    simp only [d0, Nat.add_zero]
    exact f5' c l hc hl
  · rw [f2]; rfl
  · rw [f2]; exact Nat.zero_le 1
  · rw [hct]; exact f4'
  · rw [hct]
    intro c u hu
    refine ⟨0, by omega, ?_⟩
    rw [hLe c 0 hu.1, if_pos rfl]
    obtain ⟨_, i, hi, e⟩ := hu
    exact mem_cellsN.2 ⟨i, hi, e⟩
  · rw [hct]
    intro c hc
    rw [hLe c 0 hc, hLe c 1 hc, hLe c 2 hc, hLe c 3 hc]
    simp [cellsN_length]
  · intro c l u hc hl hu
    rw [hLe c l hc] at hu
    split at hu
    · exact ⟨fun e => by omega, fun e => by omega, fun e => by omega⟩
    · cases hu
  · intro c l u hc h1 hl hu
    rw [hLe c l hc, if_neg (by omega)] at hu
    cases hu
  · rintro v ⟨hv, -⟩
    have hr : s.roots = List.replicate 12 12 := by rw [f2]; rfl
    rw [hr] at hv
    have := (List.mem_replicate.1 hv).2
    omega
  · intro _ c hc
    rw [hLe c 2 hc, hLe c 3 hc]
    exact ⟨rfl, rfl⟩
  · rw [hct]
    intro c u i hu hi
    rw [f7' c u i hu hi]
    omega
  · intro x hx
    have hr : s.roots = List.replicate 12 12 := by rw [f2]; rfl
    rw [hr] at hx
    rw [(List.mem_replicate.1 hx).2]
    omega
  · intro c hc
    rw [f5' c 0 hc (by omega), hLe c 0 hc, if_pos rfl, cellsN_length]

end Go.Proofs.Ytbjlapfcnldpoaa

/- The heap's fields by contract: field, Get, Set. -/
namespace Go.Proofs.Ytbjlapfcnldpoaa
set_option linter.unusedVariables false
set_option linter.unusedSimpArgs false
open Go.RowKit

theorem atc_is {hb b g q h : Nat} {s : TH} (hr : rdh s.W q = some h) {vf vt vm vn : Nat} (hvf : hform h = vf) (hvt : htag h = vt) (hvm : hmark h = vm) (hvn : hn h = vn) (W : World) (hW : IsTH W hb b g s) :
    Calls Try.prog 77 #[.pointer (some ⟨hb, 0, none⟩), .int .i64 q] W fun e w' => e = .returned (.agg #[.int .i64 (vf : Int), .int .i64 (vt : Int), .int .i64 (vm : Int), .int .i64 (vn : Int)]) ∧ IsTH w' hb b g s ∧ Keeps (foot3 hb b g) W w' := by
  have := at_is q hW hr
  rw [← hvf, ← hvt, ← hvm, ← hvn]
  exact this

theorem set4_heap {w : World} {a : Nat} {v0 v1 v2 v3 : Value} {T : TypeId} (h : w.heap[a]? = some (.cells #[v0, v1, v2, v3] T (0, 0))) (x0 x1 x2 x3 : Value) :
    ((((w.setCell ⟨a, 0, none⟩ x0).setCell ⟨a, 1, none⟩ x1).setCell ⟨a, 2, none⟩ x2).setCell ⟨a, 3, none⟩ x3).heap[a]? = some (.cells #[x0, x1, x2, x3] T (0, 0)) := by
  have h0 := heap_setCell_at h 0 x0
  have h1 := heap_setCell_at h0 1 x1
  have h2 := heap_setCell_at h1 2 x2
  have h3 := heap_setCell_at h2 3 x3
  exact h3
theorem set4_keeps {w0 w : World} {a : Nat} (k : Keeps (fun _ => False) w0 w) (ha : w0.heap.size ≤ a) (x0 x1 x2 x3 : Value) :
    Keeps (fun _ => False) w0 ((((w.setCell ⟨a, 0, none⟩ x0).setCell ⟨a, 1, none⟩ x1).setCell ⟨a, 2, none⟩ x2).setCell ⟨a, 3, none⟩ x3) :=
  (((k.setCell (p := ⟨a, 0, none⟩) (fun h => by simp only at h; omega) x0).setCell (p := ⟨a, 1, none⟩) (fun h => by simp only at h; omega) x1).setCell (p := ⟨a, 2, none⟩) (fun h => by simp only at h; omega) x2).setCell (p := ⟨a, 3, none⟩) (fun h => by simp only at h; omega) x3
theorem set4_own (w : World) (a : Nat) (x0 x1 x2 x3 : Value) :
    Keeps (fun z => z = a) w ((((w.setCell ⟨a, 0, none⟩ x0).setCell ⟨a, 1, none⟩ x1).setCell ⟨a, 2, none⟩ x2).setCell ⟨a, 3, none⟩ x3) :=
  ((((Keeps.refl (fun z => z = a) w).setCell (p := ⟨a, 0, none⟩) (fun _ => rfl) x0).setCell (p := ⟨a, 1, none⟩) (fun _ => rfl) x1).setCell (p := ⟨a, 2, none⟩) (fun _ => rfl) x2).setCell (p := ⟨a, 3, none⟩) (fun _ => rfl) x3

set_option maxRecDepth 100000 in
theorem field_no {hb b g x : Nat} {s : TH} {w : World} (i : Int) (hI : IsTH w hb b g s) (hx : x < 18446744073709551616) (hp : tplace s x = none) :
    Calls Try.prog 78 #[.pointer (some ⟨hb, 0, none⟩), .int .u64 x, .int .i64 i] w fun e w' => e = .returned (.tuple #[.int .i64 0, .agg #[.int .i64 0, .int .i64 0, .int .i64 0, .int .i64 0], .iface 97 (.int .i64 2)]) ∧ IsTH w' hb b g s ∧ Keeps (foot3 hb b g) w w' := by
  have H := Box.mk (And.intro hI (And.intro hx hp))
  clear hI hx hp
  go_enter Try.func78, Try.ntmps78
  go_wp2_with fail
  have ka := (Keeps.refl (fun _ => False) w).alloc (.cells #[.int .i64 0, .int .i64 0, .int .i64 0, .int .i64 0] 110)
  have hh := heap_alloc_new w (.cells #[.int .i64 0, .int .i64 0, .int .i64 0, .int .i64 0] 110)
  refine (place_is x (H.out.1.keeps0 ka) H.out.2.1).mono ?_
  rintro e w1 ⟨⟨p, c, ok, rfl, hok, -⟩, k1⟩
  rw [H.out.2.2] at hok
  subst hok
  have hh1 := k1.heap hh (fun h => h)
  have ha := lt_of_heap hh1
  obtain ⟨a, hae⟩ : ∃ a, w.heap.size = a := ⟨_, rfl⟩
  have hlt := H.out.1.lt
  rw [hae] at hh1 hlt ha ⊢
  have H1 := Box.mk ((H.out.1.keeps0 ka).keeps0 k1)
  have K1 := Box.mk (ka.trans k1)
  have Hae := Box.mk hae
  clear k1 H ka hh hae
  simp only [Option.isSome_none]
  have c0 := cell_of_heap hh1 0
  have c1 := cell_of_heap hh1 1
  have c2 := cell_of_heap hh1 2
  have c3 := cell_of_heap hh1 3
  have f0 := frozen_of_heap hh1
  simp only [List.getElem?_toArray, List.getElem?_cons_zero, List.getElem?_cons_succ] at c0 c1 c2 c3
  go_wp2_with fail
  have hs := set4_heap hh1 (.int .i64 0) (.int .i64 0) (.int .i64 0) (.int .i64 0)
  have d0 := cell_of_heap hs 0
  have d1 := cell_of_heap hs 1
  have d2 := cell_of_heap hs 2
  have d3 := cell_of_heap hs 3
  simp only [List.getElem?_toArray, List.getElem?_cons_zero, List.getElem?_cons_succ] at d0 d1 d2 d3
  have ko := set4_own w1 a (.int .i64 0) (.int .i64 0) (.int .i64 0) (.int .i64 0)
  have kw := set4_keeps K1.out (by have := Hae.out; omega) (.int .i64 0) (.int .i64 0) (.int .i64 0) (.int .i64 0) (a := a)
  clear c0 c1 c2 c3 f0
  generalize ((((w1.setCell ⟨a, 0, none⟩ (.int .i64 0)).setCell ⟨a, 1, none⟩ (.int .i64 0)).setCell ⟨a, 2, none⟩ (.int .i64 0)).setCell ⟨a, 3, none⟩ (.int .i64 0)) = w2 at *
  exact bodyPost_ret (v := .tuple #[.int .i64 0, .agg #[.int .i64 0, .int .i64 0, .int .i64 0, .int .i64 0], .iface 97 (.int .i64 2)]) (by simp [results, Try.results78, go_sem, d0, d1, d2, d3]) rfl ⟨rfl, H1.out.keeps ko (by omega) (by omega) (by omega), kw.mono (fun _ _ h => h.elim)⟩

set_option maxRecDepth 100000 in
set_option maxHeartbeats 2000000 in
theorem field_ok {hb b g x q c h i : Nat} {s : TH} {w : World} (hI : IsTH w hb b g s) (hx : x < 18446744073709551616) (hp : tplace s x = some (q, c)) (hr : rdh s.W q = some h) (hi : i < hn h) (hq : q ≤ 1048576) {vf vt vm vn : Nat} (hvf : hform h = vf) (hvt : htag h = vt) (hvm : hmark h = vm) (hvn : hn h = vn) :
    Calls Try.prog 78 #[.pointer (some ⟨hb, 0, none⟩), .int .u64 x, .int .i64 i] w fun e w' => e = .returned (.tuple #[.int .i64 ((q + 3 + i : Nat) : Int), .agg #[.int .i64 (vf : Int), .int .i64 (vt : Int), .int .i64 (vm : Int), .int .i64 (vn : Int)], .nilIface]) ∧ IsTH w' hb b g s ∧ Keeps (foot3 hb b g) w w' := by
  have H := Box.mk (And.intro hI (And.intro hx hp))
  have Hat := Box.mk (atc_is (hb := hb) (b := b) (g := g) hr hvf hvt hvm hvn)
  have hib : i < 256 := by have := hn_lt h; omega
  rw [hvn] at hi
  obtain ⟨z, hz⟩ : ∃ z, q + 3 + i = z := ⟨_, rfl⟩
  have hzi : (q : Int) + 3 + (i : Int) = (z : Int) := by omega
  rw [hz]
  clear hI hx hp hr hvf hvt hvm hvn hz
  go_enter Try.func78, Try.ntmps78
  go_wp2_with fail
  have ka := (Keeps.refl (fun _ => False) w).alloc (.cells #[.int .i64 0, .int .i64 0, .int .i64 0, .int .i64 0] 110)
  have hh := heap_alloc_new w (.cells #[.int .i64 0, .int .i64 0, .int .i64 0, .int .i64 0] 110)
  refine (place_is x (H.out.1.keeps0 ka) H.out.2.1).mono ?_
  rintro e w1 ⟨⟨p, c', ok, rfl, hok, hpc⟩, k1⟩
  obtain ⟨rfl, rfl⟩ := hpc _ _ H.out.2.2
  rw [H.out.2.2] at hok
  subst hok
  have hh1 := k1.heap hh (fun h => h)
  have ha := lt_of_heap hh1
  obtain ⟨a, hae⟩ : ∃ a, w.heap.size = a := ⟨_, rfl⟩
  have hlt := H.out.1.lt
  rw [hae] at hh1 hlt ha ⊢
  have H1 := Box.mk ((H.out.1.keeps0 ka).keeps0 k1)
  have K1 := Box.mk (ka.trans k1)
  have Hae := Box.mk hae
  clear k1 H ka hh hae hpc
  simp only [Option.isSome_some]
  go_wp2_with fail
  refine (Hat.out _ H1.out).mono ?_
  rintro e w2 ⟨rfl, hI2, k2⟩
  have hh2 := k2.heap hh1 (by unfold foot3; omega)
  have hsz : a < w2.heap.size := lt_of_heap hh2
  clear hh1 ha H1
  go_wp2_with fail
  have hx2 := heap_alloc_new w2 (.cells #[.int .i64 (vf : Int), .int .i64 (vt : Int), .int .i64 (vm : Int), .int .i64 (vn : Int)] 110)
  have kb := (Keeps.refl (fun _ => False) w2).alloc (.cells #[.int .i64 (vf : Int), .int .i64 (vt : Int), .int .i64 (vm : Int), .int .i64 (vn : Int)] 110)
  have hh3 := kb.heap hh2 (fun h => h)
  have H3 := Box.mk (hI2.keeps0 kb)
  have K3 := Box.mk ((K1.out.mono (S' := foot3 hb b g) (fun _ _ h => h.elim)).trans (k2.trans (kb.mono (S' := foot3 hb b g) (fun _ _ h => h.elim))))
  obtain ⟨a2, ha2⟩ : ∃ a2, w2.heap.size = a2 := ⟨_, rfl⟩
  rw [ha2] at hx2 hsz ⊢
  clear ha2 hI2 k2 hh2 kb K1
  generalize w2.alloc (.cells #[.int .i64 (vf : Int), .int .i64 (vt : Int), .int .i64 (vm : Int), .int .i64 (vn : Int)] 110) = w3 at *
  have c0 := cell_of_heap hx2 0
  have c1 := cell_of_heap hx2 1
  have c2 := cell_of_heap hx2 2
  have c3 := cell_of_heap hx2 3
  have e0 := cell_of_heap hh3 0
  have e1 := cell_of_heap hh3 1
  have e2 := cell_of_heap hh3 2
  have e3 := cell_of_heap hh3 3
  have f0 := frozen_of_heap hh3
  simp only [List.getElem?_toArray, List.getElem?_cons_zero, List.getElem?_cons_succ] at c0 c1 c2 c3 e0 e1 e2 e3
  go_region
  have hs : ((((w3.setCell ⟨a, 0, none⟩ (.int .i64 (vf : Int))).setCell ⟨a, 1, none⟩ (.int .i64 (vt : Int))).setCell ⟨a, 2, none⟩ (.int .i64 (vm : Int))).setCell ⟨a, 3, none⟩ (.int .i64 (vn : Int))).drew.heap[a]? = _ := set4_heap hh3 (.int .i64 (vf : Int)) (.int .i64 (vt : Int)) (.int .i64 (vm : Int)) (.int .i64 (vn : Int))
  have ko : Keeps (fun z => z = a) w3 ((((w3.setCell ⟨a, 0, none⟩ (.int .i64 (vf : Int))).setCell ⟨a, 1, none⟩ (.int .i64 (vt : Int))).setCell ⟨a, 2, none⟩ (.int .i64 (vm : Int))).setCell ⟨a, 3, none⟩ (.int .i64 (vn : Int))).drew := (set4_own w3 a (.int .i64 (vf : Int)) (.int .i64 (vt : Int)) (.int .i64 (vm : Int)) (.int .i64 (vn : Int))).drew
  clear c0 c1 c2 c3 e0 e1 e2 e3 f0 hx2 hh3
  generalize ((((w3.setCell ⟨a, 0, none⟩ (.int .i64 (vf : Int))).setCell ⟨a, 1, none⟩ (.int .i64 (vt : Int))).setCell ⟨a, 2, none⟩ (.int .i64 (vm : Int))).setCell ⟨a, 3, none⟩ (.int .i64 (vn : Int))).drew = w4 at *
  have d0 := cell_of_heap hs 0
  have d1 := cell_of_heap hs 1
  have d2 := cell_of_heap hs 2
  have d3 := cell_of_heap hs 3
  simp only [List.getElem?_toArray, List.getElem?_cons_zero, List.getElem?_cons_succ] at d0 d1 d2 d3
  have H4 := Box.mk (H3.out.keeps ko (by omega) (by omega) (by omega))
  have K4 : Box (Keeps (foot3 hb b g) w w4) := ⟨K3.out.trans' ko (fun z hz h => by have := Hae.out; omega)⟩
  clear H3 K3 ko
  go_wp2_with fail
  exact bodyPost_ret (v := .tuple #[.int .i64 (z : Int), .agg #[.int .i64 (vf : Int), .int .i64 (vt : Int), .int .i64 (vm : Int), .int .i64 (vn : Int)], .nilIface]) (by simp [results, Try.results78, go_sem, d0, d1, d2, d3]) rfl ⟨rfl, H4.out, K4.out⟩

set_option maxRecDepth 100000 in
set_option maxHeartbeats 2000000 in
theorem get_is {hb b g x q c h i v : Nat} {s : TH} {w : World} (hI : IsTH w hb b g s) (hx : x < 18446744073709551616) (hp : tplace s x = some (q, c)) (hr : rdh s.W q = some h) (hi : i < hn h) (hq : q ≤ 1048576) (hf : hform h ≠ 3) (hl : q + 3 + i < s.W.length) (hv : wat s.W (q + 3 + i) = v) :
    Calls Try.prog 23 #[.pointer (some ⟨hb, 0, none⟩), .int .u64 x, .int .i64 i] w fun e w' => e = .returned (.tuple #[.int .u64 v, .nilIface]) ∧ IsTH w' hb b g s ∧ Keeps (foot3 hb b g) w w' := by
  obtain ⟨vf, hvf⟩ : ∃ vf, hform h = vf := ⟨_, rfl⟩
  obtain ⟨vt, hvt⟩ : ∃ vt, htag h = vt := ⟨_, rfl⟩
  obtain ⟨vm, hvm⟩ : ∃ vm, hmark h = vm := ⟨_, rfl⟩
  obtain ⟨vn, hvn⟩ : ∃ vn, hn h = vn := ⟨_, rfl⟩
  have HF := Box.mk (field_ok hI hx hp hr hi hq hvf hvt hvm hvn)
  rw [hvf] at hf
  have e3 : ((vf : Int) == 3) = false := by rw [beq_eq_false_iff_ne]; omega
  obtain ⟨z, hz⟩ : ∃ z, q + 3 + i = z := ⟨_, rfl⟩
  rw [hz] at HF hl hv
  have Hv := Box.mk (And.intro hl hv)
  clear hI hx hp hr hi hvf hvt hvm hvn hf hl hv hz
  go_enter Try.func23, Try.ntmps23
  go_wp2_with fail
  refine HF.out.mono ?_
  rintro e w1 ⟨rfl, hI1, k1⟩
  have ka := (Keeps.refl (fun _ => False) w1).alloc (.cells #[.int .i64 (vf : Int), .int .i64 (vt : Int), .int .i64 (vm : Int), .int .i64 (vn : Int)] 110)
  have hh := heap_alloc_new w1 (.cells #[.int .i64 (vf : Int), .int .i64 (vt : Int), .int .i64 (vm : Int), .int .i64 (vn : Int)] 110)
  have H2 := Box.mk (hI1.keeps0 ka)
  have K2 := Box.mk (k1.trans (ka.mono (S' := foot3 hb b g) (fun _ _ h => h.elim)))
  have hlt := hI1.lt
  clear HF hI1 k1 ka
  have hst := H2.out.store
  go_wp2_with fail
  obtain ⟨a, hae⟩ : ∃ a, w1.heap.size = a := ⟨_, rfl⟩
  rw [hae] at hh hlt ⊢
  clear hae
  generalize w1.alloc (.cells #[.int .i64 (vf : Int), .int .i64 (vt : Int), .int .i64 (vm : Int), .int .i64 (vn : Int)] 110) = w2 at *
  refine (wget_is H2.out.iw Hv.out.1).mono ?_
  rw [Hv.out.2]
  rintro e w3 ⟨rfl, hI3, k3⟩
  have H3 : Box (IsTH w3 hb b g s) := ⟨H2.out.ring k3 hI3⟩
  have K3 := Box.mk (K2.out.trans (k3.mono (S' := foot3 hb b g) (fun i _ h => Or.inr h)))
  have hh3 := k3.heap hh (by unfold foot; omega)
  have c0 := cell_of_heap hh3 0
  simp only [List.getElem?_toArray, List.getElem?_cons_zero, List.getElem?_cons_succ] at c0
  clear hI3 k3 H2 K2 hh hh3 hst
  go_wp2_with fail
  go_ret2
  exact ⟨rfl, H3.out, K3.out⟩

end Go.Proofs.Ytbjlapfcnldpoaa

/- The heap's Set by its contract. -/
namespace Go.Proofs.Ytbjlapfcnldpoaa
set_option linter.unusedVariables false
set_option linter.unusedSimpArgs false
open Go.RowKit

theorem tset_parts {s s' : TH} {u i x : Nat} (h : tset s u i x = some s') : ∃ hd old s1, rdh s.W u = some hd ∧ u + 3 + i < s.W.length ∧ wat s.W (u + 3 + i) = old ∧ (if hform hd = 1 ∧ s.marking = true then tshade s old else some s) = some s1 ∧ u + 3 + i < s1.W.length ∧ s' = { s1 with W := s1.W.set (u + 3 + i) x } := by
  unfold tset at h
  simp only [Option.bind_eq_some_iff, Option.map_eq_some_iff] at h
  obtain ⟨hd, h1, old, h2, s1, h3, W, h4, h5⟩ := h
  obtain ⟨a, b⟩ := rd_parts h2
  obtain ⟨c, d⟩ := wrt_parts h4
  exact ⟨hd, old, s1, h1, a, b, h3, c, by rw [← h5, d]⟩


set_option maxRecDepth 100000 in
set_option maxHeartbeats 2000000 in
theorem set_raw {hb b g xc q c h i x : Nat} {s s' : TH} {w : World} (hI : IsTH w hb b g s) (hxc : xc < 18446744073709551616) (hp : tplace s xc = some (q, c)) (hr : rdh s.W q = some h) (hi : i < hn h) (hq : q ≤ 1048576) (hnow : s.now ≤ 1) (hx : x < 18446744073709551616) (hs : tset s q i x = some s') (hf : hform h = 2) :
    Calls Try.prog 25 #[.pointer (some ⟨hb, 0, none⟩), .int .u64 xc, .int .i64 i, .int .u64 x] w fun e w' => e = .returned .nilIface ∧ IsTH w' hb b g s' ∧ Keeps (foot3 hb b g) w w' := by
  obtain ⟨hd, old, s1, p1, p2, p3, p4, p5, rfl⟩ := tset_parts hs
  rw [hr] at p1
  injection p1 with p1
  subst p1
  obtain ⟨vf, hvf⟩ : ∃ vf, hform h = vf := ⟨_, rfl⟩
  obtain ⟨vt, hvt⟩ : ∃ vt, htag h = vt := ⟨_, rfl⟩
  obtain ⟨vm, hvm⟩ : ∃ vm, hmark h = vm := ⟨_, rfl⟩
  obtain ⟨vn, hvn⟩ : ∃ vn, hn h = vn := ⟨_, rfl⟩
  have HF := Box.mk (field_ok hI hxc hp hr hi hq hvf hvt hvm hvn)
  rw [hvf] at hf p4
  subst hf
  have hm : True := trivial
  rw [if_neg (by omega)] at p4
  injection p4 with p4
  subst p4
  have p4 := trivial
  obtain ⟨z, hz⟩ : ∃ z, q + 3 + i = z := ⟨_, rfl⟩
  rw [hz] at HF p2 p3 p5 ⊢
  have Hv := Box.mk (And.intro p2 p3)
  have HX := Box.mk hx
  have HN := Box.mk hnow
  have P4 := Box.mk p4
  have P5 := Box.mk p5
  clear hI hxc hp hr hi hvf hvt hvm hvn p2 p3 p4 p5 hz hs hx hnow hm
  go_enter Try.func25, Try.ntmps25
  go_wp2_with fail
  refine HF.out.mono ?_
  rintro e w1 ⟨rfl, hI1, k1⟩
  have ka := (Keeps.refl (fun _ => False) w1).alloc (.cells #[.int .i64 (2 : Int), .int .i64 (vt : Int), .int .i64 (vm : Int), .int .i64 (vn : Int)] 110)
  have hh := heap_alloc_new w1 (.cells #[.int .i64 (2 : Int), .int .i64 (vt : Int), .int .i64 (vm : Int), .int .i64 (vn : Int)] 110)
  have H2 := Box.mk (hI1.keeps0 ka)
  have K2 := Box.mk (k1.trans (ka.mono (S' := foot3 hb b g) (fun _ _ h => h.elim)))
  have hlt := hI1.lt
  clear HF hI1 k1 ka
  have hst := H2.out.store
  go_wp2_with fail
  obtain ⟨a, hae⟩ : ∃ a, w1.heap.size = a := ⟨_, rfl⟩
  rw [hae] at hh hlt
  try rw [hae]
  clear hae
  generalize w1.alloc (.cells #[.int .i64 (2 : Int), .int .i64 (vt : Int), .int .i64 (vm : Int), .int .i64 (vn : Int)] 110) = w2 at *
  refine (wget_is H2.out.iw Hv.out.1).mono ?_
  rw [Hv.out.2]
  rintro e w3 ⟨rfl, hI3, k3⟩
  have H3 : Box (IsTH w3 hb b g s) := ⟨H2.out.ring k3 hI3⟩
  have K3 := Box.mk (K2.out.trans (k3.mono (S' := foot3 hb b g) (fun i _ h => Or.inr h)))
  have hh3 := k3.heap hh (by unfold foot; omega)
  have c0 := cell_of_heap hh3 0
  simp only [List.getElem?_toArray, List.getElem?_cons_zero, List.getElem?_cons_succ] at c0
  clear hI3 k3 H2 K2 hh hst
  have H9 := H3
  have K9 := K3
  clear H3 K3
  have hst9 := H9.out.store
  go_wp2_with fail
  refine (wset_is x H9.out.iw P5.out).mono ?_
  rintro e w10 ⟨rfl, hI10, k10⟩
  have K10 := Box.mk (K9.out.trans (k10.mono (S' := foot3 hb b g) (fun i _ h => Or.inr h)))
  have H10 := Box.mk (H9.out.ring k10 hI10)
  clear hI10 k10 H9 K9 hst9
  go_wp2_with fail
  go_ret
  exact ⟨rfl, H10.out, K10.out⟩


set_option maxRecDepth 100000 in
set_option maxHeartbeats 2000000 in
theorem set_plain_rest {hb b g xc q c h i x : Nat} {s s' : TH} {w : World} (hI : IsTH w hb b g s) (hxc : xc < 18446744073709551616) (hp : tplace s xc = some (q, c)) (hr : rdh s.W q = some h) (hi : i < hn h) (hq : q ≤ 1048576) (hnow : s.now ≤ 1) (hx : x < 18446744073709551616) (hs : tset s q i x = some s') (hf : hform h = 1) (hm : s.marking = false) (hval : tvalue s x = true) :
    Calls Try.prog 25 #[.pointer (some ⟨hb, 0, none⟩), .int .u64 xc, .int .i64 i, .int .u64 x] w fun e w' => e = .returned .nilIface ∧ IsTH w' hb b g s' ∧ Keeps (foot3 hb b g) w w' := by
  obtain ⟨hd, old, s1, p1, p2, p3, p4, p5, rfl⟩ := tset_parts hs
  rw [hr] at p1
  injection p1 with p1
  subst p1
  obtain ⟨vf, hvf⟩ : ∃ vf, hform h = vf := ⟨_, rfl⟩
  obtain ⟨vt, hvt⟩ : ∃ vt, htag h = vt := ⟨_, rfl⟩
  obtain ⟨vm, hvm⟩ : ∃ vm, hmark h = vm := ⟨_, rfl⟩
  obtain ⟨vn, hvn⟩ : ∃ vn, hn h = vn := ⟨_, rfl⟩
  have HF := Box.mk (field_ok hI hxc hp hr hi hq hvf hvt hvm hvn)
  rw [hvf] at hf p4
  subst hf
  rw [if_neg (by rw [hm]; simp)] at p4
  injection p4 with p4
  subst p4
  have p4 := trivial
  have HM := Box.mk hm
  have Hval := Box.mk hval
  clear hval
  obtain ⟨z, hz⟩ : ∃ z, q + 3 + i = z := ⟨_, rfl⟩
  rw [hz] at HF p2 p3 p5 ⊢
  have Hv := Box.mk (And.intro p2 p3)
  have HX := Box.mk hx
  have HN := Box.mk hnow
  have P4 := Box.mk p4
  have P5 := Box.mk p5
  clear hI hxc hp hr hi hvf hvt hvm hvn p2 p3 p4 p5 hz hs hx hnow hm
  go_enter Try.func25, Try.ntmps25
  go_wp2_with fail
  refine HF.out.mono ?_
  rintro e w1 ⟨rfl, hI1, k1⟩
  have ka := (Keeps.refl (fun _ => False) w1).alloc (.cells #[.int .i64 (1 : Int), .int .i64 (vt : Int), .int .i64 (vm : Int), .int .i64 (vn : Int)] 110)
  have hh := heap_alloc_new w1 (.cells #[.int .i64 (1 : Int), .int .i64 (vt : Int), .int .i64 (vm : Int), .int .i64 (vn : Int)] 110)
  have H2 := Box.mk (hI1.keeps0 ka)
  have K2 := Box.mk (k1.trans (ka.mono (S' := foot3 hb b g) (fun _ _ h => h.elim)))
  have hlt := hI1.lt
  clear HF hI1 k1 ka
  have hst := H2.out.store
  go_wp2_with fail
  obtain ⟨a, hae⟩ : ∃ a, w1.heap.size = a := ⟨_, rfl⟩
  rw [hae] at hh hlt
  try rw [hae]
  clear hae
  generalize w1.alloc (.cells #[.int .i64 (1 : Int), .int .i64 (vt : Int), .int .i64 (vm : Int), .int .i64 (vn : Int)] 110) = w2 at *
  refine (wget_is H2.out.iw Hv.out.1).mono ?_
  rw [Hv.out.2]
  rintro e w3 ⟨rfl, hI3, k3⟩
  have H3 : Box (IsTH w3 hb b g s) := ⟨H2.out.ring k3 hI3⟩
  have K3 := Box.mk (K2.out.trans (k3.mono (S' := foot3 hb b g) (fun i _ h => Or.inr h)))
  have hh3 := k3.heap hh (by unfold foot; omega)
  have c0 := cell_of_heap hh3 0
  simp only [List.getElem?_toArray, List.getElem?_cons_zero, List.getElem?_cons_succ] at c0
  clear hI3 k3 H2 K2 hh hst
  have hv := Hval.out
  go_wp2_with fail
  refine (value_is H3.out HX.out).mono ?_
  rw [Hval.out]
  rintro e w4 ⟨rfl, k4⟩
  have H4 := Box.mk (H3.out.keeps0 k4)
  have K4 := Box.mk (K3.out.trans (k4.mono (S' := foot3 hb b g) (fun _ _ h => h.elim)))
  have hh4 := k4.heap hh3 (fun h => h)
  have c0 := cell_of_heap hh4 0
  simp only [List.getElem?_toArray, List.getElem?_cons_zero, List.getElem?_cons_succ] at c0
  have hmk := H4.out.marking
  rw [HM.out] at hmk
  clear k4 H3 K3 hh3 hv
  have H9 := H4
  have K9 := K4
  clear H4 K4
  have hst9 := H9.out.store
  go_wp2_with fail
  refine (wset_is x H9.out.iw P5.out).mono ?_
  rintro e w10 ⟨rfl, hI10, k10⟩
  have K10 := Box.mk (K9.out.trans (k10.mono (S' := foot3 hb b g) (fun i _ h => Or.inr h)))
  have H10 := Box.mk (H9.out.ring k10 hI10)
  clear hI10 k10 H9 K9 hst9
  go_wp2_with fail
  go_ret
  exact ⟨rfl, H10.out, K10.out⟩


set_option maxRecDepth 100000 in
set_option maxHeartbeats 2000000 in
theorem set_plain_mark {hb b g xc q c h i x : Nat} {s s' : TH} {w : World} (hI : IsTH w hb b g s) (hxc : xc < 18446744073709551616) (hp : tplace s xc = some (q, c)) (hr : rdh s.W q = some h) (hi : i < hn h) (hq : q ≤ 1048576) (hnow : s.now ≤ 1) (hx : x < 18446744073709551616) (hs : tset s q i x = some s') (hf : hform h = 1) (hm : s.marking = true) (hval : tvalue s x = true) :
    Calls Try.prog 25 #[.pointer (some ⟨hb, 0, none⟩), .int .u64 xc, .int .i64 i, .int .u64 x] w fun e w' => e = .returned .nilIface ∧ IsTH w' hb b g s' ∧ Keeps (foot3 hb b g) w w' := by
  obtain ⟨hd, old, s1, p1, p2, p3, p4, p5, rfl⟩ := tset_parts hs
  rw [hr] at p1
  injection p1 with p1
  subst p1
  obtain ⟨vf, hvf⟩ : ∃ vf, hform h = vf := ⟨_, rfl⟩
  obtain ⟨vt, hvt⟩ : ∃ vt, htag h = vt := ⟨_, rfl⟩
  obtain ⟨vm, hvm⟩ : ∃ vm, hmark h = vm := ⟨_, rfl⟩
  obtain ⟨vn, hvn⟩ : ∃ vn, hn h = vn := ⟨_, rfl⟩
  have HF := Box.mk (field_ok hI hxc hp hr hi hq hvf hvt hvm hvn)
  rw [hvf] at hf p4
  subst hf
  rw [if_pos ⟨rfl, hm⟩] at p4
  have HM := Box.mk hm
  have Hval := Box.mk hval
  clear hval
  obtain ⟨z, hz⟩ : ∃ z, q + 3 + i = z := ⟨_, rfl⟩
  rw [hz] at HF p2 p3 p5 ⊢
  have Hv := Box.mk (And.intro p2 p3)
  have HX := Box.mk hx
  have HN := Box.mk hnow
  have P4 := Box.mk p4
  have P5 := Box.mk p5
  clear hI hxc hp hr hi hvf hvt hvm hvn p2 p3 p4 p5 hz hs hx hnow hm
  go_enter Try.func25, Try.ntmps25
  go_wp2_with fail
  refine HF.out.mono ?_
  rintro e w1 ⟨rfl, hI1, k1⟩
  have ka := (Keeps.refl (fun _ => False) w1).alloc (.cells #[.int .i64 (1 : Int), .int .i64 (vt : Int), .int .i64 (vm : Int), .int .i64 (vn : Int)] 110)
  have hh := heap_alloc_new w1 (.cells #[.int .i64 (1 : Int), .int .i64 (vt : Int), .int .i64 (vm : Int), .int .i64 (vn : Int)] 110)
  have H2 := Box.mk (hI1.keeps0 ka)
  have K2 := Box.mk (k1.trans (ka.mono (S' := foot3 hb b g) (fun _ _ h => h.elim)))
  have hlt := hI1.lt
  clear HF hI1 k1 ka
  have hst := H2.out.store
  go_wp2_with fail
  obtain ⟨a, hae⟩ : ∃ a, w1.heap.size = a := ⟨_, rfl⟩
  rw [hae] at hh hlt
  try rw [hae]
  clear hae
  generalize w1.alloc (.cells #[.int .i64 (1 : Int), .int .i64 (vt : Int), .int .i64 (vm : Int), .int .i64 (vn : Int)] 110) = w2 at *
  refine (wget_is H2.out.iw Hv.out.1).mono ?_
  rw [Hv.out.2]
  rintro e w3 ⟨rfl, hI3, k3⟩
  have H3 : Box (IsTH w3 hb b g s) := ⟨H2.out.ring k3 hI3⟩
  have K3 := Box.mk (K2.out.trans (k3.mono (S' := foot3 hb b g) (fun i _ h => Or.inr h)))
  have hh3 := k3.heap hh (by unfold foot; omega)
  have c0 := cell_of_heap hh3 0
  simp only [List.getElem?_toArray, List.getElem?_cons_zero, List.getElem?_cons_succ] at c0
  clear hI3 k3 H2 K2 hh hst
  have hv := Hval.out
  go_wp2_with fail
  refine (value_is H3.out HX.out).mono ?_
  rw [Hval.out]
  rintro e w4 ⟨rfl, k4⟩
  have H4 := Box.mk (H3.out.keeps0 k4)
  have K4 := Box.mk (K3.out.trans (k4.mono (S' := foot3 hb b g) (fun _ _ h => h.elim)))
  have hh4 := k4.heap hh3 (fun h => h)
  have c0 := cell_of_heap hh4 0
  simp only [List.getElem?_toArray, List.getElem?_cons_zero, List.getElem?_cons_succ] at c0
  have hmk := H4.out.marking
  rw [HM.out] at hmk
  clear k4 H3 K3 hh3 hv
  go_wp2_with fail
  refine (shade_is H4.out P4.out HN.out).mono ?_
  rintro e w5 ⟨rfl, hI5, k5⟩
  have H9 := Box.mk hI5
  have K9 := Box.mk (K4.out.trans k5)
  clear H4 K4 hI5 k5 hmk
  have hst9 := H9.out.store
  go_wp2_with fail
  refine (wset_is x H9.out.iw P5.out).mono ?_
  rintro e w10 ⟨rfl, hI10, k10⟩
  have K10 := Box.mk (K9.out.trans (k10.mono (S' := foot3 hb b g) (fun i _ h => Or.inr h)))
  have H10 := Box.mk (H9.out.ring k10 hI10)
  clear hI10 k10 H9 K9 hst9
  go_wp2_with fail
  go_ret
  exact ⟨rfl, H10.out, K10.out⟩


theorem set_is {hb b g xc q c h i x : Nat} {s s' : TH} {w : World} (hI : IsTH w hb b g s) (hxc : xc < 18446744073709551616) (hp : tplace s xc = some (q, c)) (hr : rdh s.W q = some h) (hi : i < hn h) (hq : q ≤ 1048576) (hnow : s.now ≤ 1) (hx : x < 18446744073709551616) (hs : tset s q i x = some s')
    (hf : hform h = 1 ∧ tvalue s x = true ∨ hform h = 2) :
    Calls Try.prog 25 #[.pointer (some ⟨hb, 0, none⟩), .int .u64 xc, .int .i64 i, .int .u64 x] w fun e w' => e = .returned .nilIface ∧ IsTH w' hb b g s' ∧ Keeps (foot3 hb b g) w w' := by
  rcases hf with ⟨h1, h2⟩ | h1
  · cases hm : s.marking with
    | false => exact set_plain_rest hI hxc hp hr hi hq hnow hx hs h1 hm h2
    | true => exact set_plain_mark hI hxc hp hr hi hq hnow hx hs h1 hm h2
  · exact set_raw hI hxc hp hr hi hq hnow hx hs h1

end Go.Proofs.Ytbjlapfcnldpoaa

/- Where registers name nothing, three increments leave all cells free. No program in sight. -/
namespace Go.Proofs.Ytbjlapfcnldpoaa
set_option linter.unusedVariables false
set_option linter.unusedSimpArgs false
open Go.RowKit

/-- No grey cell. -/
def NG (L : Nat → Nat → List Nat) : Prop := ∀ v, colOf L v ≠ 3
theorem NG.lists {s : TH} {L : Nat → Nat → List Nat} {d : Nat → Nat → Nat} (hR : Rep s L d) (h : NG L) : ∀ c, c < 4 → L c 3 = [] := by
  intro c hc
  cases hL : L c 3 with
  | nil => rfl
  | cons u M => exact absurd (col_mem hR.rl hc (by omega) (show u ∈ L c 3 by rw [hL]; simp)) (h u)

theorem stepA {s : TH} {L : Nat → Nat → List Nat} (h : St s L) (hm : s.marking = false) (hg : NG L) (hn : NC s.roots) :
    ∃ s' L', tstep s = some s' ∧ St s' L' ∧ Kept s s' ∧ s'.marking = true ∧ NG L' ∧ ∀ v, colOf L' v = flipc (colOf L) v := by
  obtain ⟨s', L', e1, h1, h2, h3, -, -, h4, h5⟩ := flip_ok h hm
  have hng : NG L' := h5 hn
  refine ⟨s', L', ?_, h1, h2, h3, hng, fun v => ?_⟩
  · unfold tstep; rw [if_neg (by rw [hm]; simp)]; exact e1
  · have k := h4.keep v
    by_cases e : flipc (colOf L) v = 2
    · rcases k.2 e with e2 | e2
      · rw [e2, e]
      · exact absurd e2 (hng v)
    · exact k.1 e
theorem stepB {s : TH} {L : Nat → Nat → List Nat} (h : St s L) (hm : s.marking = true) (hg : NG L) (hcy : s.cycles < 1000000) :
    ∃ s' L', tstep s = some s' ∧ St s' L' ∧ Kept s s' ∧ s'.marking = false ∧ NG L' ∧ ∀ v, colOf L' v = endc (colOf L) v := by
  have hR := h.rep
  have hcnt0 : ∀ c l, c < 4 → l < 4 → lget s c l = (L c l).length := fun c l hc hl => by have := hR.cnt c l hc hl; simpa [d0] using this
  have hl := hg.lists hR
  have hz : ∀ c, c < 4 → lget s c 3 = 0 := fun c hc => by rw [hcnt0 c 3 hc (by omega), hl c hc]; rfl
  obtain ⟨s', e1, h1, h2, h3, h4⟩ := end_ok h hl hcy
  refine ⟨s', _, ?_, h1, h2, h3, fun v e => ?_, fun v => by rw [h4]⟩
  · unfold tstep
    rw [if_pos hm]
    show (tscan s).bind _ = some s'
    have : tscan s = some none := by
      unfold tscan
      rw [if_neg (by rw [hz 0 (by omega)]; simp), if_neg (by rw [hz 1 (by omega)]; simp), if_neg (by rw [hz 2 (by omega)]; simp), if_neg (by rw [hz 3 (by omega)]; simp)]
    rw [this]
    show (tlook s).bind _ = some s'
    have : tlook s = some none := by unfold tlook; rw [if_pos hR.wait]
    rw [this]
    exact e1
  · rw [h4] at e
    unfold endc at e
    split at e
    · omega
    · exact hg v e
theorem three_ok {s : TH} {L : Nat → Nat → List Nat} (h : St s L) (hg : NG L) (hn : NC s.roots) (hcy : s.cycles + 3 ≤ 1000000) :
    ∃ s' L', tincr 3 s = some s' ∧ St s' L' ∧ s'.count = s.count ∧ s'.roots = s.roots ∧ s'.k = s.k ∧ s'.cycles ≤ s.cycles + 3 ∧ ∀ v, colOf L' v = 0 := by
  have fin : ∀ {a b c : TH} {LA LB LC : Nat → Nat → List Nat}, tstep s = some a → tstep a = some b → tstep b = some c → Kept s a → Kept a b → Kept b c → St c LC → (∀ v, colOf LC v = 0) →
      ∃ s' L', tincr 3 s = some s' ∧ St s' L' ∧ s'.count = s.count ∧ s'.roots = s.roots ∧ s'.k = s.k ∧ s'.cycles ≤ s.cycles + 3 ∧ ∀ v, colOf L' v = 0 := by
    intro a b c LA LB LC e1 e2 e3 k1 k2 k3 h3 hz
    refine ⟨c, LC, ?_, h3, by rw [k3.count, k2.count, k1.count], by rw [k3.roots, k2.roots, k1.roots], by rw [k3.k, k2.k, k1.k], by have := k1.cyc; have := k2.cyc; have := k3.cyc; omega, hz⟩
    simp only [tincr]
    rw [e1, Option.bind_some, e2, Option.bind_some, e3, Option.bind_some]
  have le := colOf_le L
  by_cases hm : s.marking = true
  · obtain ⟨a, LA, e1, h1, k1, m1, g1, c1⟩ := stepB h hm hg (by omega)
    obtain ⟨b, LB, e2, h2, k2, m2, g2, c2⟩ := stepA h1 m1 g1 (by rw [k1.roots]; exact hn)
    obtain ⟨c, LC, e3, h3, k3, m3, g3, c3⟩ := stepB h2 m2 g2 (by have := k1.cyc; have := k2.cyc; omega)
    refine fin (LA := LA) (LB := LB) e1 e2 e3 k1 k2 k3 h3 (fun v => ?_)
    rw [c3 v]
    have a1 := c1 v
    have a2 := c2 v
    have a3 := hg v
    have a4 := le v
    unfold endc at a1 ⊢
    unfold flipc at a2
    split at a1 <;> split at a2 <;> split <;> omega
  · have hm' : s.marking = false := by simpa using hm
    obtain ⟨a, LA, e1, h1, k1, m1, g1, c1⟩ := stepA h hm' hg hn
    obtain ⟨b, LB, e2, h2, k2, m2, g2, c2⟩ := stepB h1 m1 g1 (by have := k1.cyc; omega)
    obtain ⟨c, LC, e3, h3, k3, m3, g3, c3⟩ := stepA h2 m2 g2 (by rw [k2.roots, k1.roots]; exact hn)
    refine fin (LA := LA) (LB := LB) e1 e2 e3 k1 k2 k3 h3 (fun v => ?_)
    rw [c3 v]
    have a1 := c1 v
    have a2 := c2 v
    have a3 := hg v
    have a4 := le v
    unfold flipc at a1 ⊢
    unfold endc at a2
    split at a1 <;> split at a2 <;> split <;> omega
theorem all_free {s : TH} {L : Nat → Nat → List Nat} (h : St s L) (hz : ∀ v, colOf L v = 0) {c : Nat} (hc : c < 4) : lget s c 0 = s.count.getD c 0 := by
  have hR := h.rep
  have e : ∀ l, 1 ≤ l → l < 4 → L c l = [] := by
    intro l h1 hl
    cases hL : L c l with
    | nil => rfl
    | cons u M =>
      have := col_mem hR.rl hc hl (show u ∈ L c l by rw [hL]; simp)
      rw [hz u] at this
      omega
  have h1 := hR.tot c hc
  have h2 := hR.cnt c 0 hc (by omega)
  rw [e 1 (by omega) (by omega), e 2 (by omega) (by omega), e 3 (by omega) (by omega)] at h1
  simp only [d0, Nat.add_zero, List.length_nil] at h1 h2
  omega

end Go.Proofs.Ytbjlapfcnldpoaa

/- What registers reach, and what objects are: what stays of them. No program in sight. -/
namespace Go.Proofs.Ytbjlapfcnldpoaa
set_option linter.unusedVariables false
set_option linter.unusedSimpArgs false
open Go.RowKit

/-- Reached from the registers. -/
inductive Rch (s : TH) : Nat → Prop where
  | root {v : Nat} (h : rootP s v) : Rch s v
  | step {u v : Nat} (h : Rch s u) (e : edgeW s.count s.W u v) : Rch s v
theorem Rch.isC {s : TH} {v : Nat} (h : Rch s v) : ∃ c, IsC s.count c v := by
  cases h with
  | root h => exact h.2
  | step _ e => exact e.2
theorem Rch.ok {s : TH} {L : Nat → Nat → List Nat} (h : St s L) {v : Nat} (hr : Rch s v) : IsOK s L v := by
  induction hr with
  | root h1 => exact h.gi.root _ h1
  | step _ e ih => exact ok_edge h.gi (colOf_le L) ih e
/-- What is reached has what it had. -/
structure Evo (s s' : TH) : Prop where
  count : s'.count = s.count
  k : s'.k = s.k
  shape : ∀ c v, IsC s.count c v → Rch s v → hform (wat s'.W v) = hform (wat s.W v) ∧ htag (wat s'.W v) = htag (wat s.W v) ∧ hn (wat s'.W v) = hn (wat s.W v)
  fld : ∀ c v i, IsC s.count c v → Rch s v → i < szs c → wat s'.W (v + 3 + i) = wat s.W (v + 3 + i)
theorem Evo.refl (s : TH) : Evo s s := ⟨rfl, rfl, fun _ _ _ _ => ⟨rfl, rfl, rfl⟩, fun _ _ _ _ _ _ => rfl⟩
theorem Evo.rch {s s' : TH} (h : Evo s s') (hr : ∀ v, rootP s v → Rch s' v) {v : Nat} (hv : Rch s v) : Rch s' v := by
  induction hv with
  | root h1 => exact hr _ h1
  | @step u v h1 e ih =>
    obtain ⟨⟨c, i, hu, f1, f2, f3, f4⟩, hv⟩ := e
    obtain ⟨a, -, b⟩ := h.shape c u hu h1
    refine .step ih ⟨⟨c, i, by rw [h.count]; exact hu, by rw [a]; exact f1, by rw [b]; exact f2, f3, by rw [h.fld c u i hu h1 f3]; exact f4⟩, ?_⟩
    rw [h.count]; exact hv
theorem rootP_of {s s' : TH} (hc : s'.count = s.count) (hr : s'.roots = s.roots) {v : Nat} (h : rootP s v) : Rch s' v := .root (by rw [rootP_eq hc hr]; exact h)
theorem Evo.trans {a b c : TH} (h : Evo a b) (hr : ∀ v, rootP a v → Rch b v) (k : Evo b c) : Evo a c :=
  ⟨k.count.trans h.count, k.k.trans h.k, fun c v hv hrv => by
    have x := h.shape c v hv hrv
    have y := k.shape c v (by rw [h.count]; exact hv) (h.rch hr hrv)
    exact ⟨y.1.trans x.1, y.2.1.trans x.2.1, y.2.2.trans x.2.2⟩, fun c v i hv hrv hi => (k.fld c v i (by rw [h.count]; exact hv) (h.rch hr hrv) hi).trans (h.fld c v i hv hrv hi)⟩
theorem KeptN.evo {n : Nat} {s s' : TH} (h : KeptN n s s') : Evo s s' := ⟨h.count, h.k, fun c v hv _ => h.same.shape c v hv, fun c v i hv _ hi => h.same.fld c v i hv hi⟩
theorem Took.evo {s s' : TH} {L L' : Nat → Nat → List Nat} {u form tag n fill : Nat} (h : Took s s' L L' u form tag n fill) (hs : St s L) : Evo s s' := by
  have hne : ∀ v, Rch s v → v ≠ u := fun v hv e => (hv.ok hs).ne0 (by rw [e]; exact h.was)
  exact ⟨h.count, h.k, fun c v hv hr => by rw [h.othH c v hv (hne v hr)]; exact ⟨rfl, rfl, rfl⟩, fun c v i hv hr hi => h.othF c v i hv (hne v hr) hi⟩
/-- Setting a field of what is not reached. -/
theorem SetTo.evo {s s' : TH} {L L' : Nat → Nat → List Nat} {u i x : Nat} (h : SetTo s s' L L' u i x) (hu : ¬ Rch s u) : Evo s s' :=
  ⟨h.count, h.k, fun c v hv hr => h.shape c v hv, fun c v j hv hr hj => by rw [h.fld c v j hv hj, if_neg (fun (e : v = u ∧ j = i) => hu (e.1 ▸ hr))]⟩

/-- A cell of n fields. -/
structure IsObj (s : TH) (L : Nat → Nat → List Nat) (u form tag n : Nat) (fs : Nat → Nat) : Prop where
  isC : IsC s.count (tcls n) u
  alive : colOf L u ≠ 0
  le : n ≤ 127
  f : hform (wat s.W u) = form
  t : htag (wat s.W u) = tag
  num : hn (wat s.W u) = n
  fld : ∀ i, i < n → wat s.W (u + 3 + i) = fs i
theorem IsObj.evo {s s' : TH} {L L' : Nat → Nat → List Nat} {u form tag n : Nat} {fs : Nat → Nat} (h : IsObj s L u form tag n fs) (hr : Rch s u) (he : Evo s s') (hs' : St s' L') (hr' : Rch s' u) : IsObj s' L' u form tag n fs := by
  obtain ⟨a, b, c⟩ := he.shape _ u h.isC hr
  exact ⟨by rw [he.count]; exact h.isC, (hr'.ok hs').ne0, h.le, a.trans h.f, b.trans h.t, c.trans h.num, fun i hi => (he.fld _ u i h.isC hr (by have := szs_tcls h.le; omega)).trans (h.fld i hi)⟩
section
variable {s : TH} {L : Nat → Nat → List Nat} {u form tag n : Nat} {fs : Nat → Nat}
theorem IsObj.place (h : IsObj s L u form tag n fs) (hs : St s L) : tplace s (8 * u + 1) = some (u, tcls n) := hs.rep.tplace.2 ⟨rfl, h.isC⟩
theorem IsObj.rdh (h : IsObj s L u form tag n fs) (hs : St s L) : rdh s.W u = some (wat s.W u) := hs.rep.rdh h.isC
theorem IsObj.small (h : IsObj s L u form tag n fs) (hs : St s L) : u ≤ 720051 ∧ 8 * u + 1 < 18446744073709551616 ∧ ∀ i, i < n → u + 3 + i < s.W.length := by
  have h1 := h.isC.lt
  have h2 := stt4_le hs.rep.big
  have h3 := hs.rep.rl.wl
  have h4 := szs_tcls h.le
  exact ⟨by omega, by omega, fun i hi => by omega⟩
theorem Took.obj {s' : TH} {L' : Nat → Nat → List Nat} {fill : Nat} (h : Took s s' L L' u form tag n fill) (hf : form = 1 ∨ form = 2) (ht : tag < 16) (hn' : n ≤ 127) (hnow : s.now ≤ 1) : IsObj s' L' u form tag n (fun _ => fill) :=
  ⟨by rw [h.count]; exact h.isC, h.ok.ne0, hn', by rw [h.hdr]; exact hform_hdr (by omega) ht (by omega) (by omega), by rw [h.hdr]; exact htag_hdr (by omega) ht (by omega) (by omega), by rw [h.hdr]; exact hn_hdr (by omega) ht (by omega) (by omega), h.fld⟩
theorem SetTo.obj {s' : TH} {L' : Nat → Nat → List Nat} {i x : Nat} (h : SetTo s s' L L' u i x) (ho : IsObj s L u form tag n fs) : IsObj s' L' u form tag n (fun j => if j = i then x else fs j) := by
  obtain ⟨a, b, c⟩ := h.shape _ u ho.isC
  refine ⟨by rw [h.count]; exact ho.isC, h.alive u ho.alive, ho.le, a.trans ho.f, b.trans ho.t, c.trans ho.num, fun j hj => ?_⟩
  rw [h.fld _ u j ho.isC (by have := szs_tcls ho.le; omega)]
  by_cases e : j = i
  · rw [if_pos ⟨rfl, e⟩, if_pos e]
  · rw [if_neg (fun e' => e e'.2), if_neg e]; exact ho.fld j hj
theorem IsObj.other {s' : TH} {L' : Nat → Nat → List Nat} {v i x : Nat} (ho : IsObj s L u form tag n fs) (h : SetTo s s' L L' v i x) (hne : u ≠ v) : IsObj s' L' u form tag n fs := by
  obtain ⟨a, b, c⟩ := h.shape _ u ho.isC
  refine ⟨by rw [h.count]; exact ho.isC, h.alive u ho.alive, ho.le, a.trans ho.f, b.trans ho.t, c.trans ho.num, fun j hj => ?_⟩
  rw [h.fld _ u j ho.isC (by have := szs_tcls ho.le; omega), if_neg (fun e => hne e.1)]
  exact ho.fld j hj
theorem IsObj.congr (h : IsObj s L u form tag n fs) {gs : Nat → Nat} (e : ∀ i, i < n → fs i = gs i) : IsObj s L u form tag n gs := ⟨h.isC, h.alive, h.le, h.f, h.t, h.num, fun i hi => (h.fld i hi).trans (e i hi)⟩
end
/-- A word that may be a value: no cell's, or one that a register names. -/
def GoodW (s : TH) (x : Nat) : Prop := x < 18446744073709551616 ∧ (tcell x = false ∨ ∃ v c, x = 8 * v + 1 ∧ IsC s.count c v ∧ x ∈ s.roots)
theorem GoodW.value {s : TH} {L : Nat → Nat → List Nat} {x : Nat} (h : GoodW s x) (hs : St s L) : tvalue s x = true := by
  unfold tvalue
  rcases h.2 with h | ⟨v, c, e, hv, -⟩
  · rw [h]; simp
  · rw [hs.rep.tplace.2 ⟨e, hv⟩]; rfl
theorem tcell_of {s : TH} {L : Nat → Nat → List Nat} (hs : St s L) {v c : Nat} (hv : IsC s.count c v) : tcell (8 * v + 1) = true := by
  have h1 := hv.lt
  have h2 := stt4_le hs.rep.big
  unfold tcell
  simp only [Bool.and_eq_true, beq_iff_eq, decide_eq_true_eq]
  omega
theorem GoodW.ok {s : TH} {L : Nat → Nat → List Nat} {x : Nat} (h : GoodW s x) (hs : St s L) : ∀ c v, IsC s.count c v → x = 8 * v + 1 → IsOK s L v := by
  intro c v hv e
  rcases h.2 with h | ⟨v', c', e', hv', hm⟩
  · rw [e, tcell_of hs hv] at h; cases h
  · have : v = v' := by omega
    subst this
    exact hs.gi.root v ⟨by rw [← e]; exact hm, c, hv⟩
theorem GoodW.eq {s s' : TH} {x : Nat} (h : GoodW s x) (hc : s'.count = s.count) (hr : s'.roots = s.roots) : GoodW s' x := by
  unfold GoodW at h ⊢
  rw [hc, hr]; exact h
theorem goodW_nc {s : TH} {x : Nat} (h : tcell x = false) (hx : x < 18446744073709551616) : GoodW s x := ⟨hx, Or.inl h⟩

end Go.Proofs.Ytbjlapfcnldpoaa

/- A cycle's snapshot: who becomes grey, who black. No program in sight. -/
namespace Go.Proofs.Ytbjlapfcnldpoaa
set_option linter.unusedVariables false
set_option linter.unusedSimpArgs false
open Go.RowKit

/-- A grey one has become black, what it names grey. -/
def ScanTo (s s' : TH) (L L' : Nat → Nat → List Nat) : Prop := ∃ u, colOf L u = 3 ∧ colOf L' u = 1 ∧ (∀ v, v ≠ u → colOf L v ≠ 2 → colOf L' v = colOf L v) ∧ (∀ v, v ≠ u → colOf L v = 2 → colOf L' v = 2 ∨ colOf L' v = 3 ∧ edgeW s.count s.W u v) ∧ ∀ v, IsOK s L v → IsOK s' L' v
theorem shadeF2 {c u : Nat} {d : Nat → Nat → Nat} (hd : ∀ c, d c 2 = 0) : ∀ (m j : Nat) (s : TH) (L : Nat → Nat → List Nat), Rep s L d → IsC s.count c u → j + m ≤ szs c →
    (∀ i, j ≤ i → i < j + m → Safe s.count L (wat s.W (u + 3 + i))) →
    ∃ s' L', shadeFields s u m j = some s' ∧ Shaded s s' L L' d ∧ (∀ i, j ≤ i → i < j + m → ∀ c' v, IsC s.count c' v → wat s.W (u + 3 + i) = 8 * v + 1 → colOf L' v ≠ 2) ∧ ∀ v, colOf L' v = 3 → colOf L v = 3 ∨ ∃ i, j ≤ i ∧ i < j + m ∧ wat s.W (u + 3 + i) = 8 * v + 1 := by
  intro m
  induction m with
  | zero => intro j s L h hu hj hs; exact ⟨s, L, rfl, Shaded.refl h, (fun i h1 h2 => by omega), fun v hv => Or.inl hv⟩
  | succ m ih =>
    intro j s L h hu hj hs
    obtain ⟨t, L1, e1, sh1, c1, g1⟩ := rep_shade h hd (hs j (Nat.le_refl _) (by omega))
    have hcnt : t.count = s.count := sh1.stat.1
    have hfld : ∀ i, i < szs c → wat t.W (u + 3 + i) = wat s.W (u + 3 + i) := fun i hi => sh1.same.fld c u i hu hi
    obtain ⟨s', L', e2, sh2, c2, g2⟩ := ih (j + 1) t L1 sh1.rep (by rw [hcnt]; exact hu) (by omega) (fun i h1 h2 => by
      rw [hfld i (by omega), hcnt]
      have := hs i (by omega) (by omega)
      exact ⟨this.1, fun c' v hv e => by rw [sh1.free]; exact this.2 c' v hv e⟩)
    refine ⟨s', L', ?_, sh1.trans sh2, (fun i h1 h2 c' v hv e => ?_), fun v hv => ?_⟩
    · simp only [shadeFields, Option.bind_eq_bind]
      have hlt := hu.lt
      have hwl := h.rl.wl
      have : rd s.W (u + 3 + j) = some (wat s.W (u + 3 + j)) := by unfold rd; rw [if_pos (by omega)]
      rw [this, Option.bind_some, e1, Option.bind_some]
      exact e2
    · by_cases ei : i = j
      · subst ei
        exact sh2.shd.not2 (c1 c' v hv e)
      · exact c2 i (by omega) (by omega) c' v (by rw [hcnt]; exact hv) (by rw [hfld i (by omega)]; exact e)
    · rcases g2 v hv with e | ⟨i, h1, h2, e⟩
      · rcases g1 v e with e | e
        · exact Or.inl e
        · exact Or.inr ⟨j, Nat.le_refl _, by omega, e⟩
      · exact Or.inr ⟨i, by omega, by omega, by rw [← hfld i (by omega)]; exact e⟩
theorem scanAt2 {s : TH} {L : Nat → Nat → List Nat} (h : St s L) {c : Nat} (hc : c < 4) (hne : lget s c 3 ≠ 0) :
    ∃ s' L', tscanAt s c = some s' ∧ Rep s' L' d0 ∧ GI (colOf L') (edgeW s'.count s'.W) (rootP s') ∧ Same s.count s.W s'.W ∧ s' = { s with lists := s'.lists, W := s'.W, tries := 0 } ∧ (∀ c2, L' c2 0 = L c2 0) ∧ ScanTo s s' L L' := by
  have hR := h.rep
  have hcn := hR.cnt c 3 hc (by omega)
  have hle := hR.lget_le hc (show 3 < 4 by omega)
  simp only [d0, Nat.add_zero] at hcn
  cases hL : L c 3 with
  | nil => rw [hL] at hcn; simp at hcn; omega
  | cons u M =>
    have hu : u ∈ L c 3 := by rw [hL]; simp
    have huc := hR.rl.mem c 3 u hc (by omega) hu
    have hbe := ring_first hR.rl (stt4_le hR.big) hc (by omega) hL
    have hr := rep_less hR hc (by omega) (show d0 c 3 = 0 from rfl) (List.ne_nil_of_mem hu) 0
    have hcol : colOf L u = 3 := col_mem hR.rl hc (by omega) hu
    obtain ⟨hform, hnl⟩ := hR.form c 3 u hc (by omega) (by omega) hu
    unfold tscanAt
    simp only [Option.bind_eq_bind, hbe, hR.rdh huc, Option.bind_some]
    have hreq : req (decide (lget s c 3 < 1000000)) = some () := by unfold req; rw [if_pos (by simp; omega)]
    rw [hreq, Option.bind_some]
    have hd0 : (fun c2 l2 => (d0 c2 l2 + if c2 = c ∧ l2 = 3 then 1 else 0) - if c2 = c ∧ l2 = 3 then 1 else 0) = d0 := by
      funext c2 l2; unfold d0; split <;> rfl
    rcases hform with hf | hf
    · rw [if_neg (by omega), if_pos hf]
      have hsafe : ∀ i, 0 ≤ i → i < 0 + hn (wat s.W u) → Safe s.count L (wat s.W (u + 3 + i)) := by
        intro i _ hi
        refine safe_of hR (h.wf c u i huc (by omega)) (fun c' v hv e => ?_)
        exact h.gi.alive u v (by omega) ⟨⟨c, i, huc, hf, by omega, by omega, e⟩, c', hv⟩
      obtain ⟨s2, L2, e2, sh, hnw, hgr⟩ := shadeF2 (c := c) (u := u) (d := fun c2 l2 => d0 c2 l2 + if c2 = c ∧ l2 = 3 then 1 else 0) (fun c2 => by simp [d0]) (hn (wat s.W u)) 0 _ L hr huc (by omega) hsafe
      have hst := sh.stat
      have hcnt : s2.count = s.count := hst.1
      have hnow2 : s2.now = s.now := hst.2.2.1
      have hcol2 : colOf L2 u = 3 := by rw [(sh.shd.keep u).1 (by omega)]; exact hcol
      obtain ⟨c', hc', hu2⟩ := col_ne0 hcol2 (by omega)
      have hcc : c' = c := by
        have h1 := sh.rep.rl.mem c' 3 u hc' (by omega) hu2
        rw [hcnt] at h1
        exact h1.one huc
      subst hcc
      obtain ⟨t', hmv, hrep, hsame, heq, -, -⟩ := rep_move sh.rep hc' (by omega) (by omega) (by omega) (by omega) (show 3 ≠ 1 by omega) hu2 (by simp) (show s2.now < 4 by have := sh.rep.now; omega) (fun _ => rfl) (fun e => by omega) (fun e => by omega)
      rw [hd0] at hrep
      have hsame1 : Same s.count s.W s2.W := sh.same
      have hsame2 : Same s.count s.W t'.W := by
        rw [hcnt] at hsame
        exact hsame1.trans hsame
      have hcnt' : t'.count = s.count := by rw [heq]; exact hcnt
      have hroots' : t'.roots = s.roots := by rw [heq]; exact hst.2.1
      have hcolE : colOf (mv L2 c' 3 1 u) = updc (colOf L2) u 1 := by
        have hrl' := hrep.rl
        rw [hcnt', ← hcnt] at hrl'
        exact col_mv sh.rep.rl hrl' hc' (by omega) (by omega) (by omega) hu2
      have hblack : ∀ v, edgeW s.count s.W u v → colOf L2 v ≠ 2 := fun v hv => by
        obtain ⟨⟨c2, i, hu3, f1, f2, f3, f4⟩, c3, hv3⟩ := hv
        exact hnw i (Nat.zero_le _) (by omega) c3 v hv3 f4
      refine ⟨t', mv L2 c' 3 1 u, ?_, hrep, ?_, hsame2, ?_, (fun c2 => ?_), u, hcol, by rw [hcolE]; exact updc_at _ _ _, fun v hne h2 => ?_, fun v hne h2 => ?_, fun v hv => ?_⟩
      · show (shadeFields _ u (hn (wat s.W u)) 0).bind _ = _
        have : shadeFields { lset s c' 3 (lget s c' 3 - 1) with tries := 0 } u (hn (wat s.W u)) 0 = some s2 := e2
        rw [this, Option.bind_some]
        exact hmv
      · have hrl' := hrep.rl
        rw [hcnt', ← hcnt] at hrl'
        rw [col_mv sh.rep.rl hrl' hc' (by omega) (by omega) (by omega) hu2]
        have g1 : GI (colOf L2) (edgeW s.count s.W) (rootP s) := sh.shd.gi h.gi
        have g2 := g1.toBlack hcol2 (fun v hv => by
          obtain ⟨⟨c2, i, hu3, f1, f2, f3, f4⟩, c3, hv3⟩ := hv
          exact hnw i (Nat.zero_le _) (by omega) c3 v hv3 f4) (colOf_le L2)
        have g3 : GI (updc (colOf L2) u 1) (edgeW t'.count t'.W) (rootP s) := by
          rw [hcnt']
          exact g2.edge_iff (fun a b => edge_same hsame2 a b)
        have hrp : rootP t' = rootP s := by funext v; unfold rootP; rw [hcnt', hroots']
        rw [hrp]
        exact g3
      · rw [heq, sh.eq]; rfl
      · rw [mv_free (by omega) (by omega)]
        exact sh.free c2
      · rw [hcolE, updc_ne _ _ hne]
        exact (sh.shd.keep v).1 h2
      · rw [hcolE, updc_ne _ _ hne]
        rcases (sh.shd.keep v).2 h2 with e | e
        · exact Or.inl e
        · refine Or.inr ⟨e, ?_⟩
          rcases hgr v e with e3 | ⟨i, -, hi, e3⟩
          · exfalso
            have : colOf L v = 3 := e3
            omega
          · have hi' : i < 0 + hn (wat s.W u) := hi
            obtain ⟨cv, hcv, hmv2⟩ := col_ne0 h2 (by omega)
            exact ⟨⟨c', i, huc, hf, by omega, by omega, e3⟩, cv, hR.rl.mem cv 2 v hcv (by omega) hmv2⟩
      · unfold IsOK
        rw [hcolE, hcnt']
        exact ok_edges (fun a b hab _ => (edge_same hsame2 a b).2 hab) (ok_black hcol2 hblack (sh.shd.ok hv))
    · rw [if_neg (by omega), if_neg (by omega), if_pos hf]
      obtain ⟨t', hmv, hrep, hsame, heq, -, -⟩ := rep_move hr hc (by omega) (by omega) (by omega) (by omega) (show 3 ≠ 1 by omega) hu (by simp) (show s.now < 4 by have := hR.now; omega) (fun _ => rfl) (fun e => by omega) (fun e => by omega)
      rw [hd0] at hrep
      have hcnt' : t'.count = s.count := by rw [heq]; rfl
      have hroots' : t'.roots = s.roots := by rw [heq]; rfl
      have hcolE : colOf (mv L c 3 1 u) = updc (colOf L) u 1 := by
        have hrl' := hrep.rl
        rw [hcnt'] at hrl'
        exact col_mv hR.rl hrl' hc (by omega) (by omega) (by omega) hu
      refine ⟨t', mv L c 3 1 u, hmv, hrep, ?_, hsame, ?_, (fun c2 => mv_free (by omega) (by omega) c2), u, hcol, by rw [hcolE]; exact updc_at _ _ _, (fun v hne h2 => by rw [hcolE, updc_ne _ _ hne]), (fun v hne h2 => by rw [hcolE, updc_ne _ _ hne]; exact Or.inl h2), fun v hv => ?_⟩
      · have hrl' := hrep.rl
        rw [hcnt'] at hrl'
        rw [col_mv hR.rl hrl' hc (by omega) (by omega) (by omega) hu]
        have g2 := h.gi.toBlack hcol (fun v hv => by
          obtain ⟨⟨c2, i, hu3, f1, f2, f3, f4⟩, c3, hv3⟩ := hv
          omega) (colOf_le L)
        have g3 : GI (updc (colOf L) u 1) (edgeW t'.count t'.W) (rootP s) := by
          rw [hcnt']
          exact g2.edge_iff (fun a b => edge_same hsame a b)
        have hrp : rootP t' = rootP s := by funext v; unfold rootP; rw [hcnt', hroots']
        rw [hrp]
        exact g3
      · rw [heq]; rfl
      · unfold IsOK
        rw [hcolE, hcnt']
        have hbl : ∀ v, edgeW s.count s.W u v → colOf L v ≠ 2 := fun v hv => by
          obtain ⟨⟨c2, i, hu3, f1, f2, f3, f4⟩, c3, hv3⟩ := hv
          omega
        have hsm : Same s.count s.W t'.W := hsame
        exact ok_edges (edge := edgeW s.count s.W) (fun a b hab _ => (edge_same hsm a b).2 hab) (ok_black hcol hbl hv)
theorem flip2 {s : TH} {L : Nat → Nat → List Nat} (h : St s L) (hm : s.marking = false) :
    ∃ s' L', tflip s = some s' ∧ St s' L' ∧ Kept s s' ∧ s'.marking = true ∧ s'.cycles = s.cycles ∧ (∀ c, L' c 0 = L c 0) ∧ Shd (flipc (colOf L)) (colOf L') ∧ (∀ v, colOf L' v = 3 → rootP s v) := by
  have hR := h.rep
  have hidle := h.idle hm
  have hcnt0 : ∀ c l, c < 4 → l < 4 → lget s c l = (L c l).length := fun c l hc hl => by have := hR.cnt c l hc hl; simpa [d0] using this
  obtain ⟨t4, e1, e2, h3, h4, h5, h6⟩ := flipN_ok (t := { s with now := 1 - s.now }) (L := L) ⟨hR.ls.a, hR.ls.b, hR.ls.c, hR.ls.d⟩ hR.rl hcnt0 (fun c hc => (hidle c hc).1) 4 (Nat.le_refl _)
  have hcol := col_flip hR.rl h4 (fun c hc => (hidle c hc).1)
  have hle : ∀ c l, c < 4 → flipL L 4 c l = if l = 2 then L c 1 else if l = 1 then [] else L c l := fun c l hc => by unfold flipL; rw [if_pos hc]
  -- the state behind the joins
  have ht4c : t4.count = s.count := by rw [e2]
  have hrep : Rep { t4 with marking := true, tries := 0 } (flipL L 4) d0 := by
    refine ⟨⟨h3.a, h3.b, h3.c, h3.d⟩, ?_, ?_, ?_, ?_, ?_, ?_, ?_, ?_, ?_, ?_⟩
    · show t4.start = starts t4.count
      rw [e2]; exact hR.st
    · show ∀ c, t4.count.getD c 0 ≤ 4000
      rw [ht4c]; exact hR.big
    · intro c l hc hl
      have := h5 c l hc hl
      simp only [d0, Nat.add_zero]
      exact this
    · show t4.wait = 0
      rw [e2]; exact hR.wait
    · show t4.now ≤ 1
      rw [e2]; show 1 - s.now ≤ 1; omega
    · show RL t4.count t4.W (flipL L 4)
      rw [ht4c]; exact h4
    · show ∀ c u, IsC t4.count c u → _
      rw [ht4c]
      intro c u hu
      obtain ⟨l, hl, hul⟩ := hR.cov c u hu
      by_cases el : l = 1
      · subst el
        exact ⟨2, by omega, by rw [hle c 2 hu.1, if_pos rfl]; exact hul⟩
      · have el2 : l ≠ 2 := fun e => by subst e; rw [(hidle c hu.1).1] at hul; cases hul
        exact ⟨l, hl, by rw [hle c l hu.1, if_neg el2, if_neg el]; exact hul⟩
    · show ∀ c, c < 4 → _ = t4.count.getD c 0
      rw [ht4c]
      intro c hc
      have := hR.tot c hc
      rw [hle c 0 hc, hle c 1 hc, hle c 2 hc, hle c 3 hc]
      rw [(hidle c hc).1] at this
      simpa using this
    · intro c l u hc hl hu
      show (_ → hmark (wat t4.W u) = t4.now) ∧ (_ → hmark (wat t4.W u) = 1 - t4.now) ∧ (_ → hmark (wat t4.W u) = 2)
      have hnow : t4.now = 1 - s.now := by rw [e2]
      have hn1 := hR.now
      rw [hle c l hc] at hu
      refine ⟨fun e => ?_, fun e => ?_, fun e => ?_⟩
      · subst e
        rw [if_neg (by omega), if_pos rfl] at hu; cases hu
      · subst e
        rw [if_pos rfl] at hu
        have huc := hR.rl.mem c 1 u hc (by omega) hu
        rw [h6.1 c u huc, hnow]
        have := (hR.mark c 1 u hc (by omega) hu).1 rfl
        rw [show ({ s with now := 1 - s.now } : TH).W = s.W from rfl, this]
        omega
      · subst e
        rw [if_neg (by omega), if_neg (by omega), (hidle c hc).2] at hu; cases hu
    · intro c l u hc h1 hl hu
      show (hform (wat t4.W u) = 1 ∨ hform (wat t4.W u) = 2) ∧ hn (wat t4.W u) ≤ szs c
      rw [hle c l hc] at hu
      split at hu
      · have huc := hR.rl.mem c 1 u hc (by omega) hu
        rw [h6.1 c u huc]
        exact hR.form c 1 u hc (by omega) (by omega) hu
      · split at hu
        · cases hu
        · have huc := hR.rl.mem c l u hc hl hu
          rw [h6.1 c u huc]
          exact hR.form c l u hc h1 hl hu
  have hW6 : Same s.count s.W t4.W := h6.same
  have hroots4 : t4.roots = s.roots := by rw [e2]
  have hcol0 : ∀ v, colOf (flipL L 4) v = 0 ↔ colOf L v = 0 := by
    intro v
    rw [hcol]
    unfold flipc
    split
    · rename_i e; rw [e]; simp
    · rfl
  have hsafe : ∀ x ∈ t4.roots, Safe ({ t4 with marking := true, tries := 0 } : TH).count (flipL L 4) x := by
    intro x hx
    rw [hroots4] at hx
    refine safe_of hrep (h.wr x hx) (fun c v hv e => ?_)
    have hv' : IsC s.count c v := by rw [← ht4c]; exact hv
    intro e0
    exact (h.gi.root v ⟨by rw [← e]; exact hx, c, hv'⟩).ne0 ((hcol0 v).1 e0)
  obtain ⟨s', L', e7, sh, hnw, hng⟩ := shadeAll_ok (d := d0) (fun _ => rfl) t4.roots _ _ hrep hsafe
  have hst := sh.stat
  have hcnt' : s'.count = s.count := hst.1.trans ht4c
  have hroots' : s'.roots = s.roots := hst.2.1.trans hroots4
  have hsame' : Same s.count s.W s'.W := by
    refine hW6.trans ?_
    have := sh.same
    rw [show ({ t4 with marking := true, tries := 0 } : TH).count = s.count from ht4c] at this
    exact this
  have hmk' : s'.marking = true := hst.2.2.2.1
  have hcyc' : s'.cycles = s.cycles := by rw [hst.2.2.2.2.2]; show t4.cycles = s.cycles; rw [e2]
  refine ⟨s', L', ?_, ⟨sh.rep, ?_, (fun e => by rw [hmk'] at e; cases e), wf_same h hcnt' hsame', by rw [hroots']; exact h.wr⟩, ⟨hcnt', hroots', ?_, by rw [hcyc']; omega, hsame', fun c hc => ?_⟩, hmk', hcyc', fun c => ?_, ?_, ?_⟩
  · rw [tflip_def, e1, Option.bind_some]
    exact e7
  · rw [rootP_eq hcnt' hroots', hcnt']
    refine GI.edge_iff (edge := edgeW s.count s.W) ?_ (fun a b => edge_same hsame' a b)
    refine GI.of_grey (fun u v hu he e0 => ?_) (fun u e => ?_) (fun v hv => ?_)
    · have hu' : colOf L u ≠ 0 := fun e => hu ((sh.shd.zero u).2 ((hcol0 u).2 e))
      exact h.gi.alive u v hu' he ((hcol0 v).1 ((sh.shd.zero v).1 e0))
    · have k := sh.shd.keep u
      have h1 : colOf (flipL L 4) u ≠ 1 := by
        rw [hcol]; unfold flipc; split
        · omega
        · assumption
      by_cases e2' : colOf (flipL L 4) u = 2
      · have := k.2 e2'; omega
      · rw [k.1 e2'] at e; exact h1 e
    · obtain ⟨hv1, c, hv2⟩ := hv
      have hn2 := hnw (8 * v + 1) (by rw [hroots4]; exact hv1) c v (by rw [show ({ t4 with marking := true, tries := 0 } : TH).count = s.count from ht4c]; exact hv2) rfl
      have hne0 := (h.gi.root v ⟨hv1, c, hv2⟩).ne0
      have hz : colOf L' v ≠ 0 := fun e => hne0 ((hcol0 v).1 ((sh.shd.zero v).1 e))
      have hle3 := colOf_le L' v
      have hn1 : colOf L' v ≠ 1 := by
        intro e
        have k := sh.shd.keep v
        have h1 : colOf (flipL L 4) v ≠ 1 := by
          rw [hcol]; unfold flipc; split
          · omega
          · assumption
        by_cases e2' : colOf (flipL L 4) v = 2
        · have := k.2 e2'; omega
        · rw [k.1 e2'] at e; exact h1 e
      omega
  · rw [hst.2.2.2.2.1]; show t4.k = s.k; rw [e2]
  · have h1 := sh.rep.cnt c 0 hc (by omega)
    have h2 := hcnt0 c 0 hc (by omega)
    simp only [d0, Nat.add_zero] at h1
    rw [h1, h2, sh.free c, hle c 0 hc, if_neg (by omega), if_neg (by omega)]
    exact Nat.le_refl _
  · rw [sh.free c]
    unfold flipL
    split
    · rfl
    · rfl
  · rw [← hcol]; exact sh.shd
  · intro v e3
    rcases hng v e3 with e | ⟨x, hx, e⟩
    · rw [hcol] at e
      unfold flipc at e
      split at e
      · omega
      · obtain ⟨c, hc, hv⟩ := col_ne0 e (by omega)
        rw [(hidle c hc).2] at hv
        cases hv
    · rw [hroots4] at hx
      obtain ⟨c, hc, hv⟩ := col_ne0 e3 (by omega)
      have hvc := sh.rep.rl.mem c 3 v hc (by omega) hv
      rw [hcnt'] at hvc
      exact ⟨by rw [← e]; exact hx, c, hvc⟩

/-- A cycle's snapshot S: what was reached at its flip, and what was made since. -/
structure SI (s : TH) (L : Nat → Nat → List Nat) (S : Nat → Prop) : Prop where
  root : ∀ v, rootP s v → S v
  edge : ∀ u v, S u → edgeW s.count s.W u v → S v
  ok : ∀ v, S v → IsOK s L v
  mark : ∀ v, colOf L v = 1 ∨ colOf L v = 3 → S v
theorem SI.rch {s : TH} {L : Nat → Nat → List Nat} {S : Nat → Prop} (h : SI s L S) {v : Nat} (hv : Rch s v) : S v := by
  induction hv with
  | root h1 => exact h.root _ h1
  | step _ e ih => exact h.edge _ _ ih e

/-- What a step does. -/
inductive Stp (s s' : TH) (L L' : Nat → Nat → List Nat) (S : Nat → Prop) : Prop where
  | flip (h1 : s.marking = false) (h2 : s'.marking = true) (h3 : s'.cycles = s.cycles) (h4 : SI s' L' (Rch s)) (h5 : ∀ v, colOf L' v = 0 ↔ colOf L v = 0) (h6 : ∀ v, colOf L' v ≠ 1)
  | scan (h1 : s.marking = true) (h2 : s'.marking = true) (h3 : s'.cycles = s.cycles) (h4 : SI s' L' S) (h5 : ∀ v, colOf L' v = 0 ↔ colOf L v = 0) (h6 : ∃ u, colOf L u = 3 ∧ colOf L' u = 1) (h7 : ∀ v, colOf L v = 1 → colOf L' v = 1)
  | done (h1 : s.marking = true) (h2 : s'.marking = false) (h3 : s'.cycles = s.cycles + 1) (h4 : SI s' L' S) (h5 : ∀ v, colOf L' v = 1 ↔ S v) (h6 : ∀ v, colOf L' v = 0 ∨ colOf L' v = 1) (h7 : ∀ v, colOf L v = 1 ↔ S v) (h8 : ∀ v, colOf L v ≠ 3)

theorem rch_same {s s' : TH} (hc : s'.count = s.count) (hr : s'.roots = s.roots) (hs : Same s.count s.W s'.W) {v : Nat} : Rch s' v ↔ Rch s v := by
  constructor
  · intro h
    induction h with
    | root h1 => exact .root (by rw [← rootP_eq hc hr]; exact h1)
    | step _ e ih => exact .step ih ((edge_same hs _ _).1 (by rw [← hc]; exact e))
  · intro h
    induction h with
    | root h1 => exact .root (by rw [rootP_eq hc hr]; exact h1)
    | step _ e ih => exact .step ih (by rw [hc]; exact (edge_same hs _ _).2 e)

theorem step_si {s : TH} {L : Nat → Nat → List Nat} {S : Nat → Prop} (h : St s L) (hS : SI s L S) (hcy : s.cycles < 1000000) : ∃ s' L', tstep s = some s' ∧ St s' L' ∧ Kept s s' ∧ Stp s s' L L' S := by
  unfold tstep
  by_cases hm : s.marking = true
  · rw [if_pos hm]
    have hR := h.rep
    have hcnt0 : ∀ c l, c < 4 → l < 4 → lget s c l = (L c l).length := fun c l hc hl => by have := hR.cnt c l hc hl; simpa [d0] using this
    have hscan : ∀ c, c < 4 → lget s c 3 ≠ 0 → ∃ s' L', tscanAt s c = some s' ∧ St s' L' ∧ Kept s s' ∧ Stp s s' L L' S := by
      intro c hc hne
      obtain ⟨s', L', e1, hrep, hgi, hsame, heq, hfree, u, hu3, hu1, hk, hk2, hok⟩ := scanAt2 h hc hne
      have hc' : s'.count = s.count := by rw [heq]
      have hr' : s'.roots = s.roots := by rw [heq]
      have hmk : s'.marking = true := by rw [show s'.marking = s.marking from by rw [heq]]; exact hm
      refine ⟨s', L', e1, ⟨hrep, hgi, fun e => ?_, wf_same h hc' hsame, by rw [hr']; exact h.wr⟩, ⟨hc', hr', by rw [heq], by rw [heq]; exact Nat.le_succ _, hsame, fun c2 hc2 => ?_⟩, ?_⟩
      · rw [hmk] at e; cases e
      · have h1 := hrep.cnt c2 0 hc2 (by omega)
        simp only [d0, Nat.add_zero] at h1
        rw [h1, hcnt0 c2 0 hc2 (by omega), hfree c2]
        exact Nat.le_refl _
      · have hSu : S u := hS.mark u (Or.inr hu3)
        refine .scan hm hmk (by rw [heq]) ⟨fun v hv => hS.root v (by rw [← rootP_eq hc' hr']; exact hv), fun a b ha hab => hS.edge a b ha ((edge_same hsame a b).1 (by rw [← hc']; exact hab)), fun v hv => hok v (hS.ok v hv), fun v hv => ?_⟩ (fun v => ?_) ⟨u, hu3, hu1⟩ (fun v hv => ?_)
        · by_cases e : v = u
          · rw [e]; exact hSu
          · by_cases e2 : colOf L v = 2
            · rcases hk2 v e e2 with e3 | ⟨e3, e4⟩
              · omega
              · exact hS.edge u v hSu e4
            · rw [hk v e e2] at hv; exact hS.mark v hv
        · by_cases e : v = u
          · subst e; omega
          · by_cases e2 : colOf L v = 2
            · rcases hk2 v e e2 with e3 | ⟨e3, -⟩ <;> omega
            · rw [hk v e e2]
        · by_cases e : v = u
          · rw [e]; exact hu1
          · rw [hk v e (by omega)]; exact hv
    show ∃ s' L', ((tscan s).bind _) = some s' ∧ St s' L' ∧ Kept s s' ∧ Stp s s' L L' S
    unfold tscan
    by_cases z0 : lget s 0 3 ≠ 0
    · obtain ⟨s', L', e1, h1, h2⟩ := hscan 0 (by omega) z0
      exact ⟨s', L', by rw [if_pos z0, e1]; rfl, h1, h2⟩
    rw [if_neg z0]
    by_cases z1 : lget s 1 3 ≠ 0
    · obtain ⟨s', L', e1, h1, h2⟩ := hscan 1 (by omega) z1
      exact ⟨s', L', by rw [if_pos z1, e1]; rfl, h1, h2⟩
    rw [if_neg z1]
    by_cases z2 : lget s 2 3 ≠ 0
    · obtain ⟨s', L', e1, h1, h2⟩ := hscan 2 (by omega) z2
      exact ⟨s', L', by rw [if_pos z2, e1]; rfl, h1, h2⟩
    rw [if_neg z2]
    by_cases z3 : lget s 3 3 ≠ 0
    · obtain ⟨s', L', e1, h1, h2⟩ := hscan 3 (by omega) z3
      exact ⟨s', L', by rw [if_pos z3, e1]; rfl, h1, h2⟩
    rw [if_neg z3]
    have hg : ∀ c, c < 4 → L c 3 = [] := by
      intro c hc
      have hz : lget s c 3 = 0 := by
        have : c = 0 ∨ c = 1 ∨ c = 2 ∨ c = 3 := by omega
        rcases this with rfl | rfl | rfl | rfl <;> omega
      rw [hcnt0 c 3 hc (by omega)] at hz
      exact List.length_eq_zero_iff.1 hz
    have hno3 : ∀ v, colOf L v ≠ 3 := by
      intro v e
      obtain ⟨c, hc, hm3⟩ := col_ne0 e (by omega)
      rw [hg c hc] at hm3; cases hm3
    obtain ⟨s', e1, h1, h2, h3, hcolE⟩ := end_ok h hg hcy
    have hc' := h2.count
    have hr' := h2.roots
    have hSb : ∀ v, colOf L v = 1 ↔ S v := by
      intro v
      refine ⟨fun e => hS.mark v (Or.inl e), fun e => ?_⟩
      rcases hS.ok v e with e1 | e1 | ⟨-, e1⟩
      · exact e1
      · exact absurd e1 (hno3 v)
      · exfalso
        have : ∀ {w}, GR (colOf L) (edgeW s.count s.W) w → False := by
          intro w hw
          induction hw with
          | grey g1 _ _ => exact hno3 _ g1
          | white _ _ _ ih => exact ih
        exact this e1
    have hcol1 : ∀ v, colOf (endL L 4) v = 1 ↔ S v := by
      intro v
      rw [hcolE, ← hSb v]
      unfold endc
      split <;> omega
    refine ⟨s', _, ?_, h1, h2, .done hm h3 ?_ ⟨fun v hv => hS.root v (by rw [← rootP_eq hc' hr']; exact hv), fun a b ha hab => hS.edge a b ha ((edge_same h2.same a b).1 (by rw [← hc']; exact hab)), fun v hv => Or.inl ((hcol1 v).2 hv), fun v hv => ?_⟩ hcol1 (fun v => ?_) hSb hno3⟩
    · show ((tlook s).bind _) = some s'
      have : tlook s = some none := by unfold tlook; rw [if_pos hR.wait]
      rw [this]
      exact e1
    · unfold tend at e1
      simp only [Option.bind_eq_bind, Option.bind_eq_some_iff] at e1
      obtain ⟨a0, f0, a1, f1, a2, f2, a3, f3, -, -, e1⟩ := e1
      have hcyc : ∀ {x y : TH} {c : Nat}, tend1 x c = some y → y.cycles = x.cycles := by
        intro x y c hxy
        unfold tend1 at hxy
        simp only [Option.bind_eq_bind, Option.bind_eq_some_iff] at hxy
        obtain ⟨W, -, -, -, hxy⟩ := hxy
        injection hxy with hxy
        rw [← hxy]; rfl
      injection e1 with e1
      rw [← e1]
      show a3.cycles + 1 = s.cycles + 1
      rw [hcyc f3, hcyc f2, hcyc f1, hcyc f0]
    · rcases hv with e | e
      · exact (hcol1 v).1 e
      · exfalso
        rw [hcolE] at e
        unfold endc at e
        split at e
        · omega
        · exact hno3 v e
    · rw [hcolE]
      have := hno3 v
      have := colOf_le L v
      unfold endc
      split <;> omega
  · rw [if_neg hm]
    have hmf : s.marking = false := by simpa using hm
    obtain ⟨s', L', e1, h1, h2, h3, h4, h5, h6, h7⟩ := flip2 h hmf
    have hfl1 : ∀ v, flipc (colOf L) v ≠ 1 := by
      intro v; unfold flipc; split
      · omega
      · assumption
    have hfl0 : ∀ v, flipc (colOf L) v = 0 ↔ colOf L v = 0 := by
      intro v; unfold flipc; split <;> omega
    have hn1 : ∀ v, colOf L' v ≠ 1 := by
      intro v e
      have k := h6.keep v
      by_cases e2 : flipc (colOf L) v = 2
      · have := k.2 e2; omega
      · rw [k.1 e2] at e; exact hfl1 v e
    refine ⟨s', L', e1, h1, h2, .flip hmf h3 h4 ⟨fun v hv => .root (by rw [← rootP_eq h2.count h2.roots]; exact hv), fun a b ha hab => .step ha ((edge_same h2.same a b).1 (by rw [← h2.count]; exact hab)), fun v hv => ((rch_same h2.count h2.roots h2.same).2 hv).ok h1, fun v hv => ?_⟩ (fun v => ?_) hn1⟩
    · rcases hv with e | e
      · exact absurd e (hn1 v)
      · exact .root (h7 v e)
    · rw [← hfl0 v]; exact h6.zero v

end Go.Proofs.Ytbjlapfcnldpoaa

/- A program's doings and the snapshot. No program in sight. -/
namespace Go.Proofs.Ytbjlapfcnldpoaa
set_option linter.unusedVariables false
set_option linter.unusedSimpArgs false
open Go.RowKit

theorem set_ok2 {s : TH} {L : Nat → Nat → List Nat} (h : St s L) {c u i x : Nat} (hu : IsC s.count c u) (ha : colOf L u ≠ 0) (hi : i < hn (wat s.W u)) (hx : x < 18446744073709551616)
    (hok : hform (wat s.W u) = 1 → ∀ c' v, IsC s.count c' v → x = 8 * v + 1 → IsOK s L v) :
    ∃ s' L', tset s u i x = some s' ∧ SetTo s s' L L' u i x ∧ (∀ v, colOf L' v = 1 ↔ colOf L v = 1) ∧ (∀ v, colOf L' v = 0 ↔ colOf L v = 0) ∧ ∀ v, colOf L' v = 3 → colOf L v = 3 ∨ hform (wat s.W u) = 1 ∧ wat s.W (u + 3 + i) = 8 * v + 1 := by
  have hR := h.rep
  obtain ⟨c', hc', hul⟩ := col_ne0 (k := colOf L u) rfl ha
  have hle := colOf_le L u
  have ec := (hR.rl.mem c' _ u hc' (by omega) hul).one hu
  subst ec
  have hfm := hR.form c' _ u hc' (by omega) (by omega) hul
  have hisz : i < szs c' := by omega
  have hw : u + 3 + i < s.W.length := by rw [hR.rl.wl]; have := hu.lt; omega
  unfold tset
  rw [hR.rdh hu, Option.bind_some]
  have e1 : rd s.W (u + 3 + i) = some (wat s.W (u + 3 + i)) := by unfold rd; rw [if_pos hw]
  rw [e1, Option.bind_some]
  by_cases hm : hform (wat s.W u) = 1 ∧ s.marking = true
  · rw [if_pos hm]
    have hsafe : Safe s.count L (wat s.W (u + 3 + i)) := safe_of hR (h.wf c' u i hu hisz) (fun c2 v hv e => h.gi.alive u v ha ⟨⟨c', i, hu, hm.1, hi, hisz, e⟩, c2, hv⟩)
    obtain ⟨s1, L1, e2, sh, hnw, hgr⟩ := rep_shade hR (fun _ => rfl) hsafe
    rw [e2, Option.bind_some]
    have hst := sh.stat
    have h1 := shaded_st h sh hm.2
    have hoks : ∀ v, IsOK s L v → IsOK s1 L1 v := by
      intro v hv
      unfold IsOK
      rw [hst.1]
      refine ok_edges (fun a b hab _ => (edge_same sh.same a b).2 hab) (sh.shd.ok hv)
    obtain ⟨s2, e3, k⟩ := store_ok h1 (c := c') (u := u) (i := i) (x := x) (by rw [hst.1]; exact hu) hisz hx
      (fun _ c2 v hv e => by
        rw [hst.1] at hv
        rw [sh.same.fld c' u i hu hisz] at e
        exact hnw c2 v hv e)
      (fun hf c2 v hv e => by
        rw [hst.1] at hv
        exact hoks v (hok hm.1 c2 v hv e))
    refine ⟨s2, L1, e3, ⟨k.st, fun c2 v hv => ?_, fun c2 v j hv hj => ?_, k.count.trans hst.1, k.roots.trans hst.2.1, k.k.trans hst.2.2.2.2.1, k.cyc.trans hst.2.2.2.2.2, k.marking.trans hst.2.2.2.1, fun c2 hc2 => ?_, fun v hv => k.oks v (hoks v hv), fun v hv => ?_, fun v hv => hgr v hv⟩, fun v => ?_, fun v => sh.shd.zero v, fun v hv => (hgr v hv).imp id (fun e => ⟨hm.1, e⟩)⟩
    · have a := k.shape c2 v (by rw [hst.1]; exact hv)
      have b := sh.same.shape c2 v hv
      exact ⟨a.1.trans b.1, a.2.1.trans b.2.1, a.2.2.trans b.2.2⟩
    · rw [k.fld c2 v j (by rw [hst.1]; exact hv) hj, sh.same.fld c2 v j hv hj]
    · refine Nat.le_trans ?_ (k.free c2 hc2)
      have a := hR.cnt c2 0 hc2 (by omega)
      have b := sh.rep.cnt c2 0 hc2 (by omega)
      rw [sh.free] at b
      simp only [d0, Nat.add_zero] at a b
      omega
    · exact k.alive v (fun e => hv ((sh.shd.zero v).1 e))
    · have q := sh.shd.keep v
      by_cases e2' : colOf L v = 2
      · have := q.2 e2'; omega
      · rw [q.1 e2']
  · rw [if_neg hm, Option.bind_some]
    obtain ⟨s2, e3, k⟩ := store_ok h (c := c') (u := u) (i := i) (x := x) hu hisz hx
      (fun hf c2 v hv e e2 => by
        have hmf : s.marking = false := by
          cases hb : s.marking with
          | false => rfl
          | true => exact absurd ⟨hf, hb⟩ hm
        obtain ⟨c3, hc3, hv3⟩ := col_ne0 e2 (by omega)
        rw [(h.idle hmf c3 hc3).1] at hv3
        cases hv3)
      hok
    exact ⟨s2, L, e3, k, fun _ => Iff.rfl, fun _ => Iff.rfl, fun v hv => Or.inl hv⟩

theorem set_si {s s' : TH} {L L' : Nat → Nat → List Nat} {S : Nat → Prop} {u i x : Nat} (hS : SI s L S) (k : SetTo s s' L L' u i x) (h1 : ∀ v, colOf L' v = 1 ↔ colOf L v = 1) (h3 : ∀ v, colOf L' v = 3 → colOf L v = 3 ∨ hform (wat s.W u) = 1 ∧ wat s.W (u + 3 + i) = 8 * v + 1)
    {c : Nat} (hu : IsC s.count c u) (hi : i < hn (wat s.W u)) (hi2 : i < szs c) (hrep : ∀ v, colOf L' v = 3 → ∃ c, IsC s.count c v) (hSu : S u) (hx : hform (wat s.W u) = 1 → ∀ c v, IsC s.count c v → x = 8 * v + 1 → S v) : SI s' L' S := by
  refine ⟨fun v hv => hS.root v (by rw [← rootP_eq k.count k.roots]; exact hv), fun a b ha hab => ?_, fun v hv => k.oks v (hS.ok v hv), fun v hv => ?_⟩
  · rw [k.count] at hab
    obtain ⟨⟨c2, j, hac, f1, f2, f3, f4⟩, cb, hb⟩ := hab
    obtain ⟨q1, -, q3⟩ := k.shape c2 a hac
    rw [q1] at f1
    rw [q3] at f2
    rw [k.fld c2 a j hac f3] at f4
    split at f4
    · rename_i e
      obtain ⟨rfl, rfl⟩ := e
      exact hx f1 cb b hb f4
    · exact hS.edge a b ha ⟨⟨c2, j, hac, f1, f2, f3, f4⟩, cb, hb⟩
  · rcases hv with e | e
    · exact hS.mark v (Or.inl ((h1 v).1 e))
    · rcases h3 v e with e2 | ⟨e2, e3⟩
      · exact hS.mark v (Or.inr e2)
      · exact hS.edge u v hSu ⟨⟨c, i, hu, e2, hi, hi2, e3⟩, hrep v e⟩

theorem setRoot_si {s : TH} {L : Nat → Nat → List Nat} {S : Nat → Prop} {i x : Nat} (hS : SI s L S) (hx : ∀ c v, IsC s.count c v → x = 8 * v + 1 → S v) : SI (setRoot s i x) L S :=
  ⟨fun v hv => by
    obtain ⟨hm, c, hc⟩ := hv
    rcases List.mem_or_eq_of_mem_set (show 8 * v + 1 ∈ s.roots.set i x from hm) with e | e
    · exact hS.root v ⟨e, c, hc⟩
    · exact hx c v hc e.symm, hS.edge, hS.ok, hS.mark⟩

theorem take_si {s s' : TH} {L L' : Nat → Nat → List Nat} {S : Nat → Prop} {u form tag n fill : Nat} (hs : St s L) (hS : SI s L S) (k : Took s s' L L' u form tag n fill) (hfill : fill = 0 ∨ fill = 12) (hf : form = 1 ∨ form = 2) (htag : tag < 16) (hn' : n ≤ 127) : SI s' L' (fun v => S v ∨ v = u) := by
  have hne : ∀ v, S v → v ≠ u := fun v hv e => (hS.ok v hv).ne0 (by rw [e]; exact k.was)
  refine ⟨fun v hv => Or.inl (hS.root v (by rw [← rootP_eq k.count k.roots]; exact hv)), fun a b ha hab => ?_, fun v hv => ?_, fun v hv => ?_⟩
  · rw [k.count] at hab
    obtain ⟨⟨c2, j, hac, f1, f2, f3, f4⟩, cb, hb⟩ := hab
    rcases ha with ha | ha
    · have hn0 := hne a ha
      rw [k.othH c2 a hac hn0] at f1 f2
      rw [k.othF c2 a j hac hn0 f3] at f4
      exact Or.inl (hS.edge a b ha ⟨⟨c2, j, hac, f1, f2, f3, f4⟩, cb, hb⟩)
    · subst ha
      have hnow := hs.rep.now
      rw [k.hdr, hn_hdr (by omega) htag (by omega) (by omega)] at f2
      rw [k.fld j f2] at f4
      omega
  · rcases hv with hv | hv
    · exact k.oks v (hS.ok v hv)
    · rw [hv]; exact k.ok
  · rw [k.col] at hv
    by_cases e : v = u
    · exact Or.inr e
    · rw [updc_ne _ _ e] at hv
      exact Or.inl (hS.mark v hv)

end Go.Proofs.Ytbjlapfcnldpoaa

/- How many cells are had: a cycle's account. No program in sight. -/
namespace Go.Proofs.Ytbjlapfcnldpoaa
set_option linter.unusedVariables false
set_option linter.unusedSimpArgs false
open Go.RowKit

theorem nodup_le : ∀ (l m : List Nat), l.Nodup → (∀ v ∈ l, v ∈ m) → l.length ≤ m.length
  | [], m, _, _ => Nat.zero_le _
  | a :: l, m, hn, hs => by
    obtain ⟨h1, h2⟩ := List.nodup_cons.1 hn
    have ha := hs a List.mem_cons_self
    have ih := nodup_le l (m.erase a) h2 (fun v hv => (List.mem_erase_of_ne (fun e => h1 (by rw [← e]; exact hv))).2 (hs v (List.mem_cons_of_mem _ hv)))
    rw [List.length_erase_of_mem ha] at ih
    have := List.length_pos_of_mem ha
    simp only [List.length_cons]
    omega

/-- A cycle's account: Sl: its snapshot; Bl: black ones; A0: how many were had at its flip; R: reached then; mu: made since; tau: steps since. -/
structure Acc (s : TH) (L : Nat → Nat → List Nat) (most k M : Nat) (Sl Bl : List Nat) (A0 R mu tau : Nat) : Prop where
  si : SI s L (fun v => v ∈ Sl)
  sl : Sl.length ≤ R + mu
  rm : R ≤ most
  bn : Bl.Nodup
  bc : ∀ v ∈ Bl, colOf L v = 1
  bl : s.marking = true → tau + mu = Bl.length + 1
  idle : s.marking = false → tau ≤ most + 2
  al : s.marking = true → A0 ≤ most + M
  alive : ∀ X : List Nat, X.Nodup → (∀ v ∈ X, colOf L v ≠ 0) → X.length ≤ (if s.marking = true then A0 else R) + mu
  j : mu * k ≤ tau + k
theorem Acc.tau_le {s : TH} {L : Nat → Nat → List Nat} {most k M : Nat} {Sl Bl : List Nat} {A0 R mu tau : Nat} (h : Acc s L most k M Sl Bl A0 R mu tau) : tau ≤ most + 2 := by
  cases hm : s.marking with
  | false => exact h.idle hm
  | true =>
    have h1 := h.bl hm
    have h2 := nodup_le Bl Sl h.bn (fun v hv => h.si.mark v (Or.inl (h.bc v hv)))
    have h3 := h.sl
    have h4 := h.rm
    omega
theorem Acc.mu_le {s : TH} {L : Nat → Nat → List Nat} {most k M : Nat} {Sl Bl : List Nat} {A0 R mu tau : Nat} (h : Acc s L most k M Sl Bl A0 R mu tau) (hk : 1 ≤ k) (hM : M = (most + 2) / k + 1) : mu ≤ M := by
  have h1 := h.tau_le
  have h2 := h.j
  have h3 : mu * k ≤ (most + 2) + 1 * k := by omega
  have h4 : mu * k / k ≤ ((most + 2) + 1 * k) / k := Nat.div_le_div_right h3
  rw [Nat.mul_div_cancel _ (by omega), Nat.add_mul_div_right _ _ (by omega)] at h4
  omega
/-- So many are had. -/
theorem Acc.had {s : TH} {L : Nat → Nat → List Nat} {most k M : Nat} {Sl Bl : List Nat} {A0 R mu tau : Nat} (h : Acc s L most k M Sl Bl A0 R mu tau) (hk : 1 ≤ k) (hM : M = (most + 2) / k + 1) (X : List Nat) (hX : X.Nodup) (ha : ∀ v ∈ X, colOf L v ≠ 0) : X.length ≤ most + 2 * M := by
  have h1 := h.alive X hX ha
  have h2 := h.mu_le hk hM
  have h3 := h.rm
  cases hm : s.marking with
  | false => rw [hm, if_neg (by simp)] at h1; omega
  | true =>
    have := h.al hm
    rw [hm, if_pos rfl] at h1; omega

/-- The account of some cycle. -/
def AccE (s : TH) (L : Nat → Nat → List Nat) (most k M mu tau : Nat) : Prop := ∃ Sl Bl A0 R, Acc s L most k M Sl Bl A0 R mu tau

theorem step_acc {s : TH} {L : Nat → Nat → List Nat} {most k M mu tau : Nat} (h : St s L) (hA : AccE s L most k M mu tau) (hk : 1 ≤ k) (hM : M = (most + 2) / k + 1) (hcy : s.cycles < 1000000) (Rl : List Nat) (hR : ∀ v, Rch s v ↔ v ∈ Rl) (hRl : Rl.length ≤ most) :
    ∃ s' L', tstep s = some s' ∧ St s' L' ∧ Kept s s' ∧ (AccE s' L' most k M mu (tau + 1) ∨ AccE s' L' most k M 0 1) := by
  obtain ⟨Sl, Bl, A0, R, hA⟩ := hA
  obtain ⟨s', L', e1, h1, h2, h3⟩ := step_si h hA.si hcy
  refine ⟨s', L', e1, h1, h2, ?_⟩
  have hj := hA.j
  cases h3 with
  | flip q1 q2 q3 q4 q5 q6 =>
    right
    refine ⟨Rl, [], R + mu, Rl.length, ?_, Nat.le_refl _, hRl, List.nodup_nil, (fun v hv => by cases hv), fun _ => rfl, (fun e => by rw [q2] at e; cases e), fun _ => ?_, fun X hX ha => ?_, by omega⟩
    · have : (Rch s) = (fun v => v ∈ Rl) := by funext v; exact propext (hR v)
      rw [this] at q4; exact q4
    · have := hA.rm
      have := hA.mu_le hk hM
      omega
    · have := hA.alive X hX (fun v hv e => ha v hv ((q5 v).2 e))
      rw [q1, if_neg (by simp)] at this
      rw [q2, if_pos rfl]
      exact this
  | scan q1 q2 q3 q4 q5 q6 q7 =>
    left
    obtain ⟨u, hu3, hu1⟩ := q6
    refine ⟨Sl, u :: Bl, A0, R, q4, hA.sl, hA.rm, List.nodup_cons.2 ⟨fun hm => ?_, hA.bn⟩, fun v hv => ?_, fun _ => ?_, (fun e => by rw [q2] at e; cases e), fun _ => hA.al q1, fun X hX ha => ?_, by omega⟩
    · have := hA.bc u hm; omega
    · rcases List.mem_cons.1 hv with e | e
      · rw [e]; exact hu1
      · exact q7 v (hA.bc v e)
    · have := hA.bl q1
      simp only [List.length_cons]; omega
    · have := hA.alive X hX (fun v hv e => ha v hv ((q5 v).2 e))
      rw [q1] at this
      rw [q2]; exact this
  | done q1 q2 q3 q4 q5 q6 q7 q8 =>
    left
    have ht := hA.tau_le
    refine ⟨Sl, Bl, A0, R, q4, hA.sl, hA.rm, hA.bn, fun v hv => (q5 v).2 (hA.si.mark v (Or.inl (hA.bc v hv))), (fun e => by rw [q2] at e; cases e), fun _ => ?_, (fun e => by rw [q2] at e; cases e), fun X hX ha => ?_, by omega⟩
    · have h1 := hA.bl q1
      have h2 := nodup_le Bl Sl hA.bn (fun v hv => hA.si.mark v (Or.inl (hA.bc v hv)))
      have h3 := hA.sl
      have h4 := hA.rm
      omega
    · rw [q2, if_neg (by simp)]
      have h2 := nodup_le X Sl hX (fun v hv => (q5 v).1 (by
        have := ha v hv
        rcases q6 v with e | e
        · exact absurd e this
        · exact e))
      exact Nat.le_trans h2 hA.sl

theorem incr_acc : ∀ (m : Nat) {s : TH} {L : Nat → Nat → List Nat} {most k M mu tau : Nat}, St s L → AccE s L most k M mu tau → 1 ≤ k → M = (most + 2) / k + 1 → s.cycles + m ≤ 1000000 → ∀ Rl : List Nat, (∀ v, Rch s v ↔ v ∈ Rl) → Rl.length ≤ most →
    ∃ s' L', tincr m s = some s' ∧ St s' L' ∧ KeptN m s s' ∧ ∃ mu' tau', AccE s' L' most k M mu' tau' ∧ (mu' = mu ∧ tau' = tau + m ∨ mu' = 0) := by
  intro m
  induction m with
  | zero => intro s L most k M mu tau h hA _ _ _ Rl _ _; exact ⟨s, L, rfl, h, ⟨rfl, rfl, rfl, Nat.le_refl _, Same.refl _ _, fun _ _ => Nat.le_refl _⟩, mu, tau, hA, Or.inl ⟨rfl, rfl⟩⟩
  | succ m ih =>
    intro s L most k M mu tau h hA hk hM hcy Rl hR hRl
    obtain ⟨t, L1, e1, h1, k1, hA1⟩ := step_acc h hA hk hM (by omega) Rl hR hRl
    have hR1 : ∀ v, Rch t v ↔ v ∈ Rl := fun v => (rch_same k1.count k1.roots k1.same).trans (hR v)
    have fin : ∀ {mu1 tau1 : Nat}, AccE t L1 most k M mu1 tau1 → ∃ s' L', tincr (m + 1) s = some s' ∧ St s' L' ∧ KeptN (m + 1) s s' ∧ ∃ mu' tau', AccE s' L' most k M mu' tau' ∧ (mu' = mu1 ∧ tau' = tau1 + m ∨ mu' = 0) := by
      intro mu1 tau1 hA1
      obtain ⟨s', L', e2, h2, k2, mu', tau', hA2, hq⟩ := ih h1 hA1 hk hM (by have := k1.cyc; omega) Rl hR1 hRl
      refine ⟨s', L', ?_, h2, ⟨k2.count.trans k1.count, k2.roots.trans k1.roots, k2.k.trans k1.k, by have := k1.cyc; have := k2.cyc; omega, k1.same.trans (by have := k2.same; rwa [k1.count] at this), fun c hc => Nat.le_trans (k1.free c hc) (k2.free c hc)⟩, mu', tau', hA2, hq⟩
      simp only [tincr]
      rw [e1, Option.bind_some]
      exact e2
    rcases hA1 with hA1 | hA1
    · obtain ⟨s', L', e, h2, k2, mu', tau', hA2, hq⟩ := fin hA1
      exact ⟨s', L', e, h2, k2, mu', tau', hA2, hq.imp (fun q => ⟨q.1, by omega⟩) id⟩
    · obtain ⟨s', L', e, h2, k2, mu', tau', hA2, hq⟩ := fin hA1
      exact ⟨s', L', e, h2, k2, mu', tau', hA2, Or.inr (by rcases hq with q | q <;> omega)⟩

theorem take_acc {s s' : TH} {L L' : Nat → Nat → List Nat} {most k M mu tau u form tag n fill : Nat} (hs : St s L) (hA : AccE s L most k M mu tau) (t : Took s s' L L' u form tag n fill) (hfill : fill = 0 ∨ fill = 12) (hf : form = 1 ∨ form = 2) (htag : tag < 16) (hn' : n ≤ 127) (hj : mu * k ≤ tau) : AccE s' L' most k M (mu + 1) tau := by
  obtain ⟨Sl, Bl, A0, R, hA⟩ := hA
  have hS := take_si hs hA.si t hfill hf htag hn'
  have e0 : (fun v => v ∈ Sl ∨ v = u) = (fun v => v ∈ u :: Sl) := by funext v; simp [or_comm]
  have hc1 : ∀ v, v ≠ u → colOf L' v = colOf L v := fun v hv => by rw [t.col, updc_ne _ _ hv]
  have hcu : colOf L' u = 1 := by rw [t.col]; exact updc_at _ _ _
  have hmk := t.marking
  refine ⟨u :: Sl, u :: Bl, A0, R, by rw [← e0]; exact hS, by have := hA.sl; simp only [List.length_cons]; omega, hA.rm, List.nodup_cons.2 ⟨fun hm => ?_, hA.bn⟩, fun v hv => ?_, fun e => ?_, fun e => hA.idle (by rw [← hmk]; exact e), fun e => hA.al (by rw [← hmk]; exact e), fun X hX ha => ?_, ?_⟩
  · have h1 := hA.bc u hm
    have h2 := t.was
    omega
  · rcases List.mem_cons.1 hv with e | e
    · rw [e]; exact hcu
    · have h1 := hA.bc v e
      rw [hc1 v (fun e2 => by rw [e2] at h1; have := t.was; omega)]; exact h1
  · have := hA.bl (by rw [← hmk]; exact e)
    simp only [List.length_cons]; omega
  · rw [hmk]
    have h1 := hA.alive (X.erase u) (hX.erase u) (fun v hv => by
      have hne : v ≠ u := fun e => by rw [e] at hv; exact (List.Nodup.not_mem_erase hX) hv
      rw [← hc1 v hne]
      exact ha v (List.mem_of_mem_erase hv))
    by_cases hu : u ∈ X
    · rw [List.length_erase_of_mem hu] at h1; omega
    · rw [List.erase_of_not_mem hu] at h1; omega
  · rw [Nat.add_mul]; omega

theorem set_acc {s s' : TH} {L L' : Nat → Nat → List Nat} {most k M mu tau u i x c : Nat} (hA : AccE s L most k M mu tau) (t : SetTo s s' L L' u i x) (h1 : ∀ v, colOf L' v = 1 ↔ colOf L v = 1) (h0 : ∀ v, colOf L' v = 0 ↔ colOf L v = 0) (h3 : ∀ v, colOf L' v = 3 → colOf L v = 3 ∨ hform (wat s.W u) = 1 ∧ wat s.W (u + 3 + i) = 8 * v + 1)
    (hu : IsC s.count c u) (hi : i < hn (wat s.W u)) (hi2 : i < szs c) (hrep : ∀ v, colOf L' v = 3 → ∃ c, IsC s.count c v) (hru : Rch s u) (hx : hform (wat s.W u) = 1 → ∀ c v, IsC s.count c v → x = 8 * v + 1 → Rch s v) : AccE s' L' most k M mu tau := by
  obtain ⟨Sl, Bl, A0, R, hA⟩ := hA
  have hS := set_si hA.si t h1 h3 hu hi hi2 hrep (hA.si.rch hru) (fun hf c v hv e => hA.si.rch (hx hf c v hv e))
  exact ⟨Sl, Bl, A0, R, hS, hA.sl, hA.rm, hA.bn, fun v hv => (h1 v).2 (hA.bc v hv), fun e => hA.bl (by rw [← t.marking]; exact e), fun e => hA.idle (by rw [← t.marking]; exact e), fun e => hA.al (by rw [← t.marking]; exact e), fun X hX ha => by rw [t.marking]; exact hA.alive X hX (fun v hv e => ha v hv ((h0 v).2 e)), hA.j⟩
theorem Acc.setRoot {s : TH} {L : Nat → Nat → List Nat} {most k M mu tau i x : Nat} {Sl Bl : List Nat} {A0 R : Nat} (hA : Acc s L most k M Sl Bl A0 R mu tau) (hx : ∀ c v, IsC s.count c v → x = 8 * v + 1 → v ∈ Sl) : Acc (Go.Proofs.Ytbjlapfcnldpoaa.setRoot s i x) L most k M Sl Bl A0 R mu tau :=
  ⟨setRoot_si hA.si hx, hA.sl, hA.rm, hA.bn, hA.bc, hA.bl, hA.idle, hA.al, hA.alive, hA.j⟩
theorem setRoot_acc {s : TH} {L : Nat → Nat → List Nat} {most k M mu tau i x : Nat} (hA : AccE s L most k M mu tau) (hx : ∀ c v, IsC s.count c v → x = 8 * v + 1 → Rch s v) : AccE (setRoot s i x) L most k M mu tau := by
  obtain ⟨Sl, Bl, A0, R, hA⟩ := hA
  exact ⟨Sl, Bl, A0, R, hA.setRoot (fun c v hv e => hA.si.rch (hx c v hv e))⟩
/-- A new cell, and a register that names it. -/
theorem takeRoot_acc {s s' : TH} {L L' : Nat → Nat → List Nat} {most k M mu tau u form tag n fill i : Nat} (hs : St s L) (hA : AccE s L most k M mu tau) (t : Took s s' L L' u form tag n fill) (hfill : fill = 0 ∨ fill = 12) (hf : form = 1 ∨ form = 2) (htag : tag < 16) (hn' : n ≤ 127) (hj : mu * k ≤ tau) : AccE (setRoot s' i (8 * u + 1)) L' most k M (mu + 1) tau := by
  obtain ⟨Sl, Bl, A0, R, hA⟩ := take_acc hs hA t hfill hf htag hn' hj
  refine ⟨Sl, Bl, A0, R, hA.setRoot (fun c v hv e => ?_)⟩
  have : v = u := by omega
  subst this
  exact hA.si.mark v (Or.inl (by rw [t.col]; exact updc_at _ _ _))
/-- There is room. -/
theorem acc_room {s : TH} {L : Nat → Nat → List Nat} {most k M mu tau c : Nat} (h : St s L) (hA : AccE s L most k M mu tau) (hk : 1 ≤ k) (hM : M = (most + 2) / k + 1) (hc : c < 4) (hn : most + 2 * M < s.count.getD c 0) : 0 < lget s c 0 := by
  obtain ⟨Sl, Bl, A0, R, hA⟩ := hA
  have hR := h.rep
  have h0 := hR.cnt c 0 hc (by omega)
  simp only [d0, Nat.add_zero] at h0
  have ht := hR.tot c hc
  have hnd : ∀ l, l < 4 → (L c l).Nodup := fun l hl => hR.rl.nodup hc hl
  have hX : (L c 1 ++ (L c 2 ++ L c 3)).Nodup := by
    refine List.nodup_append.2 ⟨hnd 1 (by omega), List.nodup_append.2 ⟨hnd 2 (by omega), hnd 3 (by omega), fun a ha b hb e => ?_⟩, fun a ha b hb e => ?_⟩
    · subst e
      have := hR.rl.disj c 2 3 a hc (by omega) (by omega) ha hb
      omega
    · subst e
      rcases List.mem_append.1 hb with hb | hb
      · have := hR.rl.disj c 1 2 a hc (by omega) (by omega) ha hb
        omega
      · have := hR.rl.disj c 1 3 a hc (by omega) (by omega) ha hb
        omega
  have hb := hA.had hk hM _ hX (fun v hv => by
    rcases List.mem_append.1 hv with hv | hv
    · rw [col_mem hR.rl hc (by omega) hv]; decide
    · rcases List.mem_append.1 hv with hv | hv
      · rw [col_mem hR.rl hc (by omega) hv]; decide
      · rw [col_mem hR.rl hc (by omega) hv]; decide)
  simp only [List.length_append] at hb
  omega
/-- A new heap's account. -/
theorem acc_new {s : TH} {L : Nat → Nat → List Nat} {most k M : Nat} (hm : s.marking = false) (hz : ∀ v, colOf L v = 0) (hr : ∀ v, ¬ rootP s v) : AccE s L most k M 0 0 :=
  ⟨[], [], 0, 0, ⟨(fun v hv => absurd hv (hr v)), (fun a b ha _ => nomatch ha), (fun v hv => nomatch hv), (fun v hv => by have := hz v; omega)⟩, Nat.le_refl _, Nat.zero_le _, List.nodup_nil, (fun v hv => by cases hv), (fun e => by rw [hm] at e; cases e), fun _ => Nat.zero_le _, (fun e => by rw [hm] at e; cases e), fun X hX ha => by
    cases X with
    | nil => exact Nat.zero_le _
    | cons a X => exact absurd (hz a) (ha a List.mem_cons_self), by omega⟩

end Go.Proofs.Ytbjlapfcnldpoaa

