/- A new heap: all cells are free. No program in sight. -/
import Derived.Test.YtbjlapfcnldpoaaTSetP
namespace Go.Proofs.Ytbjlapfcnldpoaa
set_option linter.unusedVariables false
set_option linter.unusedSimpArgs false
open Go.RowKit

theorem wat_init {W : List Nat} {p q : Nat} (hp : p + 2 < W.length) : wat (setAll W [(p, 1, p), (p, 2, p)]) q = if q = p + 1 ∨ q = p + 2 then p else wat W q := by
  simp only [setAll, List.foldl_cons, List.foldl_nil]
  rw [wat_set _ _ _ _ (by simp; omega), wat_set _ _ _ _ (by omega)]
  by_cases h2 : q = p + 2
  · rw [if_pos h2, if_pos (Or.inr h2)]
  · rw [if_neg h2]
    by_cases h1 : q = p + 1
    · rw [if_pos h1, if_pos (Or.inl h1)]
    · rw [if_neg h1, if_neg (by omega)]
theorem initAll_ok {N : Nat} (hN : 51 ≤ N) : ∀ (m k : Nat) (W : List Nat), m + k = 17 → W.length = N → (∀ a, a < k → Lone W (3 * a)) → (∀ p, 51 ≤ p → wat W p = 0) →
    ∃ W', initAll W m k = some W' ∧ W'.length = N ∧ (∀ a, a < 17 → Lone W' (3 * a)) ∧ ∀ p, 51 ≤ p → wat W' p = 0 := by
  intro m
  induction m with
  | zero =>
    intro k W hk hl h1 h2
    have : k = 17 := by omega
    subst this
    exact ⟨W, rfl, hl, h1, h2⟩
  | succ m ih =>
    intro k W hk hl h1 h2
    have hp : 3 * k + 2 < W.length := by omega
    have e1 : oInit W (3 * k) = some (setAll W [(3 * k, 1, 3 * k), (3 * k, 2, 3 * k)]) := by
      unfold oInit isPlace
      rw [if_pos (by simpa using hp)]
    obtain ⟨W', e2, e3, e4, e5⟩ := ih (k + 1) (setAll W [(3 * k, 1, 3 * k), (3 * k, 2, 3 * k)]) (by omega) (by rw [setAll_length]; exact hl) (fun a ha => by
      unfold Lone
      rw [wat_init hp, wat_init hp]
      by_cases e : a = k
      · subst e
        rw [if_pos (by omega), if_pos (by omega)]
        exact ⟨rfl, rfl⟩
      · rw [if_neg (by omega), if_neg (by omega)]
        exact h1 a (by omega)) (fun p hp' => by rw [wat_init hp, if_neg (by omega)]; exact h2 p hp')
    refine ⟨W', ?_, e3, e4, e5⟩
    simp only [initAll]
    rw [e1, Option.bind_some]
    exact e2

/-- The first n cells of a size. -/
def cellsN (cs : List Nat) (c n : Nat) : List Nat := (List.range n).map fun i => stt cs c + i * (3 + szs c)
theorem mem_cellsN {cs : List Nat} {c n u : Nat} : u ∈ cellsN cs c n ↔ ∃ i, i < n ∧ u = stt cs c + i * (3 + szs c) := by
  unfold cellsN
  rw [List.mem_map]
  constructor
  · rintro ⟨i, hi, rfl⟩; exact ⟨i, List.mem_range.1 hi, rfl⟩
  · rintro ⟨i, hi, rfl⟩; exact ⟨i, List.mem_range.2 hi, rfl⟩
theorem cellsN_succ (cs : List Nat) (c n : Nat) : cellsN cs c (n + 1) = cellsN cs c n ++ [stt cs c + n * (3 + szs c)] := by simp [cellsN, List.range_succ]
theorem cellsN_length (cs : List Nat) (c n : Nat) : (cellsN cs c n).length = n := by simp [cellsN]
/-- The lists when k sizes are laid, and i cells of the next one. -/
def layL (cs : List Nat) (k i : Nat) : Nat → Nat → List Nat := fun c l => if l = 0 then (if c < k then cellsN cs c (cs.getD c 0) else if c = k then cellsN cs c i else []) else []
theorem layL_next (cs : List Nat) (k : Nat) : layL cs k (cs.getD k 0) = layL cs (k + 1) 0 := by
  funext c l
  unfold layL
  by_cases el : l = 0
  · rw [if_pos el, if_pos el]
    by_cases h : c < k
    · rw [if_pos h, if_pos (show c < k + 1 by omega)]
    · rw [if_neg h]
      by_cases e : c = k
      · subst e; rw [if_pos rfl, if_pos (Nat.lt_succ_self c)]
      · rw [if_neg e, if_neg (show ¬ c < k + 1 by omega)]
        split
        · rename_i e2; simp [cellsN]
        · rfl
  · rw [if_neg el, if_neg el]

theorem layC_ok {cs : List Nat} {c : Nat} (hc : c < 4) (hb : stt cs 4 ≤ 720051) : ∀ (m i : Nat) (W : List Nat), i + m = cs.getD c 0 → RL cs W (layL cs c i) → (∀ c v, IsC cs c v → wat W v = 0) → (∀ c v j, IsC cs c v → j < szs c → wat W (v + 3 + j) = 0) →
    ∃ W', layC W (stt cs c) c (szs c) m i = some W' ∧ RL cs W' (layL cs c (cs.getD c 0)) ∧ (∀ c v, IsC cs c v → wat W' v = 0) ∧ ∀ c v j, IsC cs c v → j < szs c → wat W' (v + 3 + j) = 0 := by
  intro m
  induction m with
  | zero =>
    intro i W hi h h1 h2
    have : i = cs.getD c 0 := by omega
    subst this
    exact ⟨W, rfl, h, h1, h2⟩
  | succ m ih =>
    intro i W hi h h1 h2
    obtain ⟨b, hbe⟩ : ∃ b, stt cs c + i * (3 + szs c) = b := ⟨_, rfl⟩
    have hbc : IsC cs c b := ⟨hc, i, by omega, hbe.symm⟩
    have hL0 : layL cs c i c 0 = cellsN cs c i := by simp [layL]
    have hnot : ∀ c2 l2, c2 < 4 → l2 < 4 → b ∉ thead c2 l2 :: layL cs c i c2 l2 := by
      intro c2 l2 hc2 hl2 hm
      rcases List.mem_cons.1 hm with e | e
      · have := hbc.ge; have := thead_lt hc2 hl2; omega
      · have hb2 := h.mem c2 l2 b hc2 hl2 e
        have ec := hb2.one hbc
        subst ec
        unfold layL at e
        split at e
        · rw [if_neg (by omega), if_pos rfl] at e
          obtain ⟨j, hj, ej⟩ := mem_cellsN.1 e
          rw [← hbe] at ej
          have := Nat.mul_le_mul_right (3 + szs c2) (show j + 1 ≤ i by omega)
          rw [Nat.add_mul] at this
          omega
        · cases e
    have nb : Node (Base cs) W b := h.node (Or.inr ⟨c, hbc⟩)
    have hr0 := h.ring c 0 hc (by omega)
    have hpv := ring_prev hr0
    have nl := hr0.node _ (lastOf_mem (thead c 0) (layL cs c i c 0))
    have nh := hr0.node (thead c 0) (by simp)
    have hwl := h.wl
    obtain ⟨last, hlast⟩ : ∃ x, lastOf (thead c 0) (layL cs c i c 0) = x := ⟨_, rfl⟩
    rw [hlast] at hpv nl
    have e1 : oAhead W (thead c 0) = some last := by
      unfold oAhead isPlace
      rw [hpv]
      have := nl.2
      have := nh.2
      rw [if_pos (by simp; omega)]
    have e2 : oInit W b = some (setAll W [(b, 1, b), (b, 2, b)]) := by
      unfold oInit isPlace
      rw [if_pos (by simpa using nb.2)]
    have h3 : RL cs (setAll W [(b, 1, b), (b, 2, b)]) (layL cs c i) := by
      refine ⟨by rw [setAll_length]; exact h.wl, fun c2 l2 hc2 hl2 => ?_, h.mem, h.disj, fun c2 v hv => ?_⟩
      · refine (h.ring c2 l2 hc2 hl2).frame (setAll_length _ _) (fun v hv => ?_) (fun v hv => ?_)
        · rw [init_B nb (h.mem_base hc2 hl2 hv), if_neg (ne_mem hv (hnot c2 l2 hc2 hl2))]
        · rw [init_A nb (h.mem_base hc2 hl2 hv), if_neg (ne_mem hv (hnot c2 l2 hc2 hl2))]
      · rw [wat_init nb.2, if_neg (fun e => e.elim (fun e => header_ne hv nb.1 (by omega) (by omega) e.symm) (fun e => header_ne hv nb.1 (by omega) (by omega) e.symm))]
        exact h.hdr c2 v hv
    have k1 : ∀ c v, IsC cs c v → wat (setAll W [(b, 1, b), (b, 2, b)]) v = 0 := fun c2 v hv => by
      rw [wat_init nb.2, if_neg (fun e => e.elim (fun e => header_ne hv nb.1 (by omega) (by omega) e.symm) (fun e => header_ne hv nb.1 (by omega) (by omega) e.symm))]
      exact h1 c2 v hv
    have k2 : ∀ c v j, IsC cs c v → j < szs c → wat (setAll W [(b, 1, b), (b, 2, b)]) (v + 3 + j) = 0 := fun c2 v j hv hj => by
      rw [wat_init nb.2, if_neg (fun e => e.elim (fun e => field_ne hv hj nb.1 (by omega) e.symm) (fun e => field_ne hv hj nb.1 (by omega) e.symm))]
      exact h2 c2 v j hv hj
    have nb1 : Node (Base cs) (setAll W [(b, 1, b), (b, 2, b)]) b := ⟨nb.1, by rw [setAll_length]; exact nb.2⟩
    generalize setAll W [(b, 1, b), (b, 2, b)] = W1 at *
    have hr1 := h3.ring c 0 hc (by omega)
    have hlm : last ∈ thead c 0 :: layL cs c i c 0 := by rw [← hlast]; exact lastOf_mem _ _
    have i1 := ring_insert_last hr1 nb1 (hnot c 0 hc (by omega))
    rw [hlast] at i1
    have nx : Node (Base cs) W1 (wat W1 (last + 2)) := hr1.node _ (ring_next hr1 hlm)
    have nl1 := hr1.node last hlm
    have e3 : oInsert W1 last b = some (setAll W1 [(b, 1, last), (b, 2, wat W1 (last + 2)), (last, 2, b), (wat W1 (last + 2), 1, b)]) := by
      unfold oInsert isPlace
      simp [nl1.2, nb1.2, nx.2]
    have hbt : ∀ t ∈ [(b, 1, last), (b, 2, wat W1 (last + 2)), (last, 2, b), (wat W1 (last + 2), 1, b)], Base cs t.1 ∧ 1 ≤ t.2.1 ∧ t.2.1 ≤ 2 := by
      intro t ht
      simp only [List.mem_cons, List.not_mem_nil, or_false] at ht
      rcases ht with rfl | rfl | rfl | rfl
      · exact ⟨nb1.1, by simp, by simp⟩
      · exact ⟨nb1.1, by simp, by simp⟩
      · exact ⟨nl1.1, by simp, by simp⟩
      · exact ⟨nx.1, by simp, by simp⟩
    have hn : ∀ c2 l2, layL cs c (i + 1) c2 l2 = if c2 = c ∧ l2 = 0 then layL cs c i c 0 ++ [b] else layL cs c i c2 l2 := by
      intro c2 l2
      unfold layL
      by_cases el : l2 = 0
      · subst el
        by_cases ec : c2 = c
        · subst ec
          simp [cellsN_succ, hbe]
        · simp [ec]
      · simp [el]
    have h4 : RL cs (setAll W1 [(b, 1, last), (b, 2, wat W1 (last + 2)), (last, 2, b), (wat W1 (last + 2), 1, b)]) (layL cs c (i + 1)) := by
      refine ⟨by rw [setAll_length]; exact h3.wl, fun c2 l2 hc2 hl2 => ?_, fun c2 l2 v hc2 hl2 hv => ?_, fun c2 la lb v hc2 hla hlb hva hvb => ?_, fun c2 v hv => ?_⟩
      · rw [hn]
        by_cases e : c2 = c ∧ l2 = 0
        · rw [if_pos e, e.1, e.2]; exact i1
        · rw [if_neg e]
          refine insert_other_at hr1 hlm nb1 (h3.ring c2 l2 hc2 hl2) (fun v hv => ⟨h3.apart hc2 hl2 hc (by omega) e v hv, ?_⟩)
          exact ne_mem hv (hnot c2 l2 hc2 hl2)
      · rw [hn] at hv
        split at hv
        · rename_i e
          rcases List.mem_append.1 hv with hv | hv
          · rw [e.1]; exact h3.mem c 0 v hc (by omega) hv
          · simp at hv; rw [hv, e.1]; exact hbc
        · exact h3.mem c2 l2 v hc2 hl2 hv
      · unfold layL at hva hvb
        split at hva
        · split at hvb
          · rename_i a b; rw [a, b]
          · cases hvb
        · cases hva
      · rw [wat_setAll (fun t ht => header_ne hv (hbt t ht).1 (hbt t ht).2.1 (hbt t ht).2.2)]
        exact h3.hdr c2 v hv
    obtain ⟨W', e4, e5, e6, e7⟩ := ih (i + 1) _ (by omega) h4
      (fun c2 v hv => by rw [wat_setAll (fun t ht => header_ne hv (hbt t ht).1 (hbt t ht).2.1 (hbt t ht).2.2)]; exact k1 c2 v hv)
      (fun c2 v j hv hj => by rw [wat_setAll (fun t ht => field_ne hv hj (hbt t ht).1 (hbt t ht).2.2)]; exact k2 c2 v j hv hj)
    refine ⟨W', ?_, e5, e6, e7⟩
    simp only [layC, Option.bind_eq_bind]
    rw [e1, Option.bind_some, hbe, e2, Option.bind_some, e3, Option.bind_some]
    exact e4

theorem starts_take (a b c d : Nat) : starts [a, b, c, d] = [stt [a, b, c, d] 0, stt [a, b, c, d] 1, stt [a, b, c, d] 2, stt [a, b, c, d] 3, stt [a, b, c, d] 4] := rfl

theorem layN_ok {s : TH} (hls : THlen s) (hst : s.start = starts s.count) (hb : stt s.count 4 ≤ 720051) (hz : ∀ c l, lget s c l = 0) (hrl : RL s.count s.W (layL s.count 0 0)) (h1 : ∀ c v, IsC s.count c v → wat s.W v = 0) (h2 : ∀ c v j, IsC s.count c v → j < szs c → wat s.W (v + 3 + j) = 0) :
    ∀ k, k ≤ 4 → ∃ sk, layN k s = some sk ∧ sk = { s with lists := sk.lists, W := sk.W } ∧ THlen sk ∧ RL s.count sk.W (layL s.count k 0) ∧ (∀ c l, c < 4 → l < 4 → lget sk c l = (layL s.count k 0 c l).length) ∧ (∀ c v, IsC s.count c v → wat sk.W v = 0) ∧ ∀ c v j, IsC s.count c v → j < szs c → wat sk.W (v + 3 + j) = 0 := by
  intro k
  induction k with
  | zero =>
    intro _
    refine ⟨s, rfl, rfl, hls, hrl, fun c l hc hl => ?_, h1, h2⟩
    rw [hz c l]
    unfold layL
    split
    · rw [if_neg (by omega)]
      split
      · simp [cellsN]
      · rfl
    · rfl
  | succ k ih =>
    intro hk
    obtain ⟨sk, e1, e2, h3, h4, h5, h6, h7⟩ := ih (by omega)
    obtain ⟨W', j1, j2, j3, j4⟩ := layC_ok (show k < 4 by omega) hb (s.count.getD k 0) 0 sk.W (by omega) h4 h6 h7
    rw [layL_next] at j2
    refine ⟨lset { sk with W := W' } k 0 (s.count.getD k 0), ?_, ?_, ⟨h3.a, h3.b, by simpa [lset] using h3.c, h3.d⟩, j2, ?_, j3, j4⟩
    · simp only [layN]
      rw [e1, Option.bind_some]
      unfold lay1
      have a1 : sk.start.getD k 0 = stt s.count k := by rw [e2]; show s.start.getD k 0 = _; rw [hst]; rfl
      have a2 : sk.count.getD k 0 = s.count.getD k 0 := by rw [e2]
      rw [a1, a2, j1]
      rfl
    · rw [e2]; rfl
    · intro c l hc hl
      have g1 : lget (lset { sk with W := W' } k 0 (s.count.getD k 0)) c l = if c = k ∧ l = 0 then s.count.getD k 0 else lget sk c l :=
        lget_lset (s := { sk with W := W' }) ⟨h3.a, h3.b, h3.c, h3.d⟩ (by omega) (by omega) hl
      rw [g1]
      have g2 := h5 c l hc hl
      by_cases e : c = k ∧ l = 0
      · obtain ⟨rfl, rfl⟩ := e
        rw [if_pos ⟨rfl, rfl⟩]
        simp [layL, cellsN_length]
      · rw [if_neg e, g2]
        rw [← layL_next]
        unfold layL
        by_cases el : l = 0
        · have ec : c ≠ k := fun e' => e ⟨e', el⟩
          simp [el, ec]
        · simp [el]

/-- A new heap. -/
theorem lay_ok (c0 c1 c2 c3 k : Nat) (h0 : c0 ≤ 4000) (h1 : c1 ≤ 4000) (h2 : c2 ≤ 4000) (h3 : c3 ≤ 4000) :
    ∃ s, tlay (pre c0 c1 c2 c3 k) = some s ∧ St s (layL [c0, c1, c2, c3] 4 0) ∧ s.count = [c0, c1, c2, c3] ∧ ∀ c, c < 4 → lget s c 0 = [c0, c1, c2, c3].getD c 0 := by
  have hbig : ∀ c, [c0, c1, c2, c3].getD c 0 ≤ 4000 := fun c => get4_le c0 c1 c2 c3 c h0 h1 h2 h3
  have hb := stt4_le hbig
  have hge := stt_ge [c0, c1, c2, c3] (Nat.le_refl 4)
  obtain ⟨W0, e1, e2, e3, e4⟩ := initAll_ok (N := stt [c0, c1, c2, c3] 4) hge 17 0 (List.replicate (stt [c0, c1, c2, c3] 4) 0) rfl (by simp) (fun a ha => by omega) (fun p _ => by
    unfold wat
    simp only [List.getD]
    by_cases hp : p < stt [c0, c1, c2, c3] 4
    · simp [hp]
    · rw [List.getElem?_eq_none (by simp; omega)]; rfl)
  have hE : ∀ c l, layL [c0, c1, c2, c3] 0 0 c l = [] := by
    intro c l
    unfold layL
    split
    · rw [if_neg (by omega)]
      split
      · simp [cellsN]
      · rfl
    · rfl
  have hrl : RL [c0, c1, c2, c3] W0 (layL [c0, c1, c2, c3] 0 0) := by
    refine ⟨e2, fun c l hc hl => ?_, (fun c l u hc hl hu => by rw [hE] at hu; cases hu), (fun c l l' u hc hl hl' hu => by rw [hE] at hu; cases hu), (fun c u hu => by rw [e4 u hu.ge]; omega)⟩
    rw [hE]
    have := e3 (4 * c + l) (by omega)
    exact lone_ring this ⟨head_base _ hc hl, by rw [e2]; unfold thead; omega⟩
  have hz : ∀ c l, lget { pre c0 c1 c2 c3 k with W := W0 } c l = 0 := by
    intro c l
    show (List.replicate 16 0).getD (4 * c + l) 0 = 0
    rw [List.getD_eq_getElem?_getD]
    by_cases h : 4 * c + l < 16
    · rw [List.getElem?_replicate, if_pos h]; rfl
    · rw [List.getElem?_replicate, if_neg h]; rfl
  obtain ⟨s, f1, f2, f3, f4, f5, f6, f7⟩ := layN_ok (s := { pre c0 c1 c2 c3 k with W := W0 }) ⟨rfl, rfl, rfl, rfl⟩ rfl hb hz hrl (fun c v hv => e4 v hv.ge) (fun c v j hv hj => e4 _ (by have := hv.ge; omega)) 4 (Nat.le_refl _)
  have hct : s.count = [c0, c1, c2, c3] := by rw [f2]; rfl
  have hLe : ∀ c l, c < 4 → layL [c0, c1, c2, c3] 4 0 c l = if l = 0 then cellsN [c0, c1, c2, c3] c ([c0, c1, c2, c3].getD c 0) else [] := by
    intro c l hc
    simp [layL, hc]
  have f4' : RL [c0, c1, c2, c3] s.W (layL [c0, c1, c2, c3] 4 0) := f4
  have f5' : ∀ c l, c < 4 → l < 4 → lget s c l = (layL [c0, c1, c2, c3] 4 0 c l).length := f5
  have f6' : ∀ c v, IsC [c0, c1, c2, c3] c v → wat s.W v = 0 := f6
  have f7' : ∀ c v j, IsC [c0, c1, c2, c3] c v → j < szs c → wat s.W (v + 3 + j) = 0 := f7
  have hcol : ∀ v, colOf (layL [c0, c1, c2, c3] 4 0) v = 0 := by
    intro v
    cases hk : colOf (layL [c0, c1, c2, c3] 4 0) v with
    | zero => rfl
    | succ j =>
      obtain ⟨c, hc, hm⟩ := col_ne0 hk (by omega)
      rw [hLe c _ hc, if_neg (by omega)] at hm
      cases hm
  refine ⟨s, ?_, ⟨⟨f3, ?_, ?_, ?_, ?_, ?_, ?_, ?_, ?_, ?_, ?_⟩, ⟨fun u v hu => absurd (hcol u) hu, fun u v hu => by rw [hcol u] at hu; omega, ?_⟩, ?_, ?_, ?_⟩, hct, ?_⟩
  · unfold tlay
    have : initAll (pre c0 c1 c2 c3 k).W 17 0 = some W0 := e1
    rw [this, Option.bind_some]
    exact f1
  · rw [f2]; rfl
  · rw [hct]; exact hbig
  · intro c l hc hl
    simp only [d0, Nat.add_zero]
    exact f5' c l hc hl
  · rw [f2]; rfl
  · rw [f2]; exact Nat.zero_le 1
  · rw [hct]; exact f4'
  · rw [hct]
    intro c u hu
    refine ⟨0, by omega, ?_⟩
    rw [hLe c 0 hu.1, if_pos rfl]
    obtain ⟨_, i, hi, e⟩ := hu
    exact mem_cellsN.2 ⟨i, hi, e⟩
  · rw [hct]
    intro c hc
    rw [hLe c 0 hc, hLe c 1 hc, hLe c 2 hc, hLe c 3 hc]
    simp [cellsN_length]
  · intro c l u hc hl hu
    rw [hLe c l hc] at hu
    split at hu
    · exact ⟨fun e => by omega, fun e => by omega, fun e => by omega⟩
    · cases hu
  · intro c l u hc h1 hl hu
    rw [hLe c l hc, if_neg (by omega)] at hu
    cases hu
  · rintro v ⟨hv, -⟩
    have hr : s.roots = List.replicate 12 12 := by rw [f2]; rfl
    rw [hr] at hv
    have := (List.mem_replicate.1 hv).2
    omega
  · intro _ c hc
    rw [hLe c 2 hc, hLe c 3 hc]
    exact ⟨rfl, rfl⟩
  · rw [hct]
    intro c u i hu hi
    rw [f7' c u i hu hi]
    omega
  · intro x hx
    have hr : s.roots = List.replicate 12 12 := by rw [f2]; rfl
    rw [hr] at hx
    rw [(List.mem_replicate.1 hx).2]
    omega
  · intro c hc
    rw [f5' c 0 hc (by omega), hLe c 0 hc, if_pos rfl, cellsN_length]

end Go.Proofs.Ytbjlapfcnldpoaa
