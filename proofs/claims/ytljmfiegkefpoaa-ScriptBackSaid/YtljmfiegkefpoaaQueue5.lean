/- Lists of events in memory, compared; law 20's kind and awake. -/
import Derived.Test.YtljmfiegkefpoaaQueue4
namespace Go.Proofs.Ytljmfiegkefpoaa
set_option linter.unusedVariables false
set_option linter.unusedSimpArgs false
open Go.RowKit

/-- A slice of events: its events. -/
structure IsEvs (w : World) (v : Value) (l : List (Int × Int)) : Prop where
  form : ∃ a cap, v = .slice a l.length cap
  len : l.length ≤ 9223372036854775807
  cells : ∀ a n cap, v = .slice a n cap → ∀ i, i < l.length → ∃ b o, a = some ⟨b, o, none⟩ ∧ b < w.heap.size ∧
    w.cell? ⟨b, o + i * 2, none⟩ = some (.int .i64 (l.getD i (0, 0)).1) ∧ w.cell? ⟨b, o + i * 2 + 1, none⟩ = some (.int .i64 (l.getD i (0, 0)).2)

theorem evCells_at (l : List (Int × Int)) (i : Nat) (h : i < l.length) : (evCells l)[i * 2]? = some (.int .i64 (l.getD i (0, 0)).1) ∧ (evCells l)[i * 2 + 1]? = some (.int .i64 (l.getD i (0, 0)).2) := by
  induction l generalizing i with
  | nil => simp at h
  | cons p l ih =>
    cases i with
    | zero => simp [evCells]
    | succ i =>
      have := ih i (by simpa using h)
      simp only [evCells, List.flatMap_cons, List.cons_append, List.nil_append] at this ⊢
      rw [show (i + 1) * 2 = i * 2 + 1 + 1 by omega, show i * 2 + 1 + 1 + 1 = (i * 2 + 1) + 1 + 1 by omega]
      simpa using this

theorem IsEvs.of_own {w : World} {base : Nat} {v : Value} {l : List (Int × Int)} (h : w.ownsRow base 27 2 v l.length (evCells l)) : IsEvs w v l := by
  rcases h.2 with ⟨rfl, h0⟩ | ⟨g, cap, cur, rfl, hb, hg, hn, hm, hs, ht⟩
  · refine ⟨⟨none, 0, by rw [h0]⟩, by omega, ?_⟩
    intro a n cap hv i hi
    omega
  · refine ⟨⟨_, cap, rfl⟩, by simp only [maxLen] at hm; omega, ?_⟩
    intro a n cap' hv i hi
    simp only [Value.slice.injEq] at hv
    obtain ⟨rfl, rfl, rfl⟩ := hv
    obtain ⟨h1, h2⟩ := evCells_at l i hi
    refine ⟨g, 0, rfl, lt_of_heap hg, ?_, ?_⟩
    · rw [Nat.zero_add, h.cellAt _ (by omega), h1]
    · rw [Nat.zero_add, h.cellAt _ (by omega), h2]

theorem IsEvs.keeps {w w' : World} {v : Value} {l : List (Int × Int)} (h : IsEvs w v l) {S : Nat → Prop} (k : Keeps S w w') (hs : ∀ b o n c, v = .slice (some ⟨b, o, none⟩) n c → ¬ S b) : IsEvs w' v l := by
  refine ⟨h.form, h.len, fun a n cap hv i hi => ?_⟩
  obtain ⟨b, o, rfl, hb, h1, h2⟩ := h.cells a n cap hv i hi
  exact ⟨b, o, rfl, by have := k.size; omega, k.cell h1 (hs _ _ _ _ hv), k.cell h2 (hs _ _ _ _ hv)⟩
theorem IsEvs.keeps0 {w w' : World} {v : Value} {l : List (Int × Int)} (h : IsEvs w v l) (k : Keeps (fun _ => False) w w') : IsEvs w' v l := h.keeps k (fun _ _ _ _ _ h => h)

theorem getD_ext {l l' : List (Int × Int)} (hl : l.length = l'.length) (h : ∀ i, i < l.length → l.getD i (0, 0) = l'.getD i (0, 0)) : l = l' := by
  apply List.ext_getElem hl
  intro i h1 h2
  have := h i h1
  simpa [List.getD, h1, h2] using this

set_option maxHeartbeats 1000000 in
theorem same_is (w : World) (u v : Value) (l m : List (Int × Int)) (hu : IsEvs w u l) (hv : IsEvs w v m) :
    Calls Try.prog 18 #[u, v] w fun e w' => e = .returned (.bool (decide (l = m))) ∧ ∃ k, w' = w.drewN k := by
  obtain ⟨a, c, rfl⟩ := hu.form
  obtain ⟨b, d, rfl⟩ := hv.form
  have hl1 := hu.len
  have hl2 := hv.len
  have HU := Box.mk hu
  have HV := Box.mk hv
  clear hu hv
  by_cases hl : l.length = m.length
  · have Hlm := Box.mk hl
    rw [← hl]
    clear hl
    obtain ⟨n, hn⟩ : ∃ n, l.length = n := ⟨_, rfl⟩
    have Hn := Box.mk hn
    rw [hn] at hl1 ⊢
    clear hl2 hn
    go_enter Try.func18, Try.ntmps18
    go_wp2_with fail
    go_loopw [5] (fun i wr => ∃ (k q : Nat), k ≤ n ∧ i = .int .i64 k ∧ Box (∀ j, j < k → l.getD j (0, 0) = m.getD j (0, 0)) ∧ wr = w.drewN q) (fun i _ => n - (intOf i).toNat)
    case atStart => exact ⟨0, 0, Nat.zero_le _, rfl, ⟨fun j hj => by omega⟩, rfl⟩
    case round =>
      obtain ⟨k, q, hk, rfl, HE, rfl⟩ := hrel
      by_cases hkn : k < n
      · obtain ⟨ub, uo, rfl, hub, u0, u1⟩ := HU.out.cells _ _ _ rfl k (by rw [Hn.out]; exact hkn)
        obtain ⟨vb, vo, rfl, hvb, v0, v1⟩ := HV.out.cells _ _ _ rfl k (by rw [← Hlm.out, Hn.out]; exact hkn)
        have hk0 : (0 : Int) ≤ (k : Int) := by omega
        have hk1 : (k : Int) < (n : Int) := by omega
        by_cases he : l.getD k (0, 0) = m.getD k (0, 0)
        · have HE2 : Box (∀ j, j < k + 1 → l.getD j (0, 0) = m.getD j (0, 0)) := ⟨fun j hj => by
            rcases Nat.lt_or_ge j k with h | h
            · exact HE.out j h
            · rw [show j = k by omega]; exact he⟩
          rw [he] at u0 u1
          clear he
          generalize (m.getD k (0, 0)).1 = x at *
          generalize (m.getD k (0, 0)).2 = y at *
          go_wp2_with fail
          go_quiet (fail)
          go_wp2_with fail
          go_roundw
          case rel => exact ⟨k + 1, q + nq, by omega, by go_num, HE2, by first | rfl | rw [World.drewN_drewN]⟩
          case measure => simp [intOf]; omega
        · have HN : Box (decide (l = m) = false) := ⟨by
            rw [decide_eq_false_iff_not]
            intro h; exact he (by rw [h])⟩
          have hne : ¬ ((l.getD k (0, 0)).1 = (m.getD k (0, 0)).1 ∧ (l.getD k (0, 0)).2 = (m.getD k (0, 0)).2) := fun h => he (Prod.ext h.1 h.2)
          clear he
          generalize (l.getD k (0, 0)).1 = x at *
          generalize (l.getD k (0, 0)).2 = y at *
          generalize (m.getD k (0, 0)).1 = x' at *
          generalize (m.getD k (0, 0)).2 = y' at *
          by_cases hx : x = x'
          · subst hx
            have hy : (y == y') = false := by simpa using hne
            clear hne
            go_wp2_with fail
            go_quiet (fail)
            go_wp2_with fail
            go_ret
            exact ⟨by rw [HN.out]; rfl, q + nq, by first | rfl | rw [World.drewN_drewN]⟩
          · have hx' : (x == x') = false := by simpa using hx
            clear hne hx
            go_wp2_with fail
            go_quiet (fail)
            go_wp2_with fail
            go_ret
            exact ⟨by rw [HN.out]; rfl, q + nq, by first | rfl | rw [World.drewN_drewN]⟩
      · have HT : Box (decide (l = m) = true) := ⟨by
          rw [decide_eq_true_eq]
          exact getD_ext Hlm.out (fun i hi => HE.out i (by rw [Hn.out] at hi; omega))⟩
        go_wp2_with fail
        go_ret
        exact ⟨by rw [HT.out]; rfl, q, rfl⟩
  · have HN : Box (decide (l = m) = false) := ⟨by
      rw [decide_eq_false_iff_not]
      intro h; exact hl (by rw [h])⟩
    clear HU HV
    generalize l.length = n at *
    generalize m.length = n' at *
    have hb : ((n : Int) != (n' : Int)) = true := by rw [bne_iff_ne]; omega
    go_enter Try.func18, Try.ntmps18
    go_wp2_with fail
    go_ret
    exact ⟨by rw [HN.out]; rfl, 0, rfl⟩

/-- law 20's kind, of the errors that it asks for. -/
theorem kind20 (a : Int) (h : a = 0 ∨ a = 1 ∨ a = 2 ∨ a = 18) (w : World) :
    Calls Try.prog 21 #[errV a] w fun e w' => e = .returned (.int .i64 a) ∧ Keeps (fun _ => False) w w' := by
  rcases h with rfl | rfl | rfl | rfl
  · show Calls Try.prog 21 #[.nilIface] w _
    go_enter Try.func21, Try.ntmps21
    go_wp2
    go_ret
    exact ⟨rfl, Keeps.refl _ _⟩
  · show Calls Try.prog 21 #[.iface 40 (.int .i64 1)] w _
    go_enter Try.func21, Try.ntmps21
    go_wp2_with fail
    refine wp_loop_rounds 1 ?_
    rw [rounds_succ]
    go_wp2_with (go_at_call 20; refine (is_kind _ _ _).mono ?_; rintro e w' ⟨rfl, rfl⟩)
    go_ret
    exact ⟨rfl, (Keeps.refl _ _).alloc _⟩
  · show Calls Try.prog 21 #[.iface 40 (.int .i64 2)] w _
    go_enter Try.func21, Try.ntmps21
    go_wp2_with fail
    refine wp_loop_rounds 2 ?_
    rw [rounds_succ]
    go_wp2_with (go_at_call 20; refine (is_kind _ _ _).mono ?_; rintro e w' ⟨rfl, rfl⟩)
    rw [rounds_succ]
    go_wp2_with (go_at_call 20; refine (is_kind _ _ _).mono ?_; rintro e w' ⟨rfl, rfl⟩)
    go_ret
    exact ⟨rfl, (Keeps.refl _ _).alloc _⟩
  · show Calls Try.prog 21 #[.iface 40 (.int .i64 18)] w _
    go_enter Try.func21, Try.ntmps21
    go_wp2_with fail
    refine wp_loop_rounds 3 ?_
    rw [rounds_succ]
    go_wp2_with (go_at_call 20; refine (is_kind _ _ _).mono ?_; rintro e w' ⟨rfl, rfl⟩)
    rw [rounds_succ]
    go_wp2_with (go_at_call 20; refine (is_kind _ _ _).mono ?_; rintro e w' ⟨rfl, rfl⟩)
    rw [rounds_succ]
    go_wp2_with (go_at_call 20; refine (is_kind _ _ _).mono ?_; rintro e w' ⟨rfl, rfl⟩)
    go_ret
    exact ⟨rfl, (Keeps.refl _ _).alloc _⟩
theorem kind20_nil (w : World) : Calls Try.prog 21 #[.nilIface] w fun e w' => e = .returned (.int .i64 0) ∧ Keeps (fun _ => False) w w' := kind20 0 (by omega) w
theorem kind20_err (a : Int) (h : a = 1 ∨ a = 2 ∨ a = 18) (w : World) : Calls Try.prog 21 #[.iface 40 (.int .i64 a)] w fun e w' => e = .returned (.int .i64 a) ∧ Keeps (fun _ => False) w w' := by
  have := kind20 a (by omega) w
  unfold errV at this
  rwa [if_neg (by omega)] at this

end Go.Proofs.Ytljmfiegkefpoaa
