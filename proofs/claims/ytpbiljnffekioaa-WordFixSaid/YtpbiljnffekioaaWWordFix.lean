/- WordFix: each number within the bounds is a word of its own; all others are refused. -/
import Derived.Test.YtpbiljnffekioaaWord2
namespace Go.Proofs.Ytpbiljnffekioaa
set_option linter.unusedVariables false
set_option linter.unusedSimpArgs false
open Go.RowKit

theorem wkind_put0 (n : Int) : wkind (wput 0 n) = 1 := by unfold wkind; rw [wput_tag (by omega) (by omega)]; simp
theorem wvalue_put0 {n : Int} (h0 : -1152921504606846976 ≤ n) (h1 : n < 1152921504606846976) : wvalue (wput 0 n) = n := by
  unfold wvalue; rw [wkind_put0, wput_num (by omega) (by omega) h0 h1]; simp

set_option maxRecDepth 100000 in
theorem WordFix_walk (n : Int) (w : World) (hn : (Lit.int .i64 n).wf = true) :
    Calls Try.prog 4 #[.int .i64 n] w fun e w' => e = .returned (.bool true) ∧ Below w.heap.size w w' := by
  clear hn
  by_cases h : -1152921504606846976 ≤ n ∧ n < 1152921504606846976
  · have hw := whole_is n w
    rw [show decide (-1152921504606846976 ≤ n ∧ n < 1152921504606846976) = true by simp; omega] at hw
    have HW := Box.mk hw
    obtain ⟨h0, h1⟩ := h
    have hk := kind_is (wput 0 n) w (wput_w (by omega) (by omega))
    have hv := value_is (wput 0 n) w (wput_w (by omega) (by omega))
    rw [wkind_put0] at hk
    rw [wvalue_put0 h0 h1] at hv
    have HK := Box.mk hk
    have HV := Box.mk hv
    have h3 : wput 0 n ≠ 3 := by unfold wput; omega
    have ht := true_is (wput 0 n) w
    rw [show (wput 0 n != 3) = true by simp [h3]] at ht
    have HT := Box.mk ht
    have HF := Box.mk (fix_yes n w (by omega) (by omega))
    have HM := Box.mk (rmake_is 0 n w (by omega) (by omega))
    clear hk hv ht h3 hw h0 h1
    generalize wput 0 n = x at *
    go_enter Try.func4, Try.ntmps4
    go_wp2_with (first
      | (go_at_call 14; refine HF.out.mono ?_; rintro e w' ⟨rfl, rfl⟩)
      | (go_at_call 15; refine HW.out.mono ?_; rintro e w' ⟨rfl, rfl⟩)
      | (go_at_call 9; refine HM.out.mono ?_; rintro e w' ⟨rfl, rfl⟩)
      | (go_at_call 10; refine HK.out.mono ?_; rintro e w' ⟨rfl, rfl⟩)
      | (go_at_call 13; refine HV.out.mono ?_; rintro e w' ⟨rfl, rfl⟩)
      | (go_at_call 17; refine HT.out.mono ?_; rintro e w' ⟨rfl, rfl⟩)
      | (go_at_call 11; refine (awake01 _).mono ?_; rintro e w' ⟨rfl, rfl⟩))
    go_ret
    exact ⟨rfl, Below.refl _ _⟩
  · have hw := whole_is n w
    rw [show decide (-1152921504606846976 ≤ n ∧ n < 1152921504606846976) = false by simp; omega] at hw
    have HW := Box.mk hw
    have HF := Box.mk (fix_no n w (by omega))
    clear hw h
    go_enter Try.func4, Try.ntmps4
    go_wp2_with (first
      | (go_at_call 14; refine HF.out.mono ?_; rintro e w' ⟨rfl, rfl⟩)
      | (go_at_call 15; refine HW.out.mono ?_; rintro e w' ⟨rfl, rfl⟩)
      | (go_at_call 16; refine (is_kind _ _ _).mono ?_; rintro e w' ⟨rfl, rfl⟩)
      | (go_at_call 11; refine (awake01 _).mono ?_; rintro e w' ⟨rfl, rfl⟩))
    go_ret
    exact ⟨rfl, Below.refl _ _⟩

end Go.Proofs.Ytpbiljnffekioaa
