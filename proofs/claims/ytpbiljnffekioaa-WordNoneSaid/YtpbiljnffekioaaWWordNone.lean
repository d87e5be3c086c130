/- WordNone: bits that are no word have no kind and no number, whatever stands in them. -/
import Derived.Test.YtpbiljnffekioaaWord2
namespace Go.Proofs.Ytpbiljnffekioaa
set_option linter.unusedVariables false
set_option linter.unusedSimpArgs false
open Go.RowKit

theorem wput_seven {n : Int} : wkind (wput 7 n) = 0 := by unfold wkind; rw [wput_tag (by omega) (by omega)]; simp [wmost]; omega

set_option maxRecDepth 100000 in
theorem WordNone_walk (n t : Int) (w : World) (hn : (Lit.int .i64 n).wf = true) (ht : (Lit.int .i64 t).wf = true) :
    Calls Try.prog 3 #[.int .i64 n, .int .i64 t] w fun e w' => e = .returned (.bool true) ∧ Below w.heap.size w w' := by
  clear hn ht
  have hb := umod_bd t 8 (by omega) (by omega)
  go_enter Try.func3, Try.ntmps3
  go_wp2_with fail
  generalize wrap64 ((IntKind.u64.wrap t).tmod 8) = m at hb ⊢
  generalize IntKind.u64.wrap t = n1
  generalize n1.tmod 8 = n2
  obtain ⟨h0, h8⟩ := hb
  refine (rmake_is m n _ h0 (by omega)).mono ?_
  rintro e w' ⟨rfl, rfl⟩
  have hw := wput_w (n := n) h0 (show m ≤ 7 by omega)
  have HK := Box.mk (kind_is _ w' hw)
  have HR := Box.mk (rkind_is _ w' hw)
  have hv := value_is _ w' hw
  have h7 : m = 7 → wkind (wput m n) = 0 := fun h => h ▸ wput_seven
  by_cases hk : wkind (wput m n) = 0
  · rw [hk] at HK HR
    rw [show wvalue (wput m n) = 0 by unfold wvalue; rw [if_pos hk]] at hv
    have HV := Box.mk hv
    clear hk h7 hv hw
    generalize wput m n = x at *
    go_wp2_with (first
      | (go_at_call 12; refine HR.out.mono ?_; rintro e w' ⟨rfl, rfl⟩)
      | (go_at_call 10; refine HK.out.mono ?_; rintro e w' ⟨rfl, rfl⟩)
      | (go_at_call 13; refine HV.out.mono ?_; rintro e w' ⟨rfl, rfl⟩)
      | (go_at_call 11; refine (awake01 _).mono ?_; rintro e w' ⟨rfl, rfl⟩))
    all_goals
      go_ret
      exact ⟨by simp, Below.refl _ _⟩
  · have hm : m < 7 := by
      rcases Int.lt_or_le m 7 with h | h
      · exact h
      · exact absurd (h7 (by omega)) hk
    clear h7 hv hw
    generalize wkind (wput m n) = k at *
    generalize wput m n = x at *
    have hkb : (k == 0) = false := by simp [hk]
    have hkn : (k != 0) = true := by simp [hk]
    clear hk
    go_wp2_with (first
      | (go_at_call 12; refine HR.out.mono ?_; rintro e w' ⟨rfl, rfl⟩)
      | (go_at_call 10; refine HK.out.mono ?_; rintro e w' ⟨rfl, rfl⟩)
      | (go_at_call 11; refine (awake01 _).mono ?_; rintro e w' ⟨rfl, rfl⟩))
    go_ret
    exact ⟨by simp; try omega, Below.refl _ _⟩

end Go.Proofs.Ytpbiljnffekioaa
