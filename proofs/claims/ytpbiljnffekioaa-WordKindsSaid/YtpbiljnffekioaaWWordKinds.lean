/- WordKinds: any bits are a word of the kind, and with the number, that the document says, or none. -/
import Derived.Test.YtpbiljnffekioaaWord2
namespace Go.Proofs.Ytpbiljnffekioaa
set_option linter.unusedVariables false
set_option linter.unusedSimpArgs false
open Go.RowKit

set_option maxRecDepth 100000 in
theorem WordKinds_walk (n : Int) (w : World) (hn : (Lit.int .u64 n).wf = true) :
    Calls Try.prog 5 #[.int .u64 n] w fun e w' => e = .returned (.bool true) ∧ Below w.heap.size w w' := by
  have hw := isW_wf hn
  have HK := Box.mk (kind_is n w hw)
  have HR := Box.mk (rkind_is n w hw)
  have HV := Box.mk (value_is n w hw)
  have HS := Box.mk (rvalue_is n w hw)
  have HM := Box.mk (rmake_is 3 0 w (by omega) (by omega))
  rw [show wput 3 0 = 3 from rfl] at HM
  clear hn hw
  generalize wkind n = k at *
  generalize wvalue n = v at *
  go_enter Try.func5, Try.ntmps5
  go_wp2_with (first
    | (go_at_call 12; refine HR.out.mono ?_; rintro e w' ⟨rfl, rfl⟩)
    | (go_at_call 18; refine HS.out.mono ?_; rintro e w' ⟨rfl, rfl⟩)
    | (go_at_call 9; refine HM.out.mono ?_; rintro e w' ⟨rfl, rfl⟩)
    | (go_at_call 10; refine HK.out.mono ?_; rintro e w' ⟨rfl, rfl⟩)
    | (go_at_call 13; refine HV.out.mono ?_; rintro e w' ⟨rfl, rfl⟩)
    | (go_at_call 17; refine (true_is _ _).mono ?_; rintro e w' ⟨rfl, rfl⟩)
    | (go_at_call 11; refine (awake01 _).mono ?_; rintro e w' ⟨rfl, rfl⟩))
  go_ret
  exact ⟨by simp, Below.refl _ _⟩

end Go.Proofs.Ytpbiljnffekioaa
