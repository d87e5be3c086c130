/- StoreNil's walk: a store that is none has no words. -/
import Derived.Test.YtlbmknnpglandaaStore3
namespace Go.Proofs.Ytlbmknnpglandaa
set_option linter.unusedVariables false
set_option linter.unusedSimpArgs false
open Go.RowKit

theorem StoreNil_walk (i v : Int) (w : World) (hi : (Lit.int .i64 i).wf = true) (hv : (Lit.int .u64 v).wf = true) :
    Calls Try.prog 6 #[.int .i64 i, .int .u64 v] w fun e w' => e = .returned (.bool true) ∧ Below w.heap.size w w' := by
  clear hi hv
  go_enter Try.func6, Try.ntmps6
  go_wp2_with fail
  refine (get_nil _ _).mono ?_
  rintro e w1 ⟨rfl, rfl⟩
  go_wp2_with fail
  refine (awake03 _).mono ?_
  rintro e w2 ⟨rfl, k2⟩
  have K2 := Box.mk k2
  clear k2
  go_wp2_with fail
  refine (kind03 1 (by omega) _).mono ?_
  rintro e w3 ⟨rfl, k3⟩
  have K3 := Box.mk (K2.out.trans k3)
  clear k3 K2
  go_wp2_with fail
  refine (set_nil _ _ _).mono ?_
  rintro e w4 ⟨rfl, rfl⟩
  go_wp2_with fail
  refine (kind03 1 (by omega) _).mono ?_
  rintro e w5 ⟨rfl, k5⟩
  have K5 := Box.mk (K3.out.trans k5)
  clear k5 K3
  go_wp2_with (first
    | (go_at_call 16; refine (count_nil _).mono ?_; rintro e w' ⟨rfl, rfl⟩)
    | (go_at_call 20; refine (copy_nil _).mono ?_; rintro e w' ⟨rfl, rfl⟩)
    | (go_at_call 21; refine (size_nil _).mono ?_; rintro e w' ⟨rfl, rfl⟩))
  go_ret
  exact ⟨rfl, K5.out.below (Nat.le_refl _) (fun _ h => h.elim)⟩

end Go.Proofs.Ytlbmknnpglandaa
