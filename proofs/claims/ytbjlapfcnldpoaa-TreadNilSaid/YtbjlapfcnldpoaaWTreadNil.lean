/- TreadNil's walk: a heap that is none has no cells. -/
import Derived.Test.YtbjlapfcnldpoaaTNil
namespace Go.Proofs.Ytbjlapfcnldpoaa
set_option linter.unusedVariables false
set_option linter.unusedSimpArgs false
open Go.RowKit

set_option maxRecDepth 100000 in
set_option maxHeartbeats 2000000 in
theorem TreadNil_walk (n i x : Int) (w : World) (hn : (Lit.int .i64 n).wf = true) (hi : (Lit.int .i64 i).wf = true) (hx : (Lit.int .u64 x).wf = true) :
    Calls Try.prog 9 #[.int .i64 n, .int .i64 i, .int .u64 x] w fun e w' => e = .returned (.bool true) ∧ Below w.heap.size w w' := by
  clear hn hi hx
  have K := Box.mk (Keeps.refl (fun _ => False) w)
  go_enter Try.func9, Try.ntmps9
  go_wp2_with fail
  all_goals
    refine (incr_nil _ _).mono ?_
    rintro e w1 ⟨rfl, rfl⟩
    go_wp2_with fail
    refine (alloc_nil _).mono ?_
    rintro e w1 ⟨rfl, k1⟩
    have K1 := Box.mk (K.out.trans k1)
    clear K k1
    have K := K1
    clear K1
    go_wp2_with fail
    refine (get_nil_t _ _ _).mono ?_
    rintro e w1 ⟨rfl, k1⟩
    have K1 := Box.mk (K.out.trans k1)
    clear K k1
    have K := K1
    clear K1
    go_wp2_with fail
    refine (root_nil _ _).mono ?_
    rintro e w1 ⟨rfl, rfl⟩
    go_wp2_with fail
    refine (shape_nil _ _).mono ?_
    rintro e w1 ⟨rfl, rfl⟩
    go_wp2_with fail
    refine (awake05 _).mono ?_
    rintro e w1 ⟨rfl, k1⟩
    have K1 := Box.mk (K.out.trans k1)
    clear K k1
    have K := K1
    clear K1
    go_wp2_with fail
    refine (kind05_err 1 (by omega) _).mono ?_
    rintro e w1 ⟨rfl, k1⟩
    have K1 := Box.mk (K.out.trans k1)
    clear K k1
    have K := K1
    clear K1
    go_wp2_with fail
    refine (kind05_err 1 (by omega) _).mono ?_
    rintro e w1 ⟨rfl, k1⟩
    have K1 := Box.mk (K.out.trans k1)
    clear K k1
    have K := K1
    clear K1
    go_wp2_with fail
    refine (kind05_err 1 (by omega) _).mono ?_
    rintro e w1 ⟨rfl, k1⟩
    have K1 := Box.mk (K.out.trans k1)
    clear K k1
    have K := K1
    clear K1
    go_wp2_with fail
    refine (kind05_err 1 (by omega) _).mono ?_
    rintro e w1 ⟨rfl, k1⟩
    have K1 := Box.mk (K.out.trans k1)
    clear K k1
    have K := K1
    clear K1
    go_wp2_with fail
    refine (set_nil_t _ _ _ _).mono ?_
    rintro e w1 ⟨rfl, k1⟩
    have K1 := Box.mk (K.out.trans k1)
    clear K k1
    have K := K1
    clear K1
    go_wp2_with fail
    refine (kind05_err 1 (by omega) _).mono ?_
    rintro e w1 ⟨rfl, k1⟩
    have K1 := Box.mk (K.out.trans k1)
    clear K k1
    have K := K1
    clear K1
    go_wp2_with fail
    refine (setroot_nil _ _).mono ?_
    rintro e w1 ⟨rfl, rfl⟩
    go_wp2_with fail
    refine (kind05_err 1 (by omega) _).mono ?_
    rintro e w1 ⟨rfl, k1⟩
    have K1 := Box.mk (K.out.trans k1)
    clear K k1
    have K := K1
    clear K1
    go_wp2_with fail
    refine (marking_nil _).mono ?_
    rintro e w1 ⟨rfl, rfl⟩
    go_wp2_with fail
    refine (cycles_nil _).mono ?_
    rintro e w1 ⟨rfl, rfl⟩
    go_wp2_with fail
    refine (free_nil _).mono ?_
    rintro e w1 ⟨rfl, rfl⟩
    go_wp2_with fail
    refine (work_nil _).mono ?_
    rintro e w1 ⟨rfl, rfl⟩
    go_wp2_with fail
    go_ret
    exact ⟨rfl, K.out.below (Nat.le_refl _) (fun _ h => h.elim)⟩

end Go.Proofs.Ytbjlapfcnldpoaa
