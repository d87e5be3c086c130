/- QueueNil's walk: a queue that is none has no events. -/
import Derived.Test.YtljmfiegkefpoaaQRead
namespace Go.Proofs.Ytljmfiegkefpoaa
set_option linter.unusedVariables false
set_option linter.unusedSimpArgs false
open Go.RowKit

set_option maxRecDepth 100000 in
set_option maxHeartbeats 1000000 in
theorem QueueNil_walk (v : Value) (w : World) (hv : Reads Try.prog w 27 v) :
    Calls Try.prog 6 #[v] w fun e w' => e = .returned (.bool true) ∧ Below w.heap.size w w' := by
  obtain ⟨k, n, rfl⟩ := event_of_reads hv
  clear hv
  go_enter Try.func6, Try.ntmps6
  go_wp2_with fail
  refine (pop_nil _).mono ?_
  rintro e w1 ⟨rfl, k1⟩
  have K1 := Box.mk (show Keeps (fun _ => False) w w1 from k1.unalloc)
  have c0 : w1.cell? ⟨w.heap.size, 0, none⟩ = some (.int .i64 k) := k1.cell (by simp) (fun h => h)
  have c1 : w1.cell? ⟨w.heap.size, 1, none⟩ = some (.int .i64 n) := k1.cell (by simp) (fun h => h)
  have hlt : w.heap.size < w1.heap.size := by have := k1.size; simp at this; omega
  clear k1
  go_wp2_with fail
  refine (awake20 _).mono ?_
  rintro e w2 ⟨rfl, k2⟩
  have K2 := Box.mk (K1.out.trans (show Keeps (fun _ => False) w1 w2 from k2.unalloc))
  have d0 : w2.cell? ⟨w1.heap.size, 0, none⟩ = some (.int .i64 0) := k2.cell (by simp) (fun h => h)
  have d1 : w2.cell? ⟨w1.heap.size, 1, none⟩ = some (.int .i64 0) := k2.cell (by simp) (fun h => h)
  have e0 : w2.cell? ⟨w.heap.size, 0, none⟩ = some (.int .i64 k) := (show Keeps (fun _ => False) w1 w2 from k2.unalloc).cell c0 (fun h => h)
  have e1 : w2.cell? ⟨w.heap.size, 1, none⟩ = some (.int .i64 n) := (show Keeps (fun _ => False) w1 w2 from k2.unalloc).cell c1 (fun h => h)
  clear k2 c0 c1 K1
  go_wp2_with fail
  refine (push_nil _ _ _).mono ?_
  rintro e w3 ⟨rfl, k3⟩
  have K3 := Box.mk (K2.out.trans k3)
  have D0 := Box.mk (And.intro (k3.cell d0 (fun h => h)) (And.intro (k3.cell d1 (fun h => h)) (And.intro (k3.cell e0 (fun h => h)) (k3.cell e1 (fun h => h)))))
  clear k3 d0 d1 e0 e1 K2
  go_wp2_with fail
  refine (kind20_err 1 (by omega) _).mono ?_
  rintro e w4 ⟨rfl, k4⟩
  have K4 := Box.mk (K3.out.trans k4)
  obtain ⟨x0, x1, x2, x3⟩ := D0.out
  have d0 := k4.cell x0 (fun h => h)
  have d1 := k4.cell x1 (fun h => h)
  have e0 := k4.cell x2 (fun h => h)
  have e1 := k4.cell x3 (fun h => h)
  clear k4 x0 x1 x2 x3 D0 K3
  go_wp2_with (first
    | (go_at_call 17; refine (drop_nil _ _).mono ?_; rintro e w' ⟨rfl, rfl⟩)
    | (go_at_call 15; refine (all_nil _).mono ?_; rintro e w' ⟨rfl, rfl⟩)
    | (go_at_call 16; refine (qlen_nil _).mono ?_; rintro e w' ⟨rfl, rfl⟩)
    | (go_at_call 25; refine (qcopy_nil _).mono ?_; rintro e w' ⟨rfl, rfl⟩))
  go_ret
  exact ⟨rfl, K4.out.below (Nat.le_refl _) (fun _ h => h.elim)⟩

end Go.Proofs.Ytljmfiegkefpoaa
