/- A heap that is none: each of its doings, by contract. -/
import Derived.Test.YtbjlapfcnldpoaaTAwk
namespace Go.Proofs.Ytbjlapfcnldpoaa
set_option linter.unusedVariables false
set_option linter.unusedSimpArgs false
open Go.RowKit

theorem incr_nil (n : Int) (w : World) : Calls Try.prog 18 #[.pointer none, .int .i64 n] w fun e w' => e = .returned (.tuple #[]) ∧ w' = w := by
  go_enter Try.func18, Try.ntmps18
  go_wp2_with fail
  exact bodyPost_ret (results_none rfl _ _ _) rfl ⟨rfl, rfl⟩
set_option maxRecDepth 100000 in
theorem alloc_nil (w : World) : Calls Try.prog 21 #[.pointer none, .int .i64 1, .int .i64 0, .int .i64 1] w fun e w' => e = .returned (.tuple #[.int .u64 0, .iface 97 (.int .i64 1)]) ∧ Keeps (fun _ => False) w w' := by
  go_enter Try.func21, Try.ntmps21
  go_wp2_with fail
  refine (cls_is 1 _ (by decide)).mono ?_
  rintro e w1 ⟨rfl, k1⟩
  have K1 := Box.mk k1
  clear k1
  go_wp2_with fail
  go_ret2
  exact ⟨rfl, K1.out⟩
set_option maxRecDepth 100000 in
theorem field_nil (x i : Int) (w : World) : Calls Try.prog 78 #[.pointer none, .int .u64 x, .int .i64 i] w fun e w' => e = .returned (.tuple #[.int .i64 0, .agg #[.int .i64 0, .int .i64 0, .int .i64 0, .int .i64 0], .iface 97 (.int .i64 1)]) ∧ Keeps (fun _ => False) w w' := by
  go_enter Try.func78, Try.ntmps78
  go_wp2_with fail
  have hh := heap_alloc_new w (.cells #[.int .i64 0, .int .i64 0, .int .i64 0, .int .i64 0] 110)
  have c0 := cell_of_heap hh 0
  have c1 := cell_of_heap hh 1
  have c2 := cell_of_heap hh 2
  have c3 := cell_of_heap hh 3
  simp only [List.getElem?_toArray, List.getElem?_cons_zero, List.getElem?_cons_succ] at c0 c1 c2 c3
  exact bodyPost_ret (v := .tuple #[.int .i64 0, .agg #[.int .i64 0, .int .i64 0, .int .i64 0, .int .i64 0], .iface 97 (.int .i64 1)]) (by simp [results, Try.results78, go_sem, c0, c1, c2, c3]) rfl ⟨rfl, (Keeps.refl _ _).alloc _⟩
set_option maxRecDepth 100000 in
theorem get_nil_t (x i : Int) (w : World) : Calls Try.prog 23 #[.pointer none, .int .u64 x, .int .i64 i] w fun e w' => e = .returned (.tuple #[.int .u64 0, .iface 97 (.int .i64 1)]) ∧ Keeps (fun _ => False) w w' := by
  go_enter Try.func23, Try.ntmps23
  go_wp2_with fail
  refine (field_nil x i _).mono ?_
  rintro e w1 ⟨rfl, k1⟩
  have K1 := Box.mk (k1.alloc (.cells #[.int .i64 0, .int .i64 0, .int .i64 0, .int .i64 0] 110))
  clear k1
  go_wp2_with fail
  go_ret2
  exact ⟨rfl, K1.out⟩
set_option maxRecDepth 100000 in
theorem set_nil_t (x i v : Int) (w : World) : Calls Try.prog 25 #[.pointer none, .int .u64 x, .int .i64 i, .int .u64 v] w fun e w' => e = .returned (.iface 97 (.int .i64 1)) ∧ Keeps (fun _ => False) w w' := by
  go_enter Try.func25, Try.ntmps25
  go_wp2_with fail
  refine (field_nil x i _).mono ?_
  rintro e w1 ⟨rfl, k1⟩
  have K1 := Box.mk (k1.alloc (.cells #[.int .i64 0, .int .i64 0, .int .i64 0, .int .i64 0] 110))
  clear k1
  go_wp2_with fail
  go_ret
  exact ⟨rfl, K1.out⟩
theorem marking_nil (w : World) : Calls Try.prog 33 #[.pointer none] w fun e w' => e = .returned (.bool false) ∧ w' = w := by
  go_enter Try.func33, Try.ntmps33
  go_wp2_with fail
  go_ret
  exact ⟨rfl, rfl⟩
theorem cycles_nil (w : World) : Calls Try.prog 34 #[.pointer none] w fun e w' => e = .returned (.int .i64 0) ∧ w' = w := by
  go_enter Try.func34, Try.ntmps34
  go_wp2_with fail
  go_ret
  exact ⟨rfl, rfl⟩
theorem work_nil (w : World) : Calls Try.prog 38 #[.pointer none] w fun e w' => e = .returned (.int .i64 0) ∧ w' = w := by
  go_enter Try.func38, Try.ntmps38
  go_wp2_with fail
  go_ret
  exact ⟨rfl, rfl⟩

end Go.Proofs.Ytbjlapfcnldpoaa
