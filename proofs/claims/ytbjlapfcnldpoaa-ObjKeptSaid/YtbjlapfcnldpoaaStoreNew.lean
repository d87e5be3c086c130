/- A new store. -/
import Derived.Test.YtbjlapfcnldpoaaStore
namespace Go.Proofs.Ytbjlapfcnldpoaa
set_option linter.unusedVariables false
set_option linter.unusedSimpArgs false
open Go.RowKit

theorem info_u64 : (Try.prog.info? 30).map (fun i => (i.zero, i.size, i.bytes)) = some (some (.int .u64 0), 1, 8) := by kernel_rfl

theorem new_bad (n : Int) (w : World) (h : n < 0 ∨ 1048576 < n) :
    Calls Try.prog 56 #[.int .i64 n] w fun e w' => e = .returned (.tuple #[.pointer none, .iface 97 (.int .i64 2)]) ∧ w' = w := by
  rcases h with h | h
  · go_enter Try.func56, Try.ntmps56
    go_wp2
    go_ret2
    exact ⟨rfl, rfl⟩
  · go_enter Try.func56, Try.ntmps56
    go_wp2
    go_ret2
    exact ⟨rfl, rfl⟩

theorem made_one (z : Value) (n : Nat) : madeCells #[z] n = (List.replicate n z).toArray := by
  rw [← toList_madeCells_one]

theorem new_world (n : Nat) (w : World) (hn : n ≤ 1048576) :
    IsStore ((w.alloc (.cells (madeCells #[.int .u64 0] n) 30)).alloc (.cells #[.slice (some ⟨w.heap.size, 0, none⟩) n n, .int .i64 0] 127))
      ⟨w.heap.size + 1, w.heap.size, n, List.replicate n 0, 0⟩ := by
  refine ⟨?_, ?_, by simp, by simpa using hn⟩
  · have := heap_alloc_new (w.alloc (.cells (madeCells #[.int .u64 0] n) 30)) (.cells #[.slice (some ⟨w.heap.size, 0, none⟩) n n, .int .i64 0] 127)
    simpa using this
  · have := World.ownsRow_lit (e := 30) (size := 1) (base := 0) w (madeCells #[.int .u64 0] n) n (Nat.zero_le _) (by unfold maxLen; omega) (by simp [size_madeCells])
    rw [toList_madeCells_one] at this
    simpa using this.alloc _

theorem new_ok (n : Int) (w : World) (h : 0 ≤ n) (h2 : n ≤ 1048576) :
    Calls Try.prog 56 #[.int .i64 n] w fun e w' => ∃ s : SSt, e = .returned (.tuple #[.pointer (some ⟨s.b, 0, none⟩), .nilIface]) ∧ IsStore w' s ∧ s.ws = List.replicate n.toNat 0 ∧ s.k = 0 ∧
      Keeps (fun _ => False) w w' ∧ w.heap.size ≤ s.b ∧ w.heap.size ≤ s.g := by
  obtain ⟨n, rfl⟩ := Int.eq_ofNat_of_zero_le h
  obtain ⟨i0, hi, hz0, hz1, hz2⟩ := info_parts info_u64
  have hmk := fun (w : World) => run_make (P := Try.prog) w 22 30 i0 (.int .u64 0) Try.underlying22 hi hz0 .i64 .i64 n n (by omega) (by omega) (by rw [hz2]; omega) (by omega)
  simp only [hz1, Nat.mul_one, Int.toNat_natCast, Value.cells] at hmk
  have hw := Box.mk (new_world n w (by omega))
  clear hi hz0 hz1 hz2
  go_enter Try.func56, Try.ntmps56
  go_wp2
  go_ret2
  refine ⟨⟨w.heap.size + 1, w.heap.size, n, List.replicate n 0, 0⟩, rfl, hw.out, rfl, rfl, ((Keeps.refl _ w).alloc _).alloc _, Nat.le_succ _, Nat.le_refl _⟩

end Go.Proofs.Ytbjlapfcnldpoaa
