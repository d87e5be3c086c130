/- What Stacks leaves, as laws ask for it; a stack [0] held against [0]. -/
import Derived.Test.YtiimojpaeccajaaGreatDoorPr2
import Derived.Test.YtiimojpaeccajaaGreatDoorStacks
namespace Go.Proofs.YtiimojpaeccajaaGreatDoor
set_option linter.unusedVariables false
set_option linter.unusedSimpArgs false
open Go.RowKit Go.Proofs.YtiimojpaeccajaaGreatDoorW.PrintWords Go.Proofs.YtiimojpaeccajaaGreatDoorW.PrintLast Go.Proofs.YtiimojpaeccajaaGreatDoorW.PrintMore

/-- What Stacks leaves, as it is asked for. -/
structure StOut (w : World) (sb n : Nat) (S : Nat → Option (List Int)) (R : Nat → Nat × Nat) : Prop where
  lt : sb < w.heap.size
  slot : ∀ i, i < n → w.cell? ⟨sb, i, none⟩ = some (match S i with | none => .slice none 0 0 | some s => .slice (some ⟨(R i).1, 0, none⟩) s.length (R i).2)
  row : ∀ i s, S i = some s → s.length ≤ (R i).2 ∧ ∀ j, j < s.length → w.cell? ⟨(R i).1, 0 + j, none⟩ = some (.int .i64 (s.getD j 0))
theorem StOut.below {w w' : World} {sb n : Nat} {S : Nat → Option (List Int)} {R : Nat → Nat × Nat} (h : StOut w sb n S R) (k : Below w.heap.size w w') : StOut w' sb n S R :=
  ⟨Nat.lt_of_lt_of_le h.lt k.size, fun i hi => cell_below (h.slot i hi) k, fun i s hs => ⟨(h.row i s hs).1, fun j hj => cell_below ((h.row i s hs).2 j hj) k⟩⟩
theorem LkM.out {T : TypeId} {w : World} {B kb sb n : Nat} {lv : Value} {S : Nat → Option (List Int)} {R : Nat → Nat × Nat} {td : List Nat} {tv : Value} {bad : Bool} (h : LkM T w B kb sb lv n S R td tv bad) : StOut w sb n S R := by
  obtain ⟨cs, h1, _⟩ := h.stk
  exact ⟨lt_of_heap h1, fun i hi => h.slot hi, fun i s hs => ⟨own_cap (h.row i s hs).1, fun j hj => by rw [Nat.zero_add]; exact ownI_cell (h.row i s hs).1 hj⟩⟩

/-- [0], freshly laid. -/
theorem lit0_cell (w : World) (T : TypeId) (j : Nat) (hj : j < [(0 : Int)].length) : (w.alloc (.cells #[.int .i64 0] T)).cell? ⟨w.heap.size, 0 + j, none⟩ = some (.int .i64 ([(0 : Int)].getD j 0)) := by
  rw [Nat.zero_add, cell_of_heap (heap_alloc_new w _)]
  have : j = 0 := by simp at hj; omega
  subst this; rfl
/-- A stack [0] held against [0]. -/
theorem same0 {w : World} {b1 c1 a : Nat} (ha : a = w.heap.size) (h : [(0 : Int)].length ≤ c1 ∧ ∀ j, j < [(0 : Int)].length → w.cell? ⟨b1, 0 + j, none⟩ = some (.int .i64 ([(0 : Int)].getD j 0))) :
    Calls Tryz.prog 20 #[.slice (some ⟨b1, 0, none⟩) 1 c1, .slice (some ⟨a, 0, none⟩) 1 1] (w.alloc (.cells #[.int .i64 0] 3)) fun e w' => e = .returned (.bool true) ∧ Below w.heap.size w w' := by
  subst ha
  have hA : Below w.heap.size w (w.alloc (.cells #[.int .i64 0] 3)) := (Below.refl _ w).alloc (Nat.le_refl _) _
  refine (same_is [0] [0] (by decide) (by decide) (fun j hj => cell_below (h.2 j hj) hA) (lit0_cell w _) h.1 (by decide)).mono ?_
  rintro e w' ⟨rfl, k⟩
  exact ⟨by rw [decide_eq_true (rfl : [(0 : Int)] = [0])], hA.trans (k.mono hA.size)⟩

end Go.Proofs.YtiimojpaeccajaaGreatDoor
