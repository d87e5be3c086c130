/- fix.Text, code.word, show.Write of a number, code.text by their contracts. -/
import Derived.Test.YtiimojpaeccajaaGreatDoorMay
import Derived.Test.YtiimojpaeccajaaGreatDoorBld
import Derived.Test.YtiimojpaeccajaaGreatDoorShelf
import Derived.Lib.ItoaMem
import Derived.Lib.AppendIntMem
import Derived.Deep.RegionHeld3
namespace Go.Proofs.YtiimojpaeccajaaGreatDoor
set_option linter.unusedVariables false
set_option linter.unusedSimpArgs false
open Go.RowKit Go.Proofs.YtiimojpaeccajaaGreatDoorW.PrintWords Go.Proofs.YtiimojpaeccajaaGreatDoorW.PrintLast Go.Proofs.YtiimojpaeccajaaGreatDoorW.PrintMore

/-- A number whose numeral can be made: a small one, or the library's table is as it is laid. -/
def NumOk (w : World) (n : Int) : Prop := (0 ≤ n ∧ n < 100) ∨ (-9223372036854775808 ≤ n ∧ n ≤ 9223372036854775807 ∧ Lib.TabIs Tryz.prog w "internal/strconv.uint64pow10" .u64 Lib.pow10Tab)
theorem NumOk.below {w w' : World} {n : Int} (h : NumOk w n) (k : Below w.heap.size w w') : NumOk w' n := by
  rcases h with h | ⟨h1, h2, h3⟩
  · exact .inl h
  · refine .inr ⟨h1, h2, ?_⟩
    unfold Lib.TabIs World.var? at *
    cases hg : Tryz.prog.globalNamed "internal/strconv.uint64pow10" with
    | none => rw [hg] at h3; cases h3
    | some g =>
      rw [hg] at h3
      simp only [Option.bind_some] at h3 ⊢
      cases hh : w.heap[g]? with
      | none => rw [hh] at h3; cases h3
      | some o => rw [k.block g (lt_of_heap hh)]; exact h3

/-- The numeral of n. -/
def numL (n : Int) : List UInt8 := Lib.itoa n
theorem itoa_is (n : Int) (w : World) (h : NumOk w n) : Calls Tryz.prog 74 #[.int .i64 n] w fun e w' => e = .returned (.string ⟨(numL n).toArray⟩) ∧ Below w.heap.size w w' := by
  rcases h with ⟨h1, h2⟩ | ⟨h1, h2, h3⟩
  · obtain ⟨i, rfl⟩ : ∃ i : Nat, n = i := ⟨n.toNat, by omega⟩
    refine (Tryz.strconv_Itoa_small i (by omega) w).mono ?_
    rintro e w' ⟨rfl, rfl⟩
    exact ⟨by rw [numL, Lib.itoa_nonneg], Below.refl _ _⟩
  · refine (Tryz.strconv_Itoa n h1 h2 w h3).mono ?_
    rintro e w' ⟨rfl, k, os, rfl⟩
    exact ⟨rfl, Lib.below_grow _ w (Nat.le_refl _) k os⟩

set_option maxRecDepth 100000 in
theorem fixText_is (n : Int) (w : World) (h : NumOk w n) : Calls Tryz.prog 43 #[.int .i64 n] w fun e w' => e = .returned (.string ⟨(numL n).toArray⟩) ∧ Below w.heap.size w w' := by
  go_enter Tryz.func43, Tryz.ntmps43
  go_wp2_with fail
  refine (itoa_is n w h).mono ?_
  rintro e w1 ⟨rfl, k1⟩
  go_wp2_with fail
  go_ret
  exact ⟨rfl, k1⟩

/-- An operation's word. -/
def wordA : Nat → Array UInt8
  | 1 => #[99, 111, 110, 115, 116]
  | 2 => #[108, 111, 99, 97, 108]
  | 3 => #[103, 108, 111, 98, 97, 108]
  | 4 => #[115, 101, 116]
  | 5 => #[97, 115, 115, 105, 103, 110]
  | 6 => #[100, 101, 102, 105, 110, 101]
  | 7 => #[117, 110, 108, 101, 115, 115]
  | 8 => #[106, 117, 109, 112]
  | 9 => #[99, 108, 111, 115, 117, 114, 101]
  | 10 => #[102, 114, 97, 109, 101]
  | 11 => #[112, 117, 115, 104]
  | 12 => #[99, 97, 108, 108]
  | 13 => #[116, 97, 105, 108]
  | 14 => #[114, 101, 116, 117, 114, 110]
  | _ => #[]
def wordsV : Array Value := #[.string ⟨#[]⟩, .string ⟨#[99, 111, 110, 115, 116]⟩, .string ⟨#[108, 111, 99, 97, 108]⟩, .string ⟨#[103, 108, 111, 98, 97, 108]⟩, .string ⟨#[115, 101, 116]⟩, .string ⟨#[97, 115, 115, 105, 103, 110]⟩, .string ⟨#[100, 101, 102, 105, 110, 101]⟩, .string ⟨#[117, 110, 108, 101, 115, 115]⟩, .string ⟨#[106, 117, 109, 112]⟩, .string ⟨#[99, 108, 111, 115, 117, 114, 101]⟩, .string ⟨#[102, 114, 97, 109, 101]⟩, .string ⟨#[112, 117, 115, 104]⟩, .string ⟨#[99, 97, 108, 108]⟩, .string ⟨#[116, 97, 105, 108]⟩, .string ⟨#[114, 101, 116, 117, 114, 110]⟩]
theorem wix_0 (w : World) : (Instr.index 110 (.agg #[.string ⟨#[]⟩, .string ⟨#[99, 111, 110, 115, 116]⟩, .string ⟨#[108, 111, 99, 97, 108]⟩, .string ⟨#[103, 108, 111, 98, 97, 108]⟩, .string ⟨#[115, 101, 116]⟩, .string ⟨#[97, 115, 115, 105, 103, 110]⟩, .string ⟨#[100, 101, 102, 105, 110, 101]⟩, .string ⟨#[117, 110, 108, 101, 115, 115]⟩, .string ⟨#[106, 117, 109, 112]⟩, .string ⟨#[99, 108, 111, 115, 117, 114, 101]⟩, .string ⟨#[102, 114, 97, 109, 101]⟩, .string ⟨#[112, 117, 115, 104]⟩, .string ⟨#[99, 97, 108, 108]⟩, .string ⟨#[116, 97, 105, 108]⟩, .string ⟨#[114, 101, 116, 117, 114, 110]⟩]) (.int .i64 0)).run Tryz.prog w = .ok (.string ⟨#[]⟩) w := by kernel_rfl
theorem wix_1 (w : World) : (Instr.index 110 (.agg #[.string ⟨#[]⟩, .string ⟨#[99, 111, 110, 115, 116]⟩, .string ⟨#[108, 111, 99, 97, 108]⟩, .string ⟨#[103, 108, 111, 98, 97, 108]⟩, .string ⟨#[115, 101, 116]⟩, .string ⟨#[97, 115, 115, 105, 103, 110]⟩, .string ⟨#[100, 101, 102, 105, 110, 101]⟩, .string ⟨#[117, 110, 108, 101, 115, 115]⟩, .string ⟨#[106, 117, 109, 112]⟩, .string ⟨#[99, 108, 111, 115, 117, 114, 101]⟩, .string ⟨#[102, 114, 97, 109, 101]⟩, .string ⟨#[112, 117, 115, 104]⟩, .string ⟨#[99, 97, 108, 108]⟩, .string ⟨#[116, 97, 105, 108]⟩, .string ⟨#[114, 101, 116, 117, 114, 110]⟩]) (.int .i64 1)).run Tryz.prog w = .ok (.string ⟨#[99, 111, 110, 115, 116]⟩) w := by kernel_rfl
theorem wix_2 (w : World) : (Instr.index 110 (.agg #[.string ⟨#[]⟩, .string ⟨#[99, 111, 110, 115, 116]⟩, .string ⟨#[108, 111, 99, 97, 108]⟩, .string ⟨#[103, 108, 111, 98, 97, 108]⟩, .string ⟨#[115, 101, 116]⟩, .string ⟨#[97, 115, 115, 105, 103, 110]⟩, .string ⟨#[100, 101, 102, 105, 110, 101]⟩, .string ⟨#[117, 110, 108, 101, 115, 115]⟩, .string ⟨#[106, 117, 109, 112]⟩, .string ⟨#[99, 108, 111, 115, 117, 114, 101]⟩, .string ⟨#[102, 114, 97, 109, 101]⟩, .string ⟨#[112, 117, 115, 104]⟩, .string ⟨#[99, 97, 108, 108]⟩, .string ⟨#[116, 97, 105, 108]⟩, .string ⟨#[114, 101, 116, 117, 114, 110]⟩]) (.int .i64 2)).run Tryz.prog w = .ok (.string ⟨#[108, 111, 99, 97, 108]⟩) w := by kernel_rfl
theorem wix_3 (w : World) : (Instr.index 110 (.agg #[.string ⟨#[]⟩, .string ⟨#[99, 111, 110, 115, 116]⟩, .string ⟨#[108, 111, 99, 97, 108]⟩, .string ⟨#[103, 108, 111, 98, 97, 108]⟩, .string ⟨#[115, 101, 116]⟩, .string ⟨#[97, 115, 115, 105, 103, 110]⟩, .string ⟨#[100, 101, 102, 105, 110, 101]⟩, .string ⟨#[117, 110, 108, 101, 115, 115]⟩, .string ⟨#[106, 117, 109, 112]⟩, .string ⟨#[99, 108, 111, 115, 117, 114, 101]⟩, .string ⟨#[102, 114, 97, 109, 101]⟩, .string ⟨#[112, 117, 115, 104]⟩, .string ⟨#[99, 97, 108, 108]⟩, .string ⟨#[116, 97, 105, 108]⟩, .string ⟨#[114, 101, 116, 117, 114, 110]⟩]) (.int .i64 3)).run Tryz.prog w = .ok (.string ⟨#[103, 108, 111, 98, 97, 108]⟩) w := by kernel_rfl
theorem wix_4 (w : World) : (Instr.index 110 (.agg #[.string ⟨#[]⟩, .string ⟨#[99, 111, 110, 115, 116]⟩, .string ⟨#[108, 111, 99, 97, 108]⟩, .string ⟨#[103, 108, 111, 98, 97, 108]⟩, .string ⟨#[115, 101, 116]⟩, .string ⟨#[97, 115, 115, 105, 103, 110]⟩, .string ⟨#[100, 101, 102, 105, 110, 101]⟩, .string ⟨#[117, 110, 108, 101, 115, 115]⟩, .string ⟨#[106, 117, 109, 112]⟩, .string ⟨#[99, 108, 111, 115, 117, 114, 101]⟩, .string ⟨#[102, 114, 97, 109, 101]⟩, .string ⟨#[112, 117, 115, 104]⟩, .string ⟨#[99, 97, 108, 108]⟩, .string ⟨#[116, 97, 105, 108]⟩, .string ⟨#[114, 101, 116, 117, 114, 110]⟩]) (.int .i64 4)).run Tryz.prog w = .ok (.string ⟨#[115, 101, 116]⟩) w := by kernel_rfl
theorem wix_5 (w : World) : (Instr.index 110 (.agg #[.string ⟨#[]⟩, .string ⟨#[99, 111, 110, 115, 116]⟩, .string ⟨#[108, 111, 99, 97, 108]⟩, .string ⟨#[103, 108, 111, 98, 97, 108]⟩, .string ⟨#[115, 101, 116]⟩, .string ⟨#[97, 115, 115, 105, 103, 110]⟩, .string ⟨#[100, 101, 102, 105, 110, 101]⟩, .string ⟨#[117, 110, 108, 101, 115, 115]⟩, .string ⟨#[106, 117, 109, 112]⟩, .string ⟨#[99, 108, 111, 115, 117, 114, 101]⟩, .string ⟨#[102, 114, 97, 109, 101]⟩, .string ⟨#[112, 117, 115, 104]⟩, .string ⟨#[99, 97, 108, 108]⟩, .string ⟨#[116, 97, 105, 108]⟩, .string ⟨#[114, 101, 116, 117, 114, 110]⟩]) (.int .i64 5)).run Tryz.prog w = .ok (.string ⟨#[97, 115, 115, 105, 103, 110]⟩) w := by kernel_rfl
theorem wix_6 (w : World) : (Instr.index 110 (.agg #[.string ⟨#[]⟩, .string ⟨#[99, 111, 110, 115, 116]⟩, .string ⟨#[108, 111, 99, 97, 108]⟩, .string ⟨#[103, 108, 111, 98, 97, 108]⟩, .string ⟨#[115, 101, 116]⟩, .string ⟨#[97, 115, 115, 105, 103, 110]⟩, .string ⟨#[100, 101, 102, 105, 110, 101]⟩, .string ⟨#[117, 110, 108, 101, 115, 115]⟩, .string ⟨#[106, 117, 109, 112]⟩, .string ⟨#[99, 108, 111, 115, 117, 114, 101]⟩, .string ⟨#[102, 114, 97, 109, 101]⟩, .string ⟨#[112, 117, 115, 104]⟩, .string ⟨#[99, 97, 108, 108]⟩, .string ⟨#[116, 97, 105, 108]⟩, .string ⟨#[114, 101, 116, 117, 114, 110]⟩]) (.int .i64 6)).run Tryz.prog w = .ok (.string ⟨#[100, 101, 102, 105, 110, 101]⟩) w := by kernel_rfl
theorem wix_7 (w : World) : (Instr.index 110 (.agg #[.string ⟨#[]⟩, .string ⟨#[99, 111, 110, 115, 116]⟩, .string ⟨#[108, 111, 99, 97, 108]⟩, .string ⟨#[103, 108, 111, 98, 97, 108]⟩, .string ⟨#[115, 101, 116]⟩, .string ⟨#[97, 115, 115, 105, 103, 110]⟩, .string ⟨#[100, 101, 102, 105, 110, 101]⟩, .string ⟨#[117, 110, 108, 101, 115, 115]⟩, .string ⟨#[106, 117, 109, 112]⟩, .string ⟨#[99, 108, 111, 115, 117, 114, 101]⟩, .string ⟨#[102, 114, 97, 109, 101]⟩, .string ⟨#[112, 117, 115, 104]⟩, .string ⟨#[99, 97, 108, 108]⟩, .string ⟨#[116, 97, 105, 108]⟩, .string ⟨#[114, 101, 116, 117, 114, 110]⟩]) (.int .i64 7)).run Tryz.prog w = .ok (.string ⟨#[117, 110, 108, 101, 115, 115]⟩) w := by kernel_rfl
theorem wix_8 (w : World) : (Instr.index 110 (.agg #[.string ⟨#[]⟩, .string ⟨#[99, 111, 110, 115, 116]⟩, .string ⟨#[108, 111, 99, 97, 108]⟩, .string ⟨#[103, 108, 111, 98, 97, 108]⟩, .string ⟨#[115, 101, 116]⟩, .string ⟨#[97, 115, 115, 105, 103, 110]⟩, .string ⟨#[100, 101, 102, 105, 110, 101]⟩, .string ⟨#[117, 110, 108, 101, 115, 115]⟩, .string ⟨#[106, 117, 109, 112]⟩, .string ⟨#[99, 108, 111, 115, 117, 114, 101]⟩, .string ⟨#[102, 114, 97, 109, 101]⟩, .string ⟨#[112, 117, 115, 104]⟩, .string ⟨#[99, 97, 108, 108]⟩, .string ⟨#[116, 97, 105, 108]⟩, .string ⟨#[114, 101, 116, 117, 114, 110]⟩]) (.int .i64 8)).run Tryz.prog w = .ok (.string ⟨#[106, 117, 109, 112]⟩) w := by kernel_rfl
theorem wix_9 (w : World) : (Instr.index 110 (.agg #[.string ⟨#[]⟩, .string ⟨#[99, 111, 110, 115, 116]⟩, .string ⟨#[108, 111, 99, 97, 108]⟩, .string ⟨#[103, 108, 111, 98, 97, 108]⟩, .string ⟨#[115, 101, 116]⟩, .string ⟨#[97, 115, 115, 105, 103, 110]⟩, .string ⟨#[100, 101, 102, 105, 110, 101]⟩, .string ⟨#[117, 110, 108, 101, 115, 115]⟩, .string ⟨#[106, 117, 109, 112]⟩, .string ⟨#[99, 108, 111, 115, 117, 114, 101]⟩, .string ⟨#[102, 114, 97, 109, 101]⟩, .string ⟨#[112, 117, 115, 104]⟩, .string ⟨#[99, 97, 108, 108]⟩, .string ⟨#[116, 97, 105, 108]⟩, .string ⟨#[114, 101, 116, 117, 114, 110]⟩]) (.int .i64 9)).run Tryz.prog w = .ok (.string ⟨#[99, 108, 111, 115, 117, 114, 101]⟩) w := by kernel_rfl
theorem wix_10 (w : World) : (Instr.index 110 (.agg #[.string ⟨#[]⟩, .string ⟨#[99, 111, 110, 115, 116]⟩, .string ⟨#[108, 111, 99, 97, 108]⟩, .string ⟨#[103, 108, 111, 98, 97, 108]⟩, .string ⟨#[115, 101, 116]⟩, .string ⟨#[97, 115, 115, 105, 103, 110]⟩, .string ⟨#[100, 101, 102, 105, 110, 101]⟩, .string ⟨#[117, 110, 108, 101, 115, 115]⟩, .string ⟨#[106, 117, 109, 112]⟩, .string ⟨#[99, 108, 111, 115, 117, 114, 101]⟩, .string ⟨#[102, 114, 97, 109, 101]⟩, .string ⟨#[112, 117, 115, 104]⟩, .string ⟨#[99, 97, 108, 108]⟩, .string ⟨#[116, 97, 105, 108]⟩, .string ⟨#[114, 101, 116, 117, 114, 110]⟩]) (.int .i64 10)).run Tryz.prog w = .ok (.string ⟨#[102, 114, 97, 109, 101]⟩) w := by kernel_rfl
theorem wix_11 (w : World) : (Instr.index 110 (.agg #[.string ⟨#[]⟩, .string ⟨#[99, 111, 110, 115, 116]⟩, .string ⟨#[108, 111, 99, 97, 108]⟩, .string ⟨#[103, 108, 111, 98, 97, 108]⟩, .string ⟨#[115, 101, 116]⟩, .string ⟨#[97, 115, 115, 105, 103, 110]⟩, .string ⟨#[100, 101, 102, 105, 110, 101]⟩, .string ⟨#[117, 110, 108, 101, 115, 115]⟩, .string ⟨#[106, 117, 109, 112]⟩, .string ⟨#[99, 108, 111, 115, 117, 114, 101]⟩, .string ⟨#[102, 114, 97, 109, 101]⟩, .string ⟨#[112, 117, 115, 104]⟩, .string ⟨#[99, 97, 108, 108]⟩, .string ⟨#[116, 97, 105, 108]⟩, .string ⟨#[114, 101, 116, 117, 114, 110]⟩]) (.int .i64 11)).run Tryz.prog w = .ok (.string ⟨#[112, 117, 115, 104]⟩) w := by kernel_rfl
theorem wix_12 (w : World) : (Instr.index 110 (.agg #[.string ⟨#[]⟩, .string ⟨#[99, 111, 110, 115, 116]⟩, .string ⟨#[108, 111, 99, 97, 108]⟩, .string ⟨#[103, 108, 111, 98, 97, 108]⟩, .string ⟨#[115, 101, 116]⟩, .string ⟨#[97, 115, 115, 105, 103, 110]⟩, .string ⟨#[100, 101, 102, 105, 110, 101]⟩, .string ⟨#[117, 110, 108, 101, 115, 115]⟩, .string ⟨#[106, 117, 109, 112]⟩, .string ⟨#[99, 108, 111, 115, 117, 114, 101]⟩, .string ⟨#[102, 114, 97, 109, 101]⟩, .string ⟨#[112, 117, 115, 104]⟩, .string ⟨#[99, 97, 108, 108]⟩, .string ⟨#[116, 97, 105, 108]⟩, .string ⟨#[114, 101, 116, 117, 114, 110]⟩]) (.int .i64 12)).run Tryz.prog w = .ok (.string ⟨#[99, 97, 108, 108]⟩) w := by kernel_rfl
theorem wix_13 (w : World) : (Instr.index 110 (.agg #[.string ⟨#[]⟩, .string ⟨#[99, 111, 110, 115, 116]⟩, .string ⟨#[108, 111, 99, 97, 108]⟩, .string ⟨#[103, 108, 111, 98, 97, 108]⟩, .string ⟨#[115, 101, 116]⟩, .string ⟨#[97, 115, 115, 105, 103, 110]⟩, .string ⟨#[100, 101, 102, 105, 110, 101]⟩, .string ⟨#[117, 110, 108, 101, 115, 115]⟩, .string ⟨#[106, 117, 109, 112]⟩, .string ⟨#[99, 108, 111, 115, 117, 114, 101]⟩, .string ⟨#[102, 114, 97, 109, 101]⟩, .string ⟨#[112, 117, 115, 104]⟩, .string ⟨#[99, 97, 108, 108]⟩, .string ⟨#[116, 97, 105, 108]⟩, .string ⟨#[114, 101, 116, 117, 114, 110]⟩]) (.int .i64 13)).run Tryz.prog w = .ok (.string ⟨#[116, 97, 105, 108]⟩) w := by kernel_rfl
theorem wix_14 (w : World) : (Instr.index 110 (.agg #[.string ⟨#[]⟩, .string ⟨#[99, 111, 110, 115, 116]⟩, .string ⟨#[108, 111, 99, 97, 108]⟩, .string ⟨#[103, 108, 111, 98, 97, 108]⟩, .string ⟨#[115, 101, 116]⟩, .string ⟨#[97, 115, 115, 105, 103, 110]⟩, .string ⟨#[100, 101, 102, 105, 110, 101]⟩, .string ⟨#[117, 110, 108, 101, 115, 115]⟩, .string ⟨#[106, 117, 109, 112]⟩, .string ⟨#[99, 108, 111, 115, 117, 114, 101]⟩, .string ⟨#[102, 114, 97, 109, 101]⟩, .string ⟨#[112, 117, 115, 104]⟩, .string ⟨#[99, 97, 108, 108]⟩, .string ⟨#[116, 97, 105, 108]⟩, .string ⟨#[114, 101, 116, 117, 114, 110]⟩]) (.int .i64 14)).run Tryz.prog w = .ok (.string ⟨#[114, 101, 116, 117, 114, 110]⟩) w := by kernel_rfl
set_option maxRecDepth 100000 in
theorem word_1 (w : World) : Calls Tryz.prog 44 #[.int .i64 1] w fun e w' => e = .returned (.string ⟨#[99, 111, 110, 115, 116]⟩) ∧ w' = w := by
  have hix := wix_1
  go_enter Tryz.func44, Tryz.ntmps44
  go_wp2
  go_ret
  exact ⟨rfl, rfl⟩
set_option maxRecDepth 100000 in
theorem word_2 (w : World) : Calls Tryz.prog 44 #[.int .i64 2] w fun e w' => e = .returned (.string ⟨#[108, 111, 99, 97, 108]⟩) ∧ w' = w := by
  have hix := wix_2
  go_enter Tryz.func44, Tryz.ntmps44
  go_wp2
  go_ret
  exact ⟨rfl, rfl⟩
set_option maxRecDepth 100000 in
theorem word_3 (w : World) : Calls Tryz.prog 44 #[.int .i64 3] w fun e w' => e = .returned (.string ⟨#[103, 108, 111, 98, 97, 108]⟩) ∧ w' = w := by
  have hix := wix_3
  go_enter Tryz.func44, Tryz.ntmps44
  go_wp2
  go_ret
  exact ⟨rfl, rfl⟩
set_option maxRecDepth 100000 in
theorem word_4 (w : World) : Calls Tryz.prog 44 #[.int .i64 4] w fun e w' => e = .returned (.string ⟨#[115, 101, 116]⟩) ∧ w' = w := by
  have hix := wix_4
  go_enter Tryz.func44, Tryz.ntmps44
  go_wp2
  go_ret
  exact ⟨rfl, rfl⟩
set_option maxRecDepth 100000 in
theorem word_5 (w : World) : Calls Tryz.prog 44 #[.int .i64 5] w fun e w' => e = .returned (.string ⟨#[97, 115, 115, 105, 103, 110]⟩) ∧ w' = w := by
  have hix := wix_5
  go_enter Tryz.func44, Tryz.ntmps44
  go_wp2
  go_ret
  exact ⟨rfl, rfl⟩
set_option maxRecDepth 100000 in
theorem word_6 (w : World) : Calls Tryz.prog 44 #[.int .i64 6] w fun e w' => e = .returned (.string ⟨#[100, 101, 102, 105, 110, 101]⟩) ∧ w' = w := by
  have hix := wix_6
  go_enter Tryz.func44, Tryz.ntmps44
  go_wp2
  go_ret
  exact ⟨rfl, rfl⟩
set_option maxRecDepth 100000 in
theorem word_7 (w : World) : Calls Tryz.prog 44 #[.int .i64 7] w fun e w' => e = .returned (.string ⟨#[117, 110, 108, 101, 115, 115]⟩) ∧ w' = w := by
  have hix := wix_7
  go_enter Tryz.func44, Tryz.ntmps44
  go_wp2
  go_ret
  exact ⟨rfl, rfl⟩
set_option maxRecDepth 100000 in
theorem word_8 (w : World) : Calls Tryz.prog 44 #[.int .i64 8] w fun e w' => e = .returned (.string ⟨#[106, 117, 109, 112]⟩) ∧ w' = w := by
  have hix := wix_8
  go_enter Tryz.func44, Tryz.ntmps44
  go_wp2
  go_ret
  exact ⟨rfl, rfl⟩
set_option maxRecDepth 100000 in
theorem word_9 (w : World) : Calls Tryz.prog 44 #[.int .i64 9] w fun e w' => e = .returned (.string ⟨#[99, 108, 111, 115, 117, 114, 101]⟩) ∧ w' = w := by
  have hix := wix_9
  go_enter Tryz.func44, Tryz.ntmps44
  go_wp2
  go_ret
  exact ⟨rfl, rfl⟩
set_option maxRecDepth 100000 in
theorem word_10 (w : World) : Calls Tryz.prog 44 #[.int .i64 10] w fun e w' => e = .returned (.string ⟨#[102, 114, 97, 109, 101]⟩) ∧ w' = w := by
  have hix := wix_10
  go_enter Tryz.func44, Tryz.ntmps44
  go_wp2
  go_ret
  exact ⟨rfl, rfl⟩
set_option maxRecDepth 100000 in
theorem word_11 (w : World) : Calls Tryz.prog 44 #[.int .i64 11] w fun e w' => e = .returned (.string ⟨#[112, 117, 115, 104]⟩) ∧ w' = w := by
  have hix := wix_11
  go_enter Tryz.func44, Tryz.ntmps44
  go_wp2
  go_ret
  exact ⟨rfl, rfl⟩
set_option maxRecDepth 100000 in
theorem word_12 (w : World) : Calls Tryz.prog 44 #[.int .i64 12] w fun e w' => e = .returned (.string ⟨#[99, 97, 108, 108]⟩) ∧ w' = w := by
  have hix := wix_12
  go_enter Tryz.func44, Tryz.ntmps44
  go_wp2
  go_ret
  exact ⟨rfl, rfl⟩
set_option maxRecDepth 100000 in
theorem word_13 (w : World) : Calls Tryz.prog 44 #[.int .i64 13] w fun e w' => e = .returned (.string ⟨#[116, 97, 105, 108]⟩) ∧ w' = w := by
  have hix := wix_13
  go_enter Tryz.func44, Tryz.ntmps44
  go_wp2
  go_ret
  exact ⟨rfl, rfl⟩
set_option maxRecDepth 100000 in
theorem word_14 (w : World) : Calls Tryz.prog 44 #[.int .i64 14] w fun e w' => e = .returned (.string ⟨#[114, 101, 116, 117, 114, 110]⟩) ∧ w' = w := by
  have hix := wix_14
  go_enter Tryz.func44, Tryz.ntmps44
  go_wp2
  go_ret
  exact ⟨rfl, rfl⟩
theorem word_is (op : Nat) (h1 : 1 ≤ op) (h : op ≤ 14) (w : World) : Calls Tryz.prog 44 #[.int .i64 op] w fun e w' => e = .returned (.string ⟨wordA op⟩) ∧ w' = w := by
  have hx : op = 1 ∨ op = 2 ∨ op = 3 ∨ op = 4 ∨ op = 5 ∨ op = 6 ∨ op = 7 ∨ op = 8 ∨ op = 9 ∨ op = 10 ∨ op = 11 ∨ op = 12 ∨ op = 13 ∨ op = 14 := by omega
  rcases hx with rfl | rfl | rfl | rfl | rfl | rfl | rfl | rfl | rfl | rfl | rfl | rfl | rfl | rfl
  · exact word_1 w
  · exact word_2 w
  · exact word_3 w
  · exact word_4 w
  · exact word_5 w
  · exact word_6 w
  · exact word_7 w
  · exact word_8 w
  · exact word_9 w
  · exact word_10 w
  · exact word_11 w
  · exact word_12 w
  · exact word_13 w
  · exact word_14 w

theorem mk_size (l : List UInt8) : (⟨l.toArray⟩ : ByteArray).size = l.length := by simp [ByteArray.size]
theorem cell_lt {w w' : World} {B : Nat} {p : Addr} {v : Value} (h : w.cell? p = some v) (k : Below B w w') (hb : p.block < B) : w'.cell? p = some v := by
  rw [World.cell?_of_block (k.block p.block hb)]; exact h
theorem bt_printer : BT 191 1 := ⟨by kernel_rfl, by decide⟩

set_option maxRecDepth 100000 in
theorem datum_int {w0 w : World} {b bb oo : Nat} {x : Dat} {l : List UInt8} {rest : Value} (hB : IsB 191 [rest] w0.heap.size b l w) (hk : Below w0.heap.size w0 w) (hD : IsD w0 bb oo x) (h1 : x.f0 = 1) (hN : NumOk w0 x.f1) (hl : l.length + (numL x.f1).length ≤ 140737488355328) :
    Calls Tryz.prog 137 #[.pointer (some ⟨b, 0, none⟩), .pointer (some ⟨bb, oo, none⟩)] w fun e w' => e = .returned (.tuple #[]) ∧ IsB 191 [rest] w0.heap.size b (l ++ numL x.f1) w' ∧ Below w0.heap.size w0 w' := by
  obtain ⟨A, c, c0, c1, -⟩ := (hD.below hk).ex
  rw [h1] at c0
  obtain ⟨z, hz⟩ : ∃ z, x.f1 = z := ⟨_, rfl⟩
  rw [hz] at c1 hN hl ⊢
  have HN := Box.mk ((hN.below hk).below (show Below w.heap.size w w.drew from Below.drew (Below.refl _ w)))
  have HB := Box.mk hB
  have HF := Box.mk (fixText_is z w.drew HN.out)
  have HW := Box.mk (fun (W : World) (hW : Below w.heap.size w W) => wstr_is (T := 191) (rest := [rest]) bt_printer (HB.out.below hW) ⟨(numL z).toArray⟩ (by rw [mk_size]; exact hl) (Nat.le_trans hk.size hW.size))
  have HK := Box.mk hk
  have hbb : bb < w0.heap.size := hD.lt
  clear hB hD hN h1 hk hz
  go_enter Tryz.func137, Tryz.ntmps137
  go_wp2_with fail
  go_region_held3 (fun w' => w'.cell? ⟨bb, oo + 1, none⟩ = some (.int .i64 z)) (first | exact c1 | exact cell_below c1 kj | exact g3 | go_keep) (first | (go_at_call 43; refine HF.out.mono ?_; rintro e w3 ⟨rfl, k3⟩; have kj : Below w.heap.size w w3 := Below.trans (Below.drew (Below.refl _ w)) k3) | (go_at_call 42; refine (HW.out _ kj).mono ?_; rintro e w4 ⟨rfl, hB4, k4⟩; have k5 : Below w0.heap.size w w4 := (Below.mono kj HK.out.size).trans k4; have g3 := cell_lt c1 k5 hbb))
  have HB4 := Box.mk hB4
  have HK5 := Box.mk (HK.out.trans k5)
  clear hB4 k3 k4 k5 kj g3 c0 c1 HF HW HB HN HK
  go_wp2_with fail
  go_end0
  exact ⟨rfl, HB4.out, HK5.out⟩

set_option maxRecDepth 100000 in
theorem showText_int {w : World} {v : Value} {x : Dat} (hv : VD w v x) (hs : dsz x ≤ 4000) (hf : fitB 64 x = true) (h1 : x.f0 = 1) (hN : NumOk w x.f1) (hne : numL x.f1 ≠ []) (hl : (numL x.f1).length ≤ 1000) :
    Calls Tryz.prog 100 #[v, .bool false] w fun e w' => e = .returned (.tuple #[.string ⟨(numL x.f1).toArray⟩, .nilIface]) ∧ Below w.heap.size w w' := by
  obtain ⟨A, c, rfl, hc, hC⟩ := hv.ex
  have HD := Box.mk (IsD.made (v := .tuple #[]) hc hC)
  have HK := Box.mk ((Below.refl _ w).alloc (Nat.le_refl _) (.cells #[.int .i64 x.f0, .int .i64 x.f1, .string x.f2, .slice A x.f3.length c] 45))
  have HC := Box.mk (rcheck_is (hv.below HK.out) hs)
  rw [hf, if_pos rfl] at HC
  have Hx := Box.mk (And.intro h1 (And.intro hN (And.intro hne hl)))
  clear hv hc hC h1 hN hne hl hf
  go_enter Tryz.func100, Tryz.ntmps100
  go_wp2_with fail
  refine HC.out.mono ?_
  rintro e w2 ⟨rfl, k2⟩
  have hk2 : Below w.heap.size w w2 := HK.out.trans (k2.mono HK.out.size)
  have K2 := Box.mk hk2
  have hD2 := HD.out.below k2
  have hA : Below w2.heap.size w2 (w2.alloc (.cells #[.pointer none, .slice none 0 0, .bool false] 191)) := (Below.refl _ w2).alloc (Nat.le_refl _) _
  have hB : IsB 191 [.bool false] w2.heap.size w2.heap.size [] (w2.alloc (.cells #[.pointer none, .slice none 0 0, .bool false] 191)) :=
    ⟨Nat.le_refl _, .pointer none, .slice none 0 0, .inl rfl, heap_alloc_new _ _, World.ownsRow_nil _ _ _ _⟩
  have HDt := Box.mk (datum_int hB hA hD2 Hx.out.1 (Hx.out.2.1.below hk2) (by have := Hx.out.2.2.2; simp only [List.length_nil]; omega))
  clear hk2 k2 hD2 hA hB HC HK HD
  unfold errV
  simp only [if_true]
  go_wp2_with fail
  refine HDt.out.mono ?_
  rintro e w4 ⟨rfl, hB4, k4⟩
  have HB4 := Box.mk hB4
  have K4 := Box.mk k4
  clear hB4 k4 HDt
  go_wp2_with fail
  refine (bstr_is HB4.out (by simpa using Hx.out.2.2.1)).mono ?_
  rintro e w5 ⟨rfl, k5⟩
  have K5 := Box.mk (K2.out.trans (Below.mono (K4.out.trans k5) K2.out.size))
  clear k5
  go_wp2_with fail
  go_ret2
  exact ⟨rfl, K5.out⟩

set_option maxRecDepth 100000 in
theorem write_int {w : World} {v : Value} {x : Dat} (hv : VD w v x) (hs : dsz x ≤ 4000) (hf : fitB 64 x = true) (h1 : x.f0 = 1) (hN : NumOk w x.f1) (hne : numL x.f1 ≠ []) (hl : (numL x.f1).length ≤ 1000) :
    Calls Tryz.prog 75 #[v] w fun e w' => e = .returned (.tuple #[.string ⟨(numL x.f1).toArray⟩, .nilIface]) ∧ Below w.heap.size w w' := by
  obtain ⟨A, c, rfl, hc, hC⟩ := hv.ex
  have HK := Box.mk ((Below.refl _ w).alloc (Nat.le_refl _) (.cells #[.int .i64 x.f0, .int .i64 x.f1, .string x.f2, .slice A x.f3.length c] 45))
  have HC := Box.mk (showText_int (hv.below HK.out) hs hf h1 (hN.below HK.out) hne hl)
  clear hv hc hC h1 hN hne hl hf hs
  go_enter Tryz.func75, Tryz.ntmps75
  go_wp2_with fail
  refine HC.out.mono ?_
  rintro e w2 ⟨rfl, k2⟩
  have K2 := Box.mk (HK.out.trans (k2.mono HK.out.size))
  clear k2
  go_wp2_with fail
  go_ret2
  exact ⟨rfl, K2.out⟩

end Go.Proofs.YtiimojpaeccajaaGreatDoor
