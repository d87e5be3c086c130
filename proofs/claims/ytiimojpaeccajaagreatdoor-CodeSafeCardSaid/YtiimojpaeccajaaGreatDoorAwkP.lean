/- Law 16's awake: its code, and what is known of it. -/
import Derived.Test.YtiimojpaeccajaaGreatDoorStkR
import Derived.Test.YtiimojpaeccajaaGreatDoorStacks
import Derived.Test.YtiimojpaeccajaaGreatDoorText2
import Derived.Test.YtiimojpaeccajaaGreatDoorPCodeSafex1
namespace Go.Proofs.YtiimojpaeccajaaGreatDoor
set_option linter.unusedVariables false
set_option linter.unusedSimpArgs false
open Go.RowKit Go.Proofs.YtiimojpaeccajaaGreatDoorW.PrintWords Go.Proofs.YtiimojpaeccajaaGreatDoorW.PrintLast Go.Proofs.YtiimojpaeccajaaGreatDoorW.PrintMore

def mkI (op a : Int) (name : ByteArray) (k n : Int) : Ins := ⟨op, a, 0, name, ⟨k, n, ⟨#[]⟩, []⟩⟩
def l7 : List Ins := [mkI 10 6 ⟨#[]⟩ 0 0, mkI 3 0 ⟨#[102]⟩ 0 0, mkI 11 0 ⟨#[]⟩ 0 0, mkI 1 0 ⟨#[]⟩ 1 1, mkI 11 0 ⟨#[]⟩ 0 0, mkI 12 1 ⟨#[]⟩ 0 0, mkI 14 0 ⟨#[]⟩ 0 0]
def l6 : List Ins := [mkI 10 6 ⟨#[]⟩ 0 0, mkI 3 0 ⟨#[102]⟩ 0 0, mkI 11 0 ⟨#[]⟩ 0 0, mkI 1 0 ⟨#[]⟩ 1 1, mkI 11 0 ⟨#[]⟩ 0 0, mkI 12 1 ⟨#[]⟩ 0 0]
def l7m : List Ins := [mkI 10 6 ⟨#[]⟩ 0 0, mkI 3 0 ⟨#[102]⟩ 0 0, mkI 11 0 ⟨#[]⟩ 0 0, mkI 1 0 ⟨#[]⟩ 1 1, mkI 11 0 ⟨#[]⟩ 0 0, mkI 12 2 ⟨#[]⟩ 0 0, mkI 14 0 ⟨#[]⟩ 0 0]
theorem chk7 : chkB l7 = true := by decide +kernel
theorem chk6 : chkB l6 = false := by decide +kernel
theorem chk7m : chkB l7m = true := by decide +kernel
theorem run7 : (stFull (sL l7) 20).bad = false ∧ (stFull (sL l7) 20).todo = [] ∧ (stFull (sL l7) 20).S 5 = some [0, 2] ∧ (stFull (sL l7) 20).S 6 = some [0] := by decide +kernel
theorem run7m : (stFull (sL l7m) 20).bad = true := by decide +kernel
theorem well7 : StW (sL l7) ∧ StR (sL l7) 5 [0, 2] ∧ StR (sL l7) 6 [0] := by
  obtain ⟨h1, h2⟩ := stFull_well (l := sL l7) (by decide) 20 run7.1 run7.2.1
  exact ⟨h1, (h2 5 _).1 run7.2.2.1, (h2 6 _).1 run7.2.2.2⟩
theorem ill7m : ¬ StW (sL l7m) := stFull_bad (l := sL l7m) (by decide) 20 run7m
def T7 (k : Nat) : ByteArray := if k = 3 then numB 1 else ⟨#[]⟩
def txt7 : Array UInt8 := #[48, 58, 32, 102, 114, 97, 109, 101, 32, 54, 10, 49, 58, 32, 103, 108, 111, 98, 97, 108, 32, 102, 10, 50, 58, 32, 112, 117, 115, 104, 10, 51, 58, 32, 99, 111, 110, 115, 116, 32, 49, 10, 52, 58, 32, 112, 117, 115, 104, 10, 53, 58, 32, 99, 97, 108, 108, 32, 49, 10, 54, 58, 32, 114, 101, 116, 117, 114, 110, 10]
theorem txt7_list : (⟨txt7⟩ : ByteArray).toList = [48, 58, 32, 102, 114, 97, 109, 101, 32, 54, 10, 49, 58, 32, 103, 108, 111, 98, 97, 108, 32, 102, 10, 50, 58, 32, 112, 117, 115, 104, 10, 51, 58, 32, 99, 111, 110, 115, 116, 32, 49, 10, 52, 58, 32, 112, 117, 115, 104, 10, 53, 58, 32, 99, 97, 108, 108, 32, 49, 10, 54, 58, 32, 114, 101, 116, 117, 114, 110, 10] := by rw [ByteArray.toList_eq]; rfl
theorem lines7 : linesL l7 T7 7 = txt7.toList := by decide +kernel

/-- An instruction's cells, where it bears no data within its datum. -/
def encI (x : Ins) : List Value := [.int .i64 x.f0, .int .i64 x.f1, .int .i64 x.f2, .string x.f3, .int .i64 x.f4.f0, .int .i64 x.f4.f1, .string x.f4.f2, .slice none 0 0]
theorem datC_nil (w : World) : Kd.C datK w none ([] : List Dat).length [] := ⟨rfl, by decide, fun h => absurd h (by decide)⟩
theorem insK_enc (w : World) (x : Ins) (h : x.f4.f3 = []) : insK.K w x (encI x) := by
  obtain ⟨a, b, c, d, ⟨e, f, g, k⟩⟩ := x
  simp only at h
  subst h
  exact PCodeSafe.k54_mk w ⟨a, b, c, d, ⟨e, f, g, []⟩⟩ (A7 := none) (c7 := 0) (Nat.le_refl _) (datC_nil w)
theorem insC_of {w : World} {b : Nat} (l : List Ins) (hl : ∀ x ∈ l, x.f4.f3 = []) (hn : l.length ≤ 9223372036854775807) (hc : ∀ j x, l[j]? = some x → ∀ i u, (encI x)[i]? = some u → w.cell? ⟨b, j * 8 + i, none⟩ = some u) : Kd.C insK w (some ⟨b, 0, none⟩) l.length l :=
  ⟨rfl, hn, fun _ => ⟨⟨b, 0, none⟩, rfl, fun j x hx => ⟨encI x, rfl, insK_enc w x (hl x (List.mem_of_getElem? hx)), fun i u hu => by
    have ea : (⟨b, 0, none⟩ : Addr).add (j * insK.sz + i) = ⟨b, j * 8 + i, none⟩ := by rw [Addr.add_lit, Nat.zero_add]; rfl
    rw [ea]; exact hc j x hx i u hu⟩⟩⟩
/-- The cells of a row of instructions, all of which bear no data within their data. -/
theorem insC_cells {w : World} {b : Nat} {l : List Ins} (h : Kd.C insK w (some ⟨b, 0, none⟩) l.length l) {j : Nat} {x : Ins} (hx : l[j]? = some x) (hl : x.f4.f3 = []) {i : Nat} {u : Value} (hi : i < 7) (hu : (encI x)[i]? = some u) : w.cell? ⟨b, j * 8 + i, none⟩ = some u := by
  have hj := (List.getElem?_eq_some_iff.1 hx).1
  obtain ⟨b', o', he, -, hI⟩ := isI_elem h hj
  simp only [Option.some.injEq, Addr.mk.injEq, and_true] at he
  obtain ⟨rfl, rfl⟩ := he
  have hg : l.getD j insZ = x := by simp [List.getD, hx]
  rw [hg, Nat.zero_add] at hI
  obtain ⟨h0, h1, h2, h3⟩ := hI.ex
  obtain ⟨A, c, d0, d1, d2, -⟩ := hI.dat.ex
  match i, hi with
  | 0, _ => simp [encI] at hu; rw [← hu]; exact h0
  | 1, _ => simp [encI] at hu; rw [← hu]; exact h1
  | 2, _ => simp [encI] at hu; rw [← hu]; exact h2
  | 3, _ => simp [encI] at hu; rw [← hu]; exact h3
  | 4, _ => simp [encI] at hu; rw [← hu]; exact d0
  | 5, _ => simp [encI] at hu; rw [← hu]; exact d1
  | 6, _ => simp [encI] at hu; rw [← hu]; exact d2

/-- A row of whole numbers, as the print reads it. -/
theorem intC_of {w : World} {b o : Nat} (s : List Int) (hn : s.length ≤ 9223372036854775807) (hc : ∀ j, j < s.length → w.cell? ⟨b, o + j, none⟩ = some (.int .i64 (s.getD j 0))) : Kd.C (Kd.int .i64) w (some ⟨b, o, none⟩) s.length s :=
  ⟨rfl, hn, fun _ => ⟨⟨b, o, none⟩, rfl, fun j x hx => ⟨[.int .i64 x], rfl, rfl, fun i u hu => by
    have hi : i = 0 := by
      have := (List.getElem?_eq_some_iff.1 hu).1
      simp at this; exact this
    subst hi
    simp at hu
    have hj := (List.getElem?_eq_some_iff.1 hx).1
    have e1 : (⟨b, o, none⟩ : Addr).add (j * (Kd.int .i64).sz + 0) = ⟨b, o + j, none⟩ := by
      rw [Addr.add_lit]; show (⟨b, o + (j * 1 + 0), none⟩ : Addr) = _; rw [Nat.mul_one, Nat.add_zero]
    rw [e1, hc j hj, ← hu]
    simp [List.getD, hx]⟩⟩⟩

end Go.Proofs.YtiimojpaeccajaaGreatDoor
