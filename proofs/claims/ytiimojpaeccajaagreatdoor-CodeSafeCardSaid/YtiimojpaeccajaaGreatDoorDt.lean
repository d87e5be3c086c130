/- Data in memory, by the print's kinds; how many parts a datum has. -/
import Derived.Test.YtiimojpaeccajaaGreatDoorPCodeSafex0
import Derived.Test.YtiimojpaeccajaaGreatDoorBase
namespace Go.Proofs.YtiimojpaeccajaaGreatDoor
set_option linter.unusedVariables false
set_option linter.unusedSimpArgs false
open Go.RowKit Go.Proofs.YtiimojpaeccajaaGreatDoorW.PrintWords Go.Proofs.YtiimojpaeccajaaGreatDoorW.PrintLast Go.Proofs.YtiimojpaeccajaaGreatDoorW.PrintMore

abbrev Dat := PCodeSafe.S45
abbrev datZ : Dat := PCodeSafe.z45
abbrev datK : Kd Dat := PCodeSafe.k45

mutual
/-- How many parts. -/
def dsz : Dat → Nat
  | ⟨_, _, _, l⟩ => dszL l + 1
def dszL : List Dat → Nat
  | [] => 0
  | d :: l => dsz d + dszL l
end
theorem dsz_eq (d : Dat) : dsz d = dszL d.f3 + 1 := by cases d; simp [dsz]
theorem dsz_pos (d : Dat) : 0 < dsz d := by rw [dsz_eq]; omega
theorem dszL_cons (d : Dat) (l : List Dat) : dszL (d :: l) = dsz d + dszL l := by simp [dszL]
theorem dszL_nil : dszL [] = 0 := by simp [dszL]
theorem dszL_take_succ (l : List Dat) (i : Nat) (h : i < l.length) : dszL (l.take (i + 1)) = dszL (l.take i) + dsz (l.getD i datZ) := by
  induction l generalizing i with
  | nil => simp at h
  | cons d l ih =>
    cases i with
    | zero => simp [dszL_cons, dszL_nil]
    | succ i =>
      have := ih i (by simpa using h)
      simp only [List.take_succ_cons, dszL_cons, List.getD_cons_succ]
      omega
theorem dszL_take_le (l : List Dat) (i : Nat) : dszL (l.take i) ≤ dszL l := by
  induction l generalizing i with
  | nil => simp
  | cons d l ih =>
    cases i with
    | zero => simp [dszL_nil]
    | succ i => simp only [List.take_succ_cons, dszL_cons]; have := ih i; omega
theorem dszL_take_lt (l : List Dat) (i : Nat) (h : i < l.length) : dszL (l.take i) < dszL l := by
  have h1 := dszL_take_succ l i h
  have h2 := dszL_take_le l (i + 1)
  have h3 := dsz_pos (l.getD i datZ)
  omega
theorem dsz_getD_lt (l : List Dat) (i : Nat) (h : i < l.length) : dsz (l.getD i datZ) ≤ dszL l := by
  have h1 := dszL_take_succ l i h
  have h2 := dszL_take_le l (i + 1)
  omega
theorem length_le_dszL (l : List Dat) : l.length ≤ dszL l := by
  induction l with
  | nil => simp
  | cons d l ih => rw [dszL_cons]; have := dsz_pos d; simp; omega

/-- A datum lies at o in the block b. -/
structure IsD (w : World) (b o : Nat) (x : Dat) : Prop where
  ex : ∃ A c, w.cell? ⟨b, o, none⟩ = some (.int .i64 x.f0) ∧ w.cell? ⟨b, o + 1, none⟩ = some (.int .i64 x.f1) ∧ w.cell? ⟨b, o + 2, none⟩ = some (.string x.f2) ∧
    w.cell? ⟨b, o + 3, none⟩ = some (.slice A x.f3.length c) ∧ x.f3.length ≤ c ∧ Kd.C datK w A x.f3.length x.f3
theorem IsD.lt {w : World} {b o : Nat} {x : Dat} (h : IsD w b o x) : b < w.heap.size := by
  obtain ⟨A, c, h0, _⟩ := h.ex
  exact World.block_lt_of_cell? w _ h0
theorem cell_below {w w' : World} {p : Addr} {v : Value} (h : w.cell? p = some v) (k : Below w.heap.size w w') : w'.cell? p = some v := by
  rw [World.cell?_of_block (k.block p.block (World.block_lt_of_cell? w p h))]; exact h
theorem IsD.below {w w' : World} {b o : Nat} {x : Dat} (h : IsD w b o x) (k : Below w.heap.size w w') : IsD w' b o x := by
  obtain ⟨A, c, h0, h1, h2, h3, h4, h5⟩ := h.ex
  exact ⟨A, c, cell_below h0 k, cell_below h1 k, cell_below h2 k, cell_below h3 k, h4, Kd.C_below h5 k⟩
theorem isD_elem {w : World} {A : Option Addr} {n : Nat} {xs : List Dat} (h : Kd.C datK w A n xs) {i : Nat} (hi : i < n) : ∃ b o, A = some ⟨b, o, none⟩ ∧ b < w.heap.size ∧ IsD w b (o + i * 4) (xs.getD i datZ) := by
  obtain ⟨ad, A3, c3, rfl, h0, h1, h2, h3, h4, h5⟩ := PCodeSafe.at_T45 h (i : Int) (by omega) (by omega)
  obtain ⟨ad', _, _, hae, z0, _⟩ := PCodeSafe.at_T45 h 0 (by omega) (by omega)
  injection hae with hae
  subst hae
  obtain ⟨b, o, sp⟩ := ad
  have hs := World.cell?_spot z0
  have hsp : sp = none := by simpa [Addr.add] using hs
  subst hsp
  rw [Int.toNat_natCast] at h0 h1 h2 h3
  rw [Addr.add_lit] at h0 h1 h2 h3
  exact ⟨b, o, rfl, by simpa using World.block_lt_of_cell? w _ h0, A3, c3, h0, h1, h2, h3, h4, h5⟩

end Go.Proofs.YtiimojpaeccajaaGreatDoor
