/- Instructions in memory, by the print's kinds. -/
import Derived.Test.YtiimojpaeccajaaGreatDoorDt
namespace Go.Proofs.YtiimojpaeccajaaGreatDoor
set_option linter.unusedVariables false
set_option linter.unusedSimpArgs false
open Go.RowKit Go.Proofs.YtiimojpaeccajaaGreatDoorW.PrintWords Go.Proofs.YtiimojpaeccajaaGreatDoorW.PrintLast Go.Proofs.YtiimojpaeccajaaGreatDoorW.PrintMore

abbrev Ins := PCodeSafe.S54
abbrev insZ : Ins := PCodeSafe.z54
abbrev insK : Kd Ins := PCodeSafe.k54

/-- An instruction lies at o in the block b. -/
structure IsI (w : World) (b o : Nat) (x : Ins) : Prop where
  ex : w.cell? ⟨b, o, none⟩ = some (.int .i64 x.f0) ∧ w.cell? ⟨b, o + 1, none⟩ = some (.int .i64 x.f1) ∧ w.cell? ⟨b, o + 2, none⟩ = some (.int .i64 x.f2) ∧ w.cell? ⟨b, o + 3, none⟩ = some (.string x.f3)
  dat : IsD w b (o + 4) x.f4
theorem IsI.lt {w : World} {b o : Nat} {x : Ins} (h : IsI w b o x) : b < w.heap.size := h.dat.lt
theorem IsI.below {w w' : World} {b o : Nat} {x : Ins} (h : IsI w b o x) (k : Below w.heap.size w w') : IsI w' b o x :=
  ⟨⟨cell_below h.ex.1 k, cell_below h.ex.2.1 k, cell_below h.ex.2.2.1 k, cell_below h.ex.2.2.2 k⟩, h.dat.below k⟩
theorem isI_elem {w : World} {A : Option Addr} {n : Nat} {xs : List Ins} (h : Kd.C insK w A n xs) {i : Nat} (hi : i < n) : ∃ b o, A = some ⟨b, o, none⟩ ∧ b < w.heap.size ∧ IsI w b (o + i * 8) (xs.getD i insZ) := by
  obtain ⟨ad, A3, c3, rfl, h0, h1, h2, h3, h4, h5, h6, h7, h8, h9⟩ := PCodeSafe.at_T54 h (i : Int) (by omega) (by omega)
  obtain ⟨ad', _, _, hae, z0, _⟩ := PCodeSafe.at_T54 h 0 (by omega) (by omega)
  injection hae with hae
  subst hae
  obtain ⟨b, o, sp⟩ := ad
  have hs := World.cell?_spot z0
  have hsp : sp = none := by simpa [Addr.add] using hs
  subst hsp
  rw [Int.toNat_natCast] at h0 h1 h2 h3 h4 h5 h6 h7
  rw [Addr.add_lit] at h0 h1 h2 h3 h4 h5 h6 h7
  exact ⟨b, o, rfl, by simpa using World.block_lt_of_cell? w _ h0, ⟨h0, h1, h2, h3⟩, A3, c3, h4, h5, h6, h7, h8, h9⟩

end Go.Proofs.YtiimojpaeccajaaGreatDoor
