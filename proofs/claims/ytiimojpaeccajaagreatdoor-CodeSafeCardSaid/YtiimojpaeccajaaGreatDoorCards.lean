/-
  DERIVED. GIVEN WITH THE SEED: THE CARDS: each row of YtiimojpaeccajaaGreatDoorRows.lean that lists a variable, with what it lists TIED to the program's text (the seventh form; the later family's looks); each row that meets fmt, with fmt's text TOLD by the authors' own Lean function (tested against real Go, not proved from fmt's source: count such statements apart). THE CARD IS WHAT COUNTS. Prove the row's statement (the work); the ties are given (YtiimojpaeccajaaGreatDoorTie.lean); close each card by the builder's one call (the guide's Derived/Test/ToyasCard.lean, 'card_holds'). Laid BY PROGRAM, IN A SANDBOX (cutbox-door.mjs). By AI agents, Wed Nov 11 2026. No macro, syntax, notation, axiom, sorry.
-/
import Derived.Test.YtiimojpaeccajaaGreatDoorRows
import GoSem.ClaimSeven
namespace Go.Proofs.YtiimojpaeccajaaGreatDoor
namespace Rows

/-- THE TIED CARD OF 'spindlelaw16.CodeChecks'. -/
def codeChecksCard : Claim7 := { stood := { row := codeChecksRow, standIns := [], harness := (true, "d678cb1a8a83e91dedf5641f18be82a33ef2c716a6d61425af36a4b930de6ce5"), looks := true }, kinds := [], alts := [], laidByText := true, laidKinds := [.data, .data, .data], laidTests := true, laidLooks := .later }
def CodeChecksCardSaid : Prop := Claim7.holds Tryz.pinned (.plain (OpenSpec.ofChange codeChecksSpec)) codeChecksCard

/-- THE TIED CARD OF 'spindlelaw16.CodeSafe'. -/
def codeSafeCard : Claim7 := { stood := { row := codeSafeRow, standIns := [], harness := (true, "d678cb1a8a83e91dedf5641f18be82a33ef2c716a6d61425af36a4b930de6ce5"), looks := true }, kinds := [], alts := [], laidByText := true, laidKinds := [.data, .data, .data], laidTests := true, laidLooks := .later }
def CodeSafeCardSaid : Prop := Claim7.holds Tryz.pinned (.plain (OpenSpec.ofChange codeSafeSpec)) codeSafeCard

/-- THE TIED CARD OF 'spindlelaw17.CompileTail'. -/
def compileTailCard : Claim7 := { stood := { row := compileTailRow, standIns := [], harness := (true, "d678cb1a8a83e91dedf5641f18be82a33ef2c716a6d61425af36a4b930de6ce5"), looks := true }, kinds := [], alts := [], laidByText := true, laidKinds := [.data, .data, .data], laidTests := true, laidLooks := .later }
def CompileTailCardSaid : Prop := Claim7.holds Tryz.pinned (.plain (OpenSpec.ofChange compileTailSpec)) compileTailCard

/-- THE TIED CARD OF 'spindlelaw17.CompilePlays'. -/
def compilePlaysCard : Claim7 := { stood := { row := compilePlaysRow, standIns := [], harness := (true, "d678cb1a8a83e91dedf5641f18be82a33ef2c716a6d61425af36a4b930de6ce5"), looks := true }, kinds := [], alts := [], laidByText := true, laidKinds := [.data, .data, .data], laidTests := true, laidLooks := .later }
def CompilePlaysCardSaid : Prop := Claim7.holds Tryz.pinned (.plain (OpenSpec.ofChange compilePlaysSpec)) compilePlaysCard

/-- THE TIED CARD OF 'spindlelaw17.CompileLength'. -/
def compileLengthCard : Claim7 := { stood := { row := compileLengthRow, standIns := [], harness := (true, "d678cb1a8a83e91dedf5641f18be82a33ef2c716a6d61425af36a4b930de6ce5"), looks := true }, kinds := [], alts := [], laidByText := true, laidKinds := [.data, .data, .data], laidTests := true, laidLooks := .later }
def CompileLengthCardSaid : Prop := Claim7.holds Tryz.pinned (.plain (OpenSpec.ofChange compileLengthSpec)) compileLengthCard

/-- THE TIED CARD OF 'spindlelaw17.CompileSame'. -/
def compileSameCard : Claim7 := { stood := { row := compileSameRow, standIns := [], harness := (true, "d678cb1a8a83e91dedf5641f18be82a33ef2c716a6d61425af36a4b930de6ce5"), looks := true }, kinds := [], alts := [], laidByText := true, laidKinds := [.data, .data, .data], laidTests := true, laidLooks := .later }
def CompileSameCardSaid : Prop := Claim7.holds Tryz.pinned (.plain (OpenSpec.ofChange compileSameSpec)) compileSameCard

/-- THE TIED CARD OF 'spindlelaw17.CompileWell'. -/
def compileWellCard : Claim7 := { stood := { row := compileWellRow, standIns := [], harness := (true, "d678cb1a8a83e91dedf5641f18be82a33ef2c716a6d61425af36a4b930de6ce5"), looks := true }, kinds := [], alts := [], laidByText := true, laidKinds := [.data, .data, .data], laidTests := true, laidLooks := .later }
def CompileWellCardSaid : Prop := Claim7.holds Tryz.pinned (.plain (OpenSpec.ofChange compileWellSpec)) compileWellCard

/-- THE TIED CARD OF 'spindlelaw17.CompileEntries'. -/
def compileEntriesCard : Claim7 := { stood := { row := compileEntriesRow, standIns := [], harness := (true, "d678cb1a8a83e91dedf5641f18be82a33ef2c716a6d61425af36a4b930de6ce5"), looks := true }, kinds := [], alts := [], laidByText := true, laidKinds := [.data, .data, .data], laidTests := true, laidLooks := .later }
def CompileEntriesCardSaid : Prop := Claim7.holds Tryz.pinned (.plain (OpenSpec.ofChange compileEntriesSpec)) compileEntriesCard

/-- THE SECOND FORM's CARD OF 'spindlelaw16.CodeChecks'. -/
def codeChecksUptoCard : Claim7 := { stood := { row := codeChecksUptoRow, standIns := [], harness := (true, "d678cb1a8a83e91dedf5641f18be82a33ef2c716a6d61425af36a4b930de6ce5"), looks := true }, kinds := [], alts := [], laidByText := true, laidKinds := [.data, .data, .data], laidTests := true, laidLooks := .later }
def CodeChecksUptoCardSaid : Prop := Claim7.holds Tryz.pinned (.plain (OpenSpec.upto codeChecksSpec)) codeChecksUptoCard

/-- THE SECOND FORM's CARD OF 'spindlelaw16.CodeSafe'. -/
def codeSafeUptoCard : Claim7 := { stood := { row := codeSafeUptoRow, standIns := [], harness := (true, "d678cb1a8a83e91dedf5641f18be82a33ef2c716a6d61425af36a4b930de6ce5"), looks := true }, kinds := [], alts := [], laidByText := true, laidKinds := [.data, .data, .data], laidTests := true, laidLooks := .later }
def CodeSafeUptoCardSaid : Prop := Claim7.holds Tryz.pinned (.plain (OpenSpec.upto codeSafeSpec)) codeSafeUptoCard

/-- THE SECOND FORM's CARD OF 'spindlelaw17.CompileTail'. -/
def compileTailUptoCard : Claim7 := { stood := { row := compileTailUptoRow, standIns := [], harness := (true, "d678cb1a8a83e91dedf5641f18be82a33ef2c716a6d61425af36a4b930de6ce5"), looks := true }, kinds := [], alts := [], laidByText := true, laidKinds := [.data, .data, .data], laidTests := true, laidLooks := .later }
def CompileTailUptoCardSaid : Prop := Claim7.holds Tryz.pinned (.plain (OpenSpec.upto compileTailSpec)) compileTailUptoCard

/-- THE SECOND FORM's CARD OF 'spindlelaw17.CompilePlays'. -/
def compilePlaysUptoCard : Claim7 := { stood := { row := compilePlaysUptoRow, standIns := [], harness := (true, "d678cb1a8a83e91dedf5641f18be82a33ef2c716a6d61425af36a4b930de6ce5"), looks := true }, kinds := [], alts := [], laidByText := true, laidKinds := [.data, .data, .data], laidTests := true, laidLooks := .later }
def CompilePlaysUptoCardSaid : Prop := Claim7.holds Tryz.pinned (.plain (OpenSpec.upto compilePlaysSpec)) compilePlaysUptoCard

/-- THE SECOND FORM's CARD OF 'spindlelaw17.CompileLength'. -/
def compileLengthUptoCard : Claim7 := { stood := { row := compileLengthUptoRow, standIns := [], harness := (true, "d678cb1a8a83e91dedf5641f18be82a33ef2c716a6d61425af36a4b930de6ce5"), looks := true }, kinds := [], alts := [], laidByText := true, laidKinds := [.data, .data, .data], laidTests := true, laidLooks := .later }
def CompileLengthUptoCardSaid : Prop := Claim7.holds Tryz.pinned (.plain (OpenSpec.upto compileLengthSpec)) compileLengthUptoCard

/-- THE SECOND FORM's CARD OF 'spindlelaw17.CompileSame'. -/
def compileSameUptoCard : Claim7 := { stood := { row := compileSameUptoRow, standIns := [], harness := (true, "d678cb1a8a83e91dedf5641f18be82a33ef2c716a6d61425af36a4b930de6ce5"), looks := true }, kinds := [], alts := [], laidByText := true, laidKinds := [.data, .data, .data], laidTests := true, laidLooks := .later }
def CompileSameUptoCardSaid : Prop := Claim7.holds Tryz.pinned (.plain (OpenSpec.upto compileSameSpec)) compileSameUptoCard

/-- THE SECOND FORM's CARD OF 'spindlelaw17.CompileWell'. -/
def compileWellUptoCard : Claim7 := { stood := { row := compileWellUptoRow, standIns := [], harness := (true, "d678cb1a8a83e91dedf5641f18be82a33ef2c716a6d61425af36a4b930de6ce5"), looks := true }, kinds := [], alts := [], laidByText := true, laidKinds := [.data, .data, .data], laidTests := true, laidLooks := .later }
def CompileWellUptoCardSaid : Prop := Claim7.holds Tryz.pinned (.plain (OpenSpec.upto compileWellSpec)) compileWellUptoCard

/-- THE SECOND FORM's CARD OF 'spindlelaw17.CompileEntries'. -/
def compileEntriesUptoCard : Claim7 := { stood := { row := compileEntriesUptoRow, standIns := [], harness := (true, "d678cb1a8a83e91dedf5641f18be82a33ef2c716a6d61425af36a4b930de6ce5"), looks := true }, kinds := [], alts := [], laidByText := true, laidKinds := [.data, .data, .data], laidTests := true, laidLooks := .later }
def CompileEntriesUptoCardSaid : Prop := Claim7.holds Tryz.pinned (.plain (OpenSpec.upto compileEntriesSpec)) compileEntriesUptoCard
end Rows
end Go.Proofs.YtiimojpaeccajaaGreatDoor
