/-
  DERIVED. GIVEN WITH THE SEED: THE CARDS: each row of YtiimojpaeccajaaDoorRows.lean that lists a variable, with what it lists TIED to the program's text (the seventh form; the later family's looks); each row that meets fmt, with fmt's text TOLD by the authors' own Lean function (tested against real Go, not proved from fmt's source: count such statements apart). THE CARD IS WHAT COUNTS. Prove the row's statement (the work); the ties are given (YtiimojpaeccajaaDoorTie.lean); close each card by the builder's one call (the guide's Derived/Test/ToyasCard.lean, 'card_holds'). Laid BY PROGRAM, IN A SANDBOX (cutbox-door.mjs). By AI agents, Wed Nov 11 2026. No macro, syntax, notation, axiom, sorry.
-/
import Derived.Test.YtiimojpaeccajaaDoorRows
import GoSem.ClaimSeven
namespace Go.Proofs.YtiimojpaeccajaaDoor
namespace Rows

/-- THE TIED CARD OF 'spindlelaw16.CodeStacks'. -/
def codeStacksCard : Claim7 := { stood := { row := codeStacksRow, standIns := [], harness := (true, "baace3088ffd1b8dc3c2e6946bb36f27c943143ffeb0aa5c707ec643c82183e7"), looks := true }, kinds := [], alts := [], laidByText := true, laidKinds := [.data, .data, .data], laidTests := true, laidLooks := .later }
def CodeStacksCardSaid : Prop := Claim7.holds Tryd.pinned (.plain (OpenSpec.ofChange codeStacksSpec)) codeStacksCard

/-- THE TIED CARD OF 'spindlelaw16.CodeLines'. -/
def codeLinesCard : Claim7 := { stood := { row := codeLinesRow, standIns := [], harness := (true, "baace3088ffd1b8dc3c2e6946bb36f27c943143ffeb0aa5c707ec643c82183e7"), looks := true }, kinds := [], alts := [], laidByText := true, laidKinds := [.data, .data, .data], laidTests := true, laidLooks := .later }
def CodeLinesCardSaid : Prop := Claim7.holds Tryd.pinned (.plain (OpenSpec.ofChange codeLinesSpec)) codeLinesCard

/-- THE TIED CARD OF 'spindlelaw16.CodeFirst'. -/
def codeFirstCard : Claim7 := { stood := { row := codeFirstRow, standIns := [], harness := (true, "baace3088ffd1b8dc3c2e6946bb36f27c943143ffeb0aa5c707ec643c82183e7"), looks := true }, kinds := [], alts := [], laidByText := true, laidKinds := [.data, .data, .data], laidTests := true, laidLooks := .later }
def CodeFirstCardSaid : Prop := Claim7.holds Tryd.pinned (.plain (OpenSpec.ofChange codeFirstSpec)) codeFirstCard

/-- THE SECOND FORM's CARD OF 'spindlelaw16.CodeStacks'. -/
def codeStacksUptoCard : Claim7 := { stood := { row := codeStacksUptoRow, standIns := [], harness := (true, "baace3088ffd1b8dc3c2e6946bb36f27c943143ffeb0aa5c707ec643c82183e7"), looks := true }, kinds := [], alts := [], laidByText := true, laidKinds := [.data, .data, .data], laidTests := true, laidLooks := .later }
def CodeStacksUptoCardSaid : Prop := Claim7.holds Tryd.pinned (.plain (OpenSpec.upto codeStacksSpec)) codeStacksUptoCard

/-- THE SECOND FORM's CARD OF 'spindlelaw16.CodeLines'. -/
def codeLinesUptoCard : Claim7 := { stood := { row := codeLinesUptoRow, standIns := [], harness := (true, "baace3088ffd1b8dc3c2e6946bb36f27c943143ffeb0aa5c707ec643c82183e7"), looks := true }, kinds := [], alts := [], laidByText := true, laidKinds := [.data, .data, .data], laidTests := true, laidLooks := .later }
def CodeLinesUptoCardSaid : Prop := Claim7.holds Tryd.pinned (.plain (OpenSpec.upto codeLinesSpec)) codeLinesUptoCard

/-- THE SECOND FORM's CARD OF 'spindlelaw16.CodeFirst'. -/
def codeFirstUptoCard : Claim7 := { stood := { row := codeFirstUptoRow, standIns := [], harness := (true, "baace3088ffd1b8dc3c2e6946bb36f27c943143ffeb0aa5c707ec643c82183e7"), looks := true }, kinds := [], alts := [], laidByText := true, laidKinds := [.data, .data, .data], laidTests := true, laidLooks := .later }
def CodeFirstUptoCardSaid : Prop := Claim7.holds Tryd.pinned (.plain (OpenSpec.upto codeFirstSpec)) codeFirstUptoCard
end Rows
end Go.Proofs.YtiimojpaeccajaaDoor
