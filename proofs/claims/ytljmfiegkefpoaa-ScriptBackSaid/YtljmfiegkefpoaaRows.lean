/-
  No cell of these rows narrows 'for every input' (looked for: loops, veiled, ifaces, maps, wideKeys, modest, calm, conditions, laid).
  DERIVED. THE GIVEN ROWS OF THIS SEAT. 9 by the template 'for every input the law returns true; each argument reads behind the call as it read before'; 0 by the template 'total and deterministic' (their statements: YtljmfiegkefpoaaTotals.lean).
  GIVEN WITH THE SEED: the statements are not yours to turn. If you find one false, say at which input.
  Laid BY PROGRAM, IN A SANDBOX (cutbox-rows.mjs): the forced cells as the released guide's own fill.sh prints them over the translation c02b3e3003be1328… (all of the seat's roots in one cut). By AI agents, Wed Nov 11 2026. No macro, syntax, notation, axiom, sorry.
-/
import Derived.Test.YtljmfiegkefpoaaChecked
import GoSem.Claim
import GoSem.ClaimJoined
import GoSem.ClaimMapViews
import Derived.JoinedTies
import Derived.KernelRfl
namespace Go.Proofs.Ytljmfiegkefpoaa
/- THE CELL 'sum', in the pinned program and in every row, IS THE sha256 OF THE DUMP (.gsa) THAT YtljmfiegkefpoaaProg.lean LOADS. Nothing in Lean hashes anything: it is a label: what it is worth is what the hold of that sum in a sandbox is worth. -/
noncomputable def Try.pinned : Pinned := { name := "ytljmfiegkefpoaa", sum := "c02b3e3003be13284a04174fe16fe8ff034060aadaa1af3904ef4433919b0d96", checked := Try.checked }
namespace Rows
def none {H : Type} : Left H := { results := [], args := [] }

/-- 'spindlelaw20.QueueDrops': WHATEVER THE INPUT: true; the input reads as it did. -/
def queueDropsSpec : ChangeSpec := { name := "queueDrops", fn := fun _ => fun
  | [d1, d2] => { results := [.lit (.bool true)], args := [d1, d2] }
  | _ => none }
def queueDropsRow : OpenClaim := { program := "ytljmfiegkefpoaa", sum := "c02b3e3003be13284a04174fe16fe8ff034060aadaa1af3904ef4433919b0d96", func := "spindle/spindlelaw20.QueueDrops", spec := "queueDrops", inPlace := ["internal/reflectlite.TypeOf"], unfollowed := true, recurses := true, apart := false }
def QueueDropsSaid : Prop := queueDropsRow.holds Try.pinned (OpenSpec.ofChange queueDropsSpec)

/-- ITS FALSE NEIGHBOUR: 'it returns false'. Refute it at one input. -/
def queueDropsWrong : ChangeSpec := { name := "queueDrops", fn := fun _ => fun
  | [d1, d2] => { results := [.lit (.bool false)], args := [d1, d2] }
  | _ => none }
def QueueDropsWrongFalsely : Prop := queueDropsRow.holds Try.pinned (OpenSpec.ofChange queueDropsWrong)

/-- 'spindlelaw20.QueueOrder': WHATEVER THE INPUT: true; the input reads as it did. -/
def queueOrderSpec : ChangeSpec := { name := "queueOrder", fn := fun _ => fun
  | [d1, d2] => { results := [.lit (.bool true)], args := [d1, d2] }
  | _ => none }
def queueOrderRow : OpenClaim := { program := "ytljmfiegkefpoaa", sum := "c02b3e3003be13284a04174fe16fe8ff034060aadaa1af3904ef4433919b0d96", func := "spindle/spindlelaw20.QueueOrder", spec := "queueOrder", inPlace := ["internal/reflectlite.TypeOf"], unfollowed := true, recurses := true, apart := false }
def QueueOrderSaid : Prop := queueOrderRow.holds Try.pinned (OpenSpec.ofChange queueOrderSpec)

/-- ITS FALSE NEIGHBOUR: 'it returns false'. Refute it at one input. -/
def queueOrderWrong : ChangeSpec := { name := "queueOrder", fn := fun _ => fun
  | [d1, d2] => { results := [.lit (.bool false)], args := [d1, d2] }
  | _ => none }
def QueueOrderWrongFalsely : Prop := queueOrderRow.holds Try.pinned (OpenSpec.ofChange queueOrderWrong)

/-- 'spindlelaw20.QueuePlays': WHATEVER THE INPUT: true; the input reads as it did. -/
def queuePlaysSpec : ChangeSpec := { name := "queuePlays", fn := fun _ => fun
  | [d] => { results := [.lit (.bool true)], args := [d] }
  | _ => none }
def queuePlaysRow : OpenClaim := { program := "ytljmfiegkefpoaa", sum := "c02b3e3003be13284a04174fe16fe8ff034060aadaa1af3904ef4433919b0d96", func := "spindle/spindlelaw20.QueuePlays", spec := "queuePlays", inPlace := ["internal/reflectlite.TypeOf"], unfollowed := true, recurses := true, apart := false }
def QueuePlaysSaid : Prop := queuePlaysRow.holds Try.pinned (OpenSpec.ofChange queuePlaysSpec)

/-- ITS FALSE NEIGHBOUR: 'it returns false'. Refute it at one input. -/
def queuePlaysWrong : ChangeSpec := { name := "queuePlays", fn := fun _ => fun
  | [d] => { results := [.lit (.bool false)], args := [d] }
  | _ => none }
def QueuePlaysWrongFalsely : Prop := queuePlaysRow.holds Try.pinned (OpenSpec.ofChange queuePlaysWrong)

/-- 'spindlelaw20.QueueNil': WHATEVER THE INPUT: true; the input reads as it did. -/
def queueNilSpec : ChangeSpec := { name := "queueNil", fn := fun _ => fun
  | [d] => { results := [.lit (.bool true)], args := [d] }
  | _ => none }
def queueNilRow : OpenClaim := { program := "ytljmfiegkefpoaa", sum := "c02b3e3003be13284a04174fe16fe8ff034060aadaa1af3904ef4433919b0d96", func := "spindle/spindlelaw20.QueueNil", spec := "queueNil", inPlace := ["internal/reflectlite.TypeOf"], unfollowed := true, recurses := true, apart := false }
def QueueNilSaid : Prop := queueNilRow.holds Try.pinned (OpenSpec.ofChange queueNilSpec)

/-- ITS FALSE NEIGHBOUR: 'it returns false'. Refute it at one input. -/
def queueNilWrong : ChangeSpec := { name := "queueNil", fn := fun _ => fun
  | [d] => { results := [.lit (.bool false)], args := [d] }
  | _ => none }
def QueueNilWrongFalsely : Prop := queueNilRow.holds Try.pinned (OpenSpec.ofChange queueNilWrong)

/-- 'spindlelaw20.QueueCopies': WHATEVER THE INPUT: true; the input reads as it did. -/
def queueCopiesSpec : ChangeSpec := { name := "queueCopies", fn := fun _ => fun
  | [d1, d2, d3] => { results := [.lit (.bool true)], args := [d1, d2, d3] }
  | _ => none }
def queueCopiesRow : OpenClaim := { program := "ytljmfiegkefpoaa", sum := "c02b3e3003be13284a04174fe16fe8ff034060aadaa1af3904ef4433919b0d96", func := "spindle/spindlelaw20.QueueCopies", spec := "queueCopies", inPlace := ["internal/reflectlite.TypeOf"], unfollowed := true, recurses := true, apart := false }
def QueueCopiesSaid : Prop := queueCopiesRow.holds Try.pinned (OpenSpec.ofChange queueCopiesSpec)

/-- ITS FALSE NEIGHBOUR: 'it returns false'. Refute it at one input. -/
def queueCopiesWrong : ChangeSpec := { name := "queueCopies", fn := fun _ => fun
  | [d1, d2, d3] => { results := [.lit (.bool false)], args := [d1, d2, d3] }
  | _ => none }
def QueueCopiesWrongFalsely : Prop := queueCopiesRow.holds Try.pinned (OpenSpec.ofChange queueCopiesWrong)

/-- 'spindlelaw22.ScriptReads': WHATEVER THE INPUT: true; the input reads as it did. -/
def scriptReadsSpec : ChangeSpec := { name := "scriptReads", fn := fun _ => fun
  | [d] => { results := [.lit (.bool true)], args := [d] }
  | _ => none }
def scriptReadsRow : OpenClaim := { program := "ytljmfiegkefpoaa", sum := "c02b3e3003be13284a04174fe16fe8ff034060aadaa1af3904ef4433919b0d96", func := "spindle/spindlelaw22.ScriptReads", spec := "scriptReads", apart := false }
def ScriptReadsSaid : Prop := scriptReadsRow.holds Try.pinned (OpenSpec.ofChange scriptReadsSpec)

/-- ITS FALSE NEIGHBOUR: 'it returns false'. Refute it at one input. -/
def scriptReadsWrong : ChangeSpec := { name := "scriptReads", fn := fun _ => fun
  | [d] => { results := [.lit (.bool false)], args := [d] }
  | _ => none }
def ScriptReadsWrongFalsely : Prop := scriptReadsRow.holds Try.pinned (OpenSpec.ofChange scriptReadsWrong)

/-- 'spindlelaw22.ScriptBack': WHATEVER THE INPUT: true; the input reads as it did. -/
def scriptBackSpec : ChangeSpec := { name := "scriptBack", fn := fun _ => fun
  | [d1, d2] => { results := [.lit (.bool true)], args := [d1, d2] }
  | _ => none }
def scriptBackRow : OpenClaim := { program := "ytljmfiegkefpoaa", sum := "c02b3e3003be13284a04174fe16fe8ff034060aadaa1af3904ef4433919b0d96", func := "spindle/spindlelaw22.ScriptBack", spec := "scriptBack", apart := false }
def ScriptBackSaid : Prop := scriptBackRow.holds Try.pinned (OpenSpec.ofChange scriptBackSpec)

/-- ITS FALSE NEIGHBOUR: 'it returns false'. Refute it at one input. -/
def scriptBackWrong : ChangeSpec := { name := "scriptBack", fn := fun _ => fun
  | [d1, d2] => { results := [.lit (.bool false)], args := [d1, d2] }
  | _ => none }
def ScriptBackWrongFalsely : Prop := scriptBackRow.holds Try.pinned (OpenSpec.ofChange scriptBackWrong)

/-- 'spindlelaw22.ScriptCuts': WHATEVER THE INPUT: true; the input reads as it did. -/
def scriptCutsSpec : ChangeSpec := { name := "scriptCuts", fn := fun _ => fun
  | [d1, d2] => { results := [.lit (.bool true)], args := [d1, d2] }
  | _ => none }
def scriptCutsRow : OpenClaim := { program := "ytljmfiegkefpoaa", sum := "c02b3e3003be13284a04174fe16fe8ff034060aadaa1af3904ef4433919b0d96", func := "spindle/spindlelaw22.ScriptCuts", spec := "scriptCuts", apart := false }
def ScriptCutsSaid : Prop := scriptCutsRow.holds Try.pinned (OpenSpec.ofChange scriptCutsSpec)

/-- ITS FALSE NEIGHBOUR: 'it returns false'. Refute it at one input. -/
def scriptCutsWrong : ChangeSpec := { name := "scriptCuts", fn := fun _ => fun
  | [d1, d2] => { results := [.lit (.bool false)], args := [d1, d2] }
  | _ => none }
def ScriptCutsWrongFalsely : Prop := scriptCutsRow.holds Try.pinned (OpenSpec.ofChange scriptCutsWrong)

/-- 'spindlelaw22.ScriptPrints': WHATEVER THE INPUT: true; the input reads as it did. -/
def scriptPrintsSpec : ChangeSpec := { name := "scriptPrints", fn := fun _ => fun
  | [d] => { results := [.lit (.bool true)], args := [d] }
  | _ => none }
def scriptPrintsRow : OpenClaim := { program := "ytljmfiegkefpoaa", sum := "c02b3e3003be13284a04174fe16fe8ff034060aadaa1af3904ef4433919b0d96", func := "spindle/spindlelaw22.ScriptPrints", spec := "scriptPrints", inPlace := ["internal/reflectlite.TypeOf"], unfollowed := true, recurses := true, apart := false }
def ScriptPrintsSaid : Prop := scriptPrintsRow.holds Try.pinned (OpenSpec.ofChange scriptPrintsSpec)

/-- ITS FALSE NEIGHBOUR: 'it returns false'. Refute it at one input. -/
def scriptPrintsWrong : ChangeSpec := { name := "scriptPrints", fn := fun _ => fun
  | [d] => { results := [.lit (.bool false)], args := [d] }
  | _ => none }
def ScriptPrintsWrongFalsely : Prop := scriptPrintsRow.holds Try.pinned (OpenSpec.ofChange scriptPrintsWrong)

/- THE SECOND FORM. 'bulk': how many values and letters a reading holds, each counted each time it is reached (what is shared counts as often as it is met; a slice's spare places count too). A statement '..UptoSaid' is the law's where the arguments, and the package variables that the reading takes, are together of bulk at most 1048576: NARROWER than '..Said'. Prove '..Said' where nothing that the law and all that it calls make is longer than what came in: it says more and counts as full. Else prove '..UptoSaid'. A law counts once. -/
mutual
def uptoBulk {H : Type} : DataW H → Nat
  | .lit (.string bytes) => bytes.length + 1
  | .lit _ => 1
  | .nil => 1
  | .ptr d => uptoBulk d + 1
  | .slice elems spare => uptoBulkAll elems + uptoBulkAll spare + 1
  | .agg parts => uptoBulkAll parts + 1
  | .iface _ d => uptoBulk d + 1
  | .map entries => uptoBulkEntries entries + 1
  | .held _ => 1
def uptoBulkAll {H : Type} : List (DataW H) → Nat
  | [] => 0
  | d :: r => uptoBulk d + uptoBulkAll r
def uptoBulkEntries {H : Type} : List (Lit × DataW H) → Nat
  | [] => 0
  | x :: r => uptoBulkEntry x + uptoBulkEntries r
def uptoBulkEntry {H : Type} : Lit × DataW H → Nat
  | (.string bytes, d) => bytes.length + uptoBulk d + 1
  | (_, d) => uptoBulk d + 1
 end
def uptoSmall : (H : Type) → List (DataW H) → Bool := fun _ ds => decide (uptoBulkAll ds ≤ 1048576)
def OpenSpec.upto (s : _root_.Go.ChangeSpec) : _root_.Go.OpenSpec := { _root_.Go.OpenSpec.ofChange s with cond := some uptoSmall }

/-- 'spindlelaw20.QueueDrops', WHERE WHAT IT READS IS OF BULK AT MOST 1048576: true; the input reads as it did. -/
def queueDropsUptoRow : OpenClaim := { program := "ytljmfiegkefpoaa", sum := "c02b3e3003be13284a04174fe16fe8ff034060aadaa1af3904ef4433919b0d96", func := "spindle/spindlelaw20.QueueDrops", spec := "queueDrops", inPlace := ["internal/reflectlite.TypeOf"], unfollowed := true, recurses := true, apart := false, narrowed := true }
def QueueDropsUptoSaid : Prop := queueDropsUptoRow.holds Try.pinned (OpenSpec.upto queueDropsSpec)

/-- 'spindlelaw20.QueueOrder', WHERE WHAT IT READS IS OF BULK AT MOST 1048576: true; the input reads as it did. -/
def queueOrderUptoRow : OpenClaim := { program := "ytljmfiegkefpoaa", sum := "c02b3e3003be13284a04174fe16fe8ff034060aadaa1af3904ef4433919b0d96", func := "spindle/spindlelaw20.QueueOrder", spec := "queueOrder", inPlace := ["internal/reflectlite.TypeOf"], unfollowed := true, recurses := true, apart := false, narrowed := true }
def QueueOrderUptoSaid : Prop := queueOrderUptoRow.holds Try.pinned (OpenSpec.upto queueOrderSpec)

/-- 'spindlelaw20.QueuePlays', WHERE WHAT IT READS IS OF BULK AT MOST 1048576: true; the input reads as it did. -/
def queuePlaysUptoRow : OpenClaim := { program := "ytljmfiegkefpoaa", sum := "c02b3e3003be13284a04174fe16fe8ff034060aadaa1af3904ef4433919b0d96", func := "spindle/spindlelaw20.QueuePlays", spec := "queuePlays", inPlace := ["internal/reflectlite.TypeOf"], unfollowed := true, recurses := true, apart := false, narrowed := true }
def QueuePlaysUptoSaid : Prop := queuePlaysUptoRow.holds Try.pinned (OpenSpec.upto queuePlaysSpec)

/-- 'spindlelaw20.QueueNil', WHERE WHAT IT READS IS OF BULK AT MOST 1048576: true; the input reads as it did. -/
def queueNilUptoRow : OpenClaim := { program := "ytljmfiegkefpoaa", sum := "c02b3e3003be13284a04174fe16fe8ff034060aadaa1af3904ef4433919b0d96", func := "spindle/spindlelaw20.QueueNil", spec := "queueNil", inPlace := ["internal/reflectlite.TypeOf"], unfollowed := true, recurses := true, apart := false, narrowed := true }
def QueueNilUptoSaid : Prop := queueNilUptoRow.holds Try.pinned (OpenSpec.upto queueNilSpec)

/-- 'spindlelaw20.QueueCopies', WHERE WHAT IT READS IS OF BULK AT MOST 1048576: true; the input reads as it did. -/
def queueCopiesUptoRow : OpenClaim := { program := "ytljmfiegkefpoaa", sum := "c02b3e3003be13284a04174fe16fe8ff034060aadaa1af3904ef4433919b0d96", func := "spindle/spindlelaw20.QueueCopies", spec := "queueCopies", inPlace := ["internal/reflectlite.TypeOf"], unfollowed := true, recurses := true, apart := false, narrowed := true }
def QueueCopiesUptoSaid : Prop := queueCopiesUptoRow.holds Try.pinned (OpenSpec.upto queueCopiesSpec)

/-- 'spindlelaw22.ScriptReads', WHERE WHAT IT READS IS OF BULK AT MOST 1048576: true; the input reads as it did. -/
def scriptReadsUptoRow : OpenClaim := { program := "ytljmfiegkefpoaa", sum := "c02b3e3003be13284a04174fe16fe8ff034060aadaa1af3904ef4433919b0d96", func := "spindle/spindlelaw22.ScriptReads", spec := "scriptReads", apart := false, narrowed := true }
def ScriptReadsUptoSaid : Prop := scriptReadsUptoRow.holds Try.pinned (OpenSpec.upto scriptReadsSpec)

/-- 'spindlelaw22.ScriptBack', WHERE WHAT IT READS IS OF BULK AT MOST 1048576: true; the input reads as it did. -/
def scriptBackUptoRow : OpenClaim := { program := "ytljmfiegkefpoaa", sum := "c02b3e3003be13284a04174fe16fe8ff034060aadaa1af3904ef4433919b0d96", func := "spindle/spindlelaw22.ScriptBack", spec := "scriptBack", apart := false, narrowed := true }
def ScriptBackUptoSaid : Prop := scriptBackUptoRow.holds Try.pinned (OpenSpec.upto scriptBackSpec)

/-- 'spindlelaw22.ScriptCuts', WHERE WHAT IT READS IS OF BULK AT MOST 1048576: true; the input reads as it did. -/
def scriptCutsUptoRow : OpenClaim := { program := "ytljmfiegkefpoaa", sum := "c02b3e3003be13284a04174fe16fe8ff034060aadaa1af3904ef4433919b0d96", func := "spindle/spindlelaw22.ScriptCuts", spec := "scriptCuts", apart := false, narrowed := true }
def ScriptCutsUptoSaid : Prop := scriptCutsUptoRow.holds Try.pinned (OpenSpec.upto scriptCutsSpec)

/-- 'spindlelaw22.ScriptPrints', WHERE WHAT IT READS IS OF BULK AT MOST 1048576: true; the input reads as it did. -/
def scriptPrintsUptoRow : OpenClaim := { program := "ytljmfiegkefpoaa", sum := "c02b3e3003be13284a04174fe16fe8ff034060aadaa1af3904ef4433919b0d96", func := "spindle/spindlelaw22.ScriptPrints", spec := "scriptPrints", inPlace := ["internal/reflectlite.TypeOf"], unfollowed := true, recurses := true, apart := false, narrowed := true }
def ScriptPrintsUptoSaid : Prop := scriptPrintsUptoRow.holds Try.pinned (OpenSpec.upto scriptPrintsSpec)

end Rows
end Go.Proofs.Ytljmfiegkefpoaa
