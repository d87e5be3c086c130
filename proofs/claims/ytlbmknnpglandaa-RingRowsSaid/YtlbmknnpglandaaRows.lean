/-
  No cell of these rows narrows 'for every input' (looked for: loops, veiled, ifaces, maps, wideKeys, modest, calm, conditions, laid).
  DERIVED. THE GIVEN ROWS OF THIS SEAT. 8 by the template 'for every input the law returns true; each argument reads behind the call as it read before'; 0 by the template 'total and deterministic' (their statements: YtlbmknnpglandaaTotals.lean).
  GIVEN WITH THE SEED: the statements are not yours to turn. If you find one false, say at which input.
  Laid BY PROGRAM, IN A SANDBOX (cutbox-rows.mjs): the forced cells as the released guide's own fill.sh prints them over the translation 805cefd94cd55ec4… (all of the seat's roots in one cut). By AI agents, Wed Nov 11 2026. No macro, syntax, notation, axiom, sorry.
-/
import Derived.Test.YtlbmknnpglandaaChecked
import GoSem.Claim
import GoSem.ClaimJoined
import GoSem.ClaimMapViews
import Derived.JoinedTies
import Derived.KernelRfl
namespace Go.Proofs.Ytlbmknnpglandaa
/- THE CELL 'sum', in the pinned program and in every row, IS THE sha256 OF THE DUMP (.gsa) THAT YtlbmknnpglandaaProg.lean LOADS. Nothing in Lean hashes anything: it is a label: what it is worth is what the hold of that sum in a sandbox is worth. -/
noncomputable def Try.pinned : Pinned := { name := "ytlbmknnpglandaa", sum := "805cefd94cd55ec4170a3c4cbaf261088287b8c2d8e5d5898e506ef1300fa103", checked := Try.checked }
namespace Rows
def none {H : Type} : Left H := { results := [], args := [] }

/-- 'spindlelaw03.StoreOne': WHATEVER THE INPUT: true; the input reads as it did. -/
def storeOneSpec : ChangeSpec := { name := "storeOne", fn := fun _ => fun
  | [d1, d2, d3, d4] => { results := [.lit (.bool true)], args := [d1, d2, d3, d4] }
  | _ => none }
def storeOneRow : OpenClaim := { program := "ytlbmknnpglandaa", sum := "805cefd94cd55ec4170a3c4cbaf261088287b8c2d8e5d5898e506ef1300fa103", func := "spindle/spindlelaw03.StoreOne", spec := "storeOne", inPlace := ["internal/reflectlite.TypeOf"], unfollowed := true, recurses := true, apart := false }
def StoreOneSaid : Prop := storeOneRow.holds Try.pinned (OpenSpec.ofChange storeOneSpec)

/-- ITS FALSE NEIGHBOUR: 'it returns false'. Refute it at one input. -/
def storeOneWrong : ChangeSpec := { name := "storeOne", fn := fun _ => fun
  | [d1, d2, d3, d4] => { results := [.lit (.bool false)], args := [d1, d2, d3, d4] }
  | _ => none }
def StoreOneWrongFalsely : Prop := storeOneRow.holds Try.pinned (OpenSpec.ofChange storeOneWrong)

/-- 'spindlelaw03.StoreCounts': WHATEVER THE INPUT: true; the input reads as it did. -/
def storeCountsSpec : ChangeSpec := { name := "storeCounts", fn := fun _ => fun
  | [d1, d2] => { results := [.lit (.bool true)], args := [d1, d2] }
  | _ => none }
def storeCountsRow : OpenClaim := { program := "ytlbmknnpglandaa", sum := "805cefd94cd55ec4170a3c4cbaf261088287b8c2d8e5d5898e506ef1300fa103", func := "spindle/spindlelaw03.StoreCounts", spec := "storeCounts", inPlace := ["internal/reflectlite.TypeOf"], unfollowed := true, recurses := true, apart := false }
def StoreCountsSaid : Prop := storeCountsRow.holds Try.pinned (OpenSpec.ofChange storeCountsSpec)

/-- ITS FALSE NEIGHBOUR: 'it returns false'. Refute it at one input. -/
def storeCountsWrong : ChangeSpec := { name := "storeCounts", fn := fun _ => fun
  | [d1, d2] => { results := [.lit (.bool false)], args := [d1, d2] }
  | _ => none }
def StoreCountsWrongFalsely : Prop := storeCountsRow.holds Try.pinned (OpenSpec.ofChange storeCountsWrong)

/-- 'spindlelaw03.StorePlays': WHATEVER THE INPUT: true; the input reads as it did. -/
def storePlaysSpec : ChangeSpec := { name := "storePlays", fn := fun _ => fun
  | [d1, d2] => { results := [.lit (.bool true)], args := [d1, d2] }
  | _ => none }
def storePlaysRow : OpenClaim := { program := "ytlbmknnpglandaa", sum := "805cefd94cd55ec4170a3c4cbaf261088287b8c2d8e5d5898e506ef1300fa103", func := "spindle/spindlelaw03.StorePlays", spec := "storePlays", inPlace := ["internal/reflectlite.TypeOf"], unfollowed := true, recurses := true, apart := false }
def StorePlaysSaid : Prop := storePlaysRow.holds Try.pinned (OpenSpec.ofChange storePlaysSpec)

/-- ITS FALSE NEIGHBOUR: 'it returns false'. Refute it at one input. -/
def storePlaysWrong : ChangeSpec := { name := "storePlays", fn := fun _ => fun
  | [d1, d2] => { results := [.lit (.bool false)], args := [d1, d2] }
  | _ => none }
def StorePlaysWrongFalsely : Prop := storePlaysRow.holds Try.pinned (OpenSpec.ofChange storePlaysWrong)

/-- 'spindlelaw03.StoreNil': WHATEVER THE INPUT: true; the input reads as it did. -/
def storeNilSpec : ChangeSpec := { name := "storeNil", fn := fun _ => fun
  | [d1, d2] => { results := [.lit (.bool true)], args := [d1, d2] }
  | _ => none }
def storeNilRow : OpenClaim := { program := "ytlbmknnpglandaa", sum := "805cefd94cd55ec4170a3c4cbaf261088287b8c2d8e5d5898e506ef1300fa103", func := "spindle/spindlelaw03.StoreNil", spec := "storeNil", inPlace := ["internal/reflectlite.TypeOf"], unfollowed := true, recurses := true, apart := false }
def StoreNilSaid : Prop := storeNilRow.holds Try.pinned (OpenSpec.ofChange storeNilSpec)

/-- ITS FALSE NEIGHBOUR: 'it returns false'. Refute it at one input. -/
def storeNilWrong : ChangeSpec := { name := "storeNil", fn := fun _ => fun
  | [d1, d2] => { results := [.lit (.bool false)], args := [d1, d2] }
  | _ => none }
def StoreNilWrongFalsely : Prop := storeNilRow.holds Try.pinned (OpenSpec.ofChange storeNilWrong)

/-- 'spindlelaw03.StoreCopies': WHATEVER THE INPUT: true; the input reads as it did. -/
def storeCopiesSpec : ChangeSpec := { name := "storeCopies", fn := fun _ => fun
  | [d1, d2, d3] => { results := [.lit (.bool true)], args := [d1, d2, d3] }
  | _ => none }
def storeCopiesRow : OpenClaim := { program := "ytlbmknnpglandaa", sum := "805cefd94cd55ec4170a3c4cbaf261088287b8c2d8e5d5898e506ef1300fa103", func := "spindle/spindlelaw03.StoreCopies", spec := "storeCopies", inPlace := ["internal/reflectlite.TypeOf"], unfollowed := true, recurses := true, apart := false }
def StoreCopiesSaid : Prop := storeCopiesRow.holds Try.pinned (OpenSpec.ofChange storeCopiesSpec)

/-- ITS FALSE NEIGHBOUR: 'it returns false'. Refute it at one input. -/
def storeCopiesWrong : ChangeSpec := { name := "storeCopies", fn := fun _ => fun
  | [d1, d2, d3] => { results := [.lit (.bool false)], args := [d1, d2, d3] }
  | _ => none }
def StoreCopiesWrongFalsely : Prop := storeCopiesRow.holds Try.pinned (OpenSpec.ofChange storeCopiesWrong)

/-- 'spindlelaw04.RingOne': WHATEVER THE INPUT: true; the input reads as it did. -/
def ringOneSpec : ChangeSpec := { name := "ringOne", fn := fun _ => fun
  | [d1, d2] => { results := [.lit (.bool true)], args := [d1, d2] }
  | _ => none }
def ringOneRow : OpenClaim := { program := "ytlbmknnpglandaa", sum := "805cefd94cd55ec4170a3c4cbaf261088287b8c2d8e5d5898e506ef1300fa103", func := "spindle/spindlelaw04.RingOne", spec := "ringOne", apart := false }
def RingOneSaid : Prop := ringOneRow.holds Try.pinned (OpenSpec.ofChange ringOneSpec)

/-- ITS FALSE NEIGHBOUR: 'it returns false'. Refute it at one input. -/
def ringOneWrong : ChangeSpec := { name := "ringOne", fn := fun _ => fun
  | [d1, d2] => { results := [.lit (.bool false)], args := [d1, d2] }
  | _ => none }
def RingOneWrongFalsely : Prop := ringOneRow.holds Try.pinned (OpenSpec.ofChange ringOneWrong)

/-- 'spindlelaw04.RingEmpty': WHATEVER THE INPUT: true; the input reads as it did. -/
def ringEmptySpec : ChangeSpec := { name := "ringEmpty", fn := fun _ => fun
  | [d] => { results := [.lit (.bool true)], args := [d] }
  | _ => none }
def ringEmptyRow : OpenClaim := { program := "ytlbmknnpglandaa", sum := "805cefd94cd55ec4170a3c4cbaf261088287b8c2d8e5d5898e506ef1300fa103", func := "spindle/spindlelaw04.RingEmpty", spec := "ringEmpty", apart := false }
def RingEmptySaid : Prop := ringEmptyRow.holds Try.pinned (OpenSpec.ofChange ringEmptySpec)

/-- ITS FALSE NEIGHBOUR: 'it returns false'. Refute it at one input. -/
def ringEmptyWrong : ChangeSpec := { name := "ringEmpty", fn := fun _ => fun
  | [d] => { results := [.lit (.bool false)], args := [d] }
  | _ => none }
def RingEmptyWrongFalsely : Prop := ringEmptyRow.holds Try.pinned (OpenSpec.ofChange ringEmptyWrong)

/-- 'spindlelaw04.RingRows': WHATEVER THE INPUT: true; the input reads as it did. -/
def ringRowsSpec : ChangeSpec := { name := "ringRows", fn := fun _ => fun
  | [d1, d2] => { results := [.lit (.bool true)], args := [d1, d2] }
  | _ => none }
def ringRowsRow : OpenClaim := { program := "ytlbmknnpglandaa", sum := "805cefd94cd55ec4170a3c4cbaf261088287b8c2d8e5d5898e506ef1300fa103", func := "spindle/spindlelaw04.RingRows", spec := "ringRows", apart := false }
def RingRowsSaid : Prop := ringRowsRow.holds Try.pinned (OpenSpec.ofChange ringRowsSpec)

/-- ITS FALSE NEIGHBOUR: 'it returns false'. Refute it at one input. -/
def ringRowsWrong : ChangeSpec := { name := "ringRows", fn := fun _ => fun
  | [d1, d2] => { results := [.lit (.bool false)], args := [d1, d2] }
  | _ => none }
def RingRowsWrongFalsely : Prop := ringRowsRow.holds Try.pinned (OpenSpec.ofChange ringRowsWrong)

/- THE SECOND FORM. 'bulk': how many values and letters a reading holds, each counted each time it is reached (what is shared counts as often as it is met; a slice's spare places count too). A statement '..UptoSaid' is the law's where the arguments, and the package variables that the reading takes, are together of bulk at most 1048576: NARROWER than '..Said'. Prove '..Said' where nothing that the law and all that it calls make is longer than what came in: it says more and counts as full. Else prove '..UptoSaid'. A law counts once. -/
mutual
def uptoBulk {H : Type} : DataW H → Nat
  | .lit (.string bytes) => bytes.length + 1
  | .lit _ => 1
  | .nil => 1
  | .ptr d => uptoBulk d + 1
  | .slice elems spare => uptoBulkAll elems + uptoBulkAll spare + 1
  | .agg parts => uptoBulkAll parts + 1
  | .iface _ d => uptoBulk d + 1
  | .map entries => uptoBulkEntries entries + 1
  | .held _ => 1
def uptoBulkAll {H : Type} : List (DataW H) → Nat
  | [] => 0
  | d :: r => uptoBulk d + uptoBulkAll r
def uptoBulkEntries {H : Type} : List (Lit × DataW H) → Nat
  | [] => 0
  | x :: r => uptoBulkEntry x + uptoBulkEntries r
def uptoBulkEntry {H : Type} : Lit × DataW H → Nat
  | (.string bytes, d) => bytes.length + uptoBulk d + 1
  | (_, d) => uptoBulk d + 1
 end
def uptoSmall : (H : Type) → List (DataW H) → Bool := fun _ ds => decide (uptoBulkAll ds ≤ 1048576)
def OpenSpec.upto (s : _root_.Go.ChangeSpec) : _root_.Go.OpenSpec := { _root_.Go.OpenSpec.ofChange s with cond := some uptoSmall }

/-- 'spindlelaw03.StoreOne', WHERE WHAT IT READS IS OF BULK AT MOST 1048576: true; the input reads as it did. -/
def storeOneUptoRow : OpenClaim := { program := "ytlbmknnpglandaa", sum := "805cefd94cd55ec4170a3c4cbaf261088287b8c2d8e5d5898e506ef1300fa103", func := "spindle/spindlelaw03.StoreOne", spec := "storeOne", inPlace := ["internal/reflectlite.TypeOf"], unfollowed := true, recurses := true, apart := false, narrowed := true }
def StoreOneUptoSaid : Prop := storeOneUptoRow.holds Try.pinned (OpenSpec.upto storeOneSpec)

/-- 'spindlelaw03.StoreCounts', WHERE WHAT IT READS IS OF BULK AT MOST 1048576: true; the input reads as it did. -/
def storeCountsUptoRow : OpenClaim := { program := "ytlbmknnpglandaa", sum := "805cefd94cd55ec4170a3c4cbaf261088287b8c2d8e5d5898e506ef1300fa103", func := "spindle/spindlelaw03.StoreCounts", spec := "storeCounts", inPlace := ["internal/reflectlite.TypeOf"], unfollowed := true, recurses := true, apart := false, narrowed := true }
def StoreCountsUptoSaid : Prop := storeCountsUptoRow.holds Try.pinned (OpenSpec.upto storeCountsSpec)

/-- 'spindlelaw03.StorePlays', WHERE WHAT IT READS IS OF BULK AT MOST 1048576: true; the input reads as it did. -/
def storePlaysUptoRow : OpenClaim := { program := "ytlbmknnpglandaa", sum := "805cefd94cd55ec4170a3c4cbaf261088287b8c2d8e5d5898e506ef1300fa103", func := "spindle/spindlelaw03.StorePlays", spec := "storePlays", inPlace := ["internal/reflectlite.TypeOf"], unfollowed := true, recurses := true, apart := false, narrowed := true }
def StorePlaysUptoSaid : Prop := storePlaysUptoRow.holds Try.pinned (OpenSpec.upto storePlaysSpec)

/-- 'spindlelaw03.StoreNil', WHERE WHAT IT READS IS OF BULK AT MOST 1048576: true; the input reads as it did. -/
def storeNilUptoRow : OpenClaim := { program := "ytlbmknnpglandaa", sum := "805cefd94cd55ec4170a3c4cbaf261088287b8c2d8e5d5898e506ef1300fa103", func := "spindle/spindlelaw03.StoreNil", spec := "storeNil", inPlace := ["internal/reflectlite.TypeOf"], unfollowed := true, recurses := true, apart := false, narrowed := true }
def StoreNilUptoSaid : Prop := storeNilUptoRow.holds Try.pinned (OpenSpec.upto storeNilSpec)

/-- 'spindlelaw03.StoreCopies', WHERE WHAT IT READS IS OF BULK AT MOST 1048576: true; the input reads as it did. -/
def storeCopiesUptoRow : OpenClaim := { program := "ytlbmknnpglandaa", sum := "805cefd94cd55ec4170a3c4cbaf261088287b8c2d8e5d5898e506ef1300fa103", func := "spindle/spindlelaw03.StoreCopies", spec := "storeCopies", inPlace := ["internal/reflectlite.TypeOf"], unfollowed := true, recurses := true, apart := false, narrowed := true }
def StoreCopiesUptoSaid : Prop := storeCopiesUptoRow.holds Try.pinned (OpenSpec.upto storeCopiesSpec)

/-- 'spindlelaw04.RingOne', WHERE WHAT IT READS IS OF BULK AT MOST 1048576: true; the input reads as it did. -/
def ringOneUptoRow : OpenClaim := { program := "ytlbmknnpglandaa", sum := "805cefd94cd55ec4170a3c4cbaf261088287b8c2d8e5d5898e506ef1300fa103", func := "spindle/spindlelaw04.RingOne", spec := "ringOne", apart := false, narrowed := true }
def RingOneUptoSaid : Prop := ringOneUptoRow.holds Try.pinned (OpenSpec.upto ringOneSpec)

/-- 'spindlelaw04.RingEmpty', WHERE WHAT IT READS IS OF BULK AT MOST 1048576: true; the input reads as it did. -/
def ringEmptyUptoRow : OpenClaim := { program := "ytlbmknnpglandaa", sum := "805cefd94cd55ec4170a3c4cbaf261088287b8c2d8e5d5898e506ef1300fa103", func := "spindle/spindlelaw04.RingEmpty", spec := "ringEmpty", apart := false, narrowed := true }
def RingEmptyUptoSaid : Prop := ringEmptyUptoRow.holds Try.pinned (OpenSpec.upto ringEmptySpec)

/-- 'spindlelaw04.RingRows', WHERE WHAT IT READS IS OF BULK AT MOST 1048576: true; the input reads as it did. -/
def ringRowsUptoRow : OpenClaim := { program := "ytlbmknnpglandaa", sum := "805cefd94cd55ec4170a3c4cbaf261088287b8c2d8e5d5898e506ef1300fa103", func := "spindle/spindlelaw04.RingRows", spec := "ringRows", apart := false, narrowed := true }
def RingRowsUptoSaid : Prop := ringRowsUptoRow.holds Try.pinned (OpenSpec.upto ringRowsSpec)

end Rows
end Go.Proofs.Ytlbmknnpglandaa
