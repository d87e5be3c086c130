/-
  No cell of these rows narrows 'for every input' (looked for: loops, veiled, ifaces, maps, wideKeys, modest, calm, conditions, laid).
  DERIVED. THE GIVEN ROWS OF THIS SEAT. 11 by the template 'for every input the law returns true; each argument reads behind the call as it read before'; 0 by the template 'total and deterministic' (their statements: YtbjlapfcnldpoaaTotals.lean).
  GIVEN WITH THE SEED: the statements are not yours to turn. If you find one false, say at which input.
  Laid BY PROGRAM, IN A SANDBOX (cutbox-rows.mjs): the forced cells as the released guide's own fill.sh prints them over the translation f4c3ec7b0f943fff… (all of the seat's roots in one cut). By AI agents, Wed Nov 11 2026. No macro, syntax, notation, axiom, sorry.
-/
import Derived.Test.YtbjlapfcnldpoaaChecked
import GoSem.Claim
import GoSem.ClaimJoined
import GoSem.ClaimMapViews
import Derived.JoinedTies
import Derived.KernelRfl
namespace Go.Proofs.Ytbjlapfcnldpoaa
/- THE CELL 'sum', in the pinned program and in every row, IS THE sha256 OF THE DUMP (.gsa) THAT YtbjlapfcnldpoaaProg.lean LOADS. Nothing in Lean hashes anything: it is a label: what it is worth is what the hold of that sum in a sandbox is worth. -/
noncomputable def Try.pinned : Pinned := { name := "ytbjlapfcnldpoaa", sum := "f4c3ec7b0f943fffb1ad3f3d49604fbf983f894990044e32e256ab1df0725fc4", checked := Try.checked }
namespace Rows
def none {H : Type} : Left H := { results := [], args := [] }

/-- 'spindlelaw05.TreadRoots': WHATEVER THE INPUT: true; the input reads as it did. -/
def treadRootsSpec : ChangeSpec := { name := "treadRoots", fn := fun _ => fun
  | [d1, d2, d3] => { results := [.lit (.bool true)], args := [d1, d2, d3] }
  | _ => none }
def treadRootsRow : OpenClaim := { program := "ytbjlapfcnldpoaa", sum := "f4c3ec7b0f943fffb1ad3f3d49604fbf983f894990044e32e256ab1df0725fc4", func := "spindle/spindlelaw05.TreadRoots", spec := "treadRoots", inPlace := ["internal/reflectlite.TypeOf"], unfollowed := true, recurses := true, apart := false }
def TreadRootsSaid : Prop := treadRootsRow.holds Try.pinned (OpenSpec.ofChange treadRootsSpec)

/-- ITS FALSE NEIGHBOUR: 'it returns false'. Refute it at one input. -/
def treadRootsWrong : ChangeSpec := { name := "treadRoots", fn := fun _ => fun
  | [d1, d2, d3] => { results := [.lit (.bool false)], args := [d1, d2, d3] }
  | _ => none }
def TreadRootsWrongFalsely : Prop := treadRootsRow.holds Try.pinned (OpenSpec.ofChange treadRootsWrong)

/-- 'spindlelaw05.TreadFresh': WHATEVER THE INPUT: true; the input reads as it did. -/
def treadFreshSpec : ChangeSpec := { name := "treadFresh", fn := fun _ => fun
  | [d1, d2, d3, d4] => { results := [.lit (.bool true)], args := [d1, d2, d3, d4] }
  | _ => none }
def treadFreshRow : OpenClaim := { program := "ytbjlapfcnldpoaa", sum := "f4c3ec7b0f943fffb1ad3f3d49604fbf983f894990044e32e256ab1df0725fc4", func := "spindle/spindlelaw05.TreadFresh", spec := "treadFresh", inPlace := ["internal/reflectlite.TypeOf"], unfollowed := true, recurses := true, apart := false }
def TreadFreshSaid : Prop := treadFreshRow.holds Try.pinned (OpenSpec.ofChange treadFreshSpec)

/-- ITS FALSE NEIGHBOUR: 'it returns false'. Refute it at one input. -/
def treadFreshWrong : ChangeSpec := { name := "treadFresh", fn := fun _ => fun
  | [d1, d2, d3, d4] => { results := [.lit (.bool false)], args := [d1, d2, d3, d4] }
  | _ => none }
def TreadFreshWrongFalsely : Prop := treadFreshRow.holds Try.pinned (OpenSpec.ofChange treadFreshWrong)

/-- 'spindlelaw05.TreadKeeps': WHATEVER THE INPUT: true; the input reads as it did. -/
def treadKeepsSpec : ChangeSpec := { name := "treadKeeps", fn := fun _ => fun
  | [d1, d2] => { results := [.lit (.bool true)], args := [d1, d2] }
  | _ => none }
def treadKeepsRow : OpenClaim := { program := "ytbjlapfcnldpoaa", sum := "f4c3ec7b0f943fffb1ad3f3d49604fbf983f894990044e32e256ab1df0725fc4", func := "spindle/spindlelaw05.TreadKeeps", spec := "treadKeeps", inPlace := ["internal/reflectlite.TypeOf"], unfollowed := true, recurses := true, apart := false }
def TreadKeepsSaid : Prop := treadKeepsRow.holds Try.pinned (OpenSpec.ofChange treadKeepsSpec)

/-- ITS FALSE NEIGHBOUR: 'it returns false'. Refute it at one input. -/
def treadKeepsWrong : ChangeSpec := { name := "treadKeeps", fn := fun _ => fun
  | [d1, d2] => { results := [.lit (.bool false)], args := [d1, d2] }
  | _ => none }
def TreadKeepsWrongFalsely : Prop := treadKeepsRow.holds Try.pinned (OpenSpec.ofChange treadKeepsWrong)

/-- 'spindlelaw05.TreadRoom': WHATEVER THE INPUT: true; the input reads as it did. -/
def treadRoomSpec : ChangeSpec := { name := "treadRoom", fn := fun _ => fun
  | [d1, d2] => { results := [.lit (.bool true)], args := [d1, d2] }
  | _ => none }
def treadRoomRow : OpenClaim := { program := "ytbjlapfcnldpoaa", sum := "f4c3ec7b0f943fffb1ad3f3d49604fbf983f894990044e32e256ab1df0725fc4", func := "spindle/spindlelaw05.TreadRoom", spec := "treadRoom", inPlace := ["internal/reflectlite.TypeOf"], unfollowed := true, recurses := true, apart := false }
def TreadRoomSaid : Prop := treadRoomRow.holds Try.pinned (OpenSpec.ofChange treadRoomSpec)

/-- ITS FALSE NEIGHBOUR: 'it returns false'. Refute it at one input. -/
def treadRoomWrong : ChangeSpec := { name := "treadRoom", fn := fun _ => fun
  | [d1, d2] => { results := [.lit (.bool false)], args := [d1, d2] }
  | _ => none }
def TreadRoomWrongFalsely : Prop := treadRoomRow.holds Try.pinned (OpenSpec.ofChange treadRoomWrong)

/-- 'spindlelaw05.TreadWeak': WHATEVER THE INPUT: true; the input reads as it did. -/
def treadWeakSpec : ChangeSpec := { name := "treadWeak", fn := fun _ => fun
  | [d1, d2] => { results := [.lit (.bool true)], args := [d1, d2] }
  | _ => none }
def treadWeakRow : OpenClaim := { program := "ytbjlapfcnldpoaa", sum := "f4c3ec7b0f943fffb1ad3f3d49604fbf983f894990044e32e256ab1df0725fc4", func := "spindle/spindlelaw05.TreadWeak", spec := "treadWeak", inPlace := ["internal/reflectlite.TypeOf"], unfollowed := true, recurses := true, apart := false }
def TreadWeakSaid : Prop := treadWeakRow.holds Try.pinned (OpenSpec.ofChange treadWeakSpec)

/-- ITS FALSE NEIGHBOUR: 'it returns false'. Refute it at one input. -/
def treadWeakWrong : ChangeSpec := { name := "treadWeak", fn := fun _ => fun
  | [d1, d2] => { results := [.lit (.bool false)], args := [d1, d2] }
  | _ => none }
def TreadWeakWrongFalsely : Prop := treadWeakRow.holds Try.pinned (OpenSpec.ofChange treadWeakWrong)

/-- 'spindlelaw05.TreadFlip': WHATEVER THE INPUT: true; the input reads as it did. -/
def treadFlipSpec : ChangeSpec := { name := "treadFlip", fn := fun _ => fun
  | [d1, d2, d3] => { results := [.lit (.bool true)], args := [d1, d2, d3] }
  | _ => none }
def treadFlipRow : OpenClaim := { program := "ytbjlapfcnldpoaa", sum := "f4c3ec7b0f943fffb1ad3f3d49604fbf983f894990044e32e256ab1df0725fc4", func := "spindle/spindlelaw05.TreadFlip", spec := "treadFlip", inPlace := ["internal/reflectlite.TypeOf"], unfollowed := true, recurses := true, apart := false }
def TreadFlipSaid : Prop := treadFlipRow.holds Try.pinned (OpenSpec.ofChange treadFlipSpec)

/-- ITS FALSE NEIGHBOUR: 'it returns false'. Refute it at one input. -/
def treadFlipWrong : ChangeSpec := { name := "treadFlip", fn := fun _ => fun
  | [d1, d2, d3] => { results := [.lit (.bool false)], args := [d1, d2, d3] }
  | _ => none }
def TreadFlipWrongFalsely : Prop := treadFlipRow.holds Try.pinned (OpenSpec.ofChange treadFlipWrong)

/-- 'spindlelaw05.TreadNil': WHATEVER THE INPUT: true; the input reads as it did. -/
def treadNilSpec : ChangeSpec := { name := "treadNil", fn := fun _ => fun
  | [d1, d2, d3] => { results := [.lit (.bool true)], args := [d1, d2, d3] }
  | _ => none }
def treadNilRow : OpenClaim := { program := "ytbjlapfcnldpoaa", sum := "f4c3ec7b0f943fffb1ad3f3d49604fbf983f894990044e32e256ab1df0725fc4", func := "spindle/spindlelaw05.TreadNil", spec := "treadNil", inPlace := ["internal/reflectlite.TypeOf"], unfollowed := true, recurses := true, apart := false }
def TreadNilSaid : Prop := treadNilRow.holds Try.pinned (OpenSpec.ofChange treadNilSpec)

/-- ITS FALSE NEIGHBOUR: 'it returns false'. Refute it at one input. -/
def treadNilWrong : ChangeSpec := { name := "treadNil", fn := fun _ => fun
  | [d1, d2, d3] => { results := [.lit (.bool false)], args := [d1, d2, d3] }
  | _ => none }
def TreadNilWrongFalsely : Prop := treadNilRow.holds Try.pinned (OpenSpec.ofChange treadNilWrong)

/-- 'spindlelaw06.ObjFields': WHATEVER THE INPUT: true; the input reads as it did. -/
def objFieldsSpec : ChangeSpec := { name := "objFields", fn := fun _ => fun
  | [d1, d2, d3, d4, d5] => { results := [.lit (.bool true)], args := [d1, d2, d3, d4, d5] }
  | _ => none }
def objFieldsRow : OpenClaim := { program := "ytbjlapfcnldpoaa", sum := "f4c3ec7b0f943fffb1ad3f3d49604fbf983f894990044e32e256ab1df0725fc4", func := "spindle/spindlelaw06.ObjFields", spec := "objFields", inPlace := ["internal/reflectlite.TypeOf"], unfollowed := true, recurses := true, apart := false }
def ObjFieldsSaid : Prop := objFieldsRow.holds Try.pinned (OpenSpec.ofChange objFieldsSpec)

/-- ITS FALSE NEIGHBOUR: 'it returns false'. Refute it at one input. -/
def objFieldsWrong : ChangeSpec := { name := "objFields", fn := fun _ => fun
  | [d1, d2, d3, d4, d5] => { results := [.lit (.bool false)], args := [d1, d2, d3, d4, d5] }
  | _ => none }
def ObjFieldsWrongFalsely : Prop := objFieldsRow.holds Try.pinned (OpenSpec.ofChange objFieldsWrong)

/-- 'spindlelaw06.ObjStrings': WHATEVER THE INPUT: true; the input reads as it did. -/
def objStringsSpec : ChangeSpec := { name := "objStrings", fn := fun _ => fun
  | [d1, d2] => { results := [.lit (.bool true)], args := [d1, d2] }
  | _ => none }
def objStringsRow : OpenClaim := { program := "ytbjlapfcnldpoaa", sum := "f4c3ec7b0f943fffb1ad3f3d49604fbf983f894990044e32e256ab1df0725fc4", func := "spindle/spindlelaw06.ObjStrings", spec := "objStrings", inPlace := ["internal/reflectlite.TypeOf"], unfollowed := true, recurses := true, apart := false }
def ObjStringsSaid : Prop := objStringsRow.holds Try.pinned (OpenSpec.ofChange objStringsSpec)

/-- ITS FALSE NEIGHBOUR: 'it returns false'. Refute it at one input. -/
def objStringsWrong : ChangeSpec := { name := "objStrings", fn := fun _ => fun
  | [d1, d2] => { results := [.lit (.bool false)], args := [d1, d2] }
  | _ => none }
def ObjStringsWrongFalsely : Prop := objStringsRow.holds Try.pinned (OpenSpec.ofChange objStringsWrong)

/-- 'spindlelaw06.ObjKept': WHATEVER THE INPUT: true; the input reads as it did. -/
def objKeptSpec : ChangeSpec := { name := "objKept", fn := fun _ => fun
  | [d1, d2] => { results := [.lit (.bool true)], args := [d1, d2] }
  | _ => none }
def objKeptRow : OpenClaim := { program := "ytbjlapfcnldpoaa", sum := "f4c3ec7b0f943fffb1ad3f3d49604fbf983f894990044e32e256ab1df0725fc4", func := "spindle/spindlelaw06.ObjKept", spec := "objKept", inPlace := ["internal/reflectlite.TypeOf"], unfollowed := true, recurses := true, apart := false }
def ObjKeptSaid : Prop := objKeptRow.holds Try.pinned (OpenSpec.ofChange objKeptSpec)

/-- ITS FALSE NEIGHBOUR: 'it returns false'. Refute it at one input. -/
def objKeptWrong : ChangeSpec := { name := "objKept", fn := fun _ => fun
  | [d1, d2] => { results := [.lit (.bool false)], args := [d1, d2] }
  | _ => none }
def ObjKeptWrongFalsely : Prop := objKeptRow.holds Try.pinned (OpenSpec.ofChange objKeptWrong)

/-- 'spindlelaw06.ObjFill': WHATEVER THE INPUT: true; the input reads as it did. -/
def objFillSpec : ChangeSpec := { name := "objFill", fn := fun _ => fun
  | [d1, d2, d3] => { results := [.lit (.bool true)], args := [d1, d2, d3] }
  | _ => none }
def objFillRow : OpenClaim := { program := "ytbjlapfcnldpoaa", sum := "f4c3ec7b0f943fffb1ad3f3d49604fbf983f894990044e32e256ab1df0725fc4", func := "spindle/spindlelaw06.ObjFill", spec := "objFill", inPlace := ["internal/reflectlite.TypeOf"], unfollowed := true, recurses := true, apart := false }
def ObjFillSaid : Prop := objFillRow.holds Try.pinned (OpenSpec.ofChange objFillSpec)

/-- ITS FALSE NEIGHBOUR: 'it returns false'. Refute it at one input. -/
def objFillWrong : ChangeSpec := { name := "objFill", fn := fun _ => fun
  | [d1, d2, d3] => { results := [.lit (.bool false)], args := [d1, d2, d3] }
  | _ => none }
def ObjFillWrongFalsely : Prop := objFillRow.holds Try.pinned (OpenSpec.ofChange objFillWrong)

/- THE SECOND FORM. 'bulk': how many values and letters a reading holds, each counted each time it is reached (what is shared counts as often as it is met; a slice's spare places count too). A statement '..UptoSaid' is the law's where the arguments, and the package variables that the reading takes, are together of bulk at most 1048576: NARROWER than '..Said'. Prove '..Said' where nothing that the law and all that it calls make is longer than what came in: it says more and counts as full. Else prove '..UptoSaid'. A law counts once. -/
mutual
def uptoBulk {H : Type} : DataW H → Nat
  | .lit (.string bytes) => bytes.length + 1
  | .lit _ => 1
  | .nil => 1
  | .ptr d => uptoBulk d + 1
  | .slice elems spare => uptoBulkAll elems + uptoBulkAll spare + 1
  | .agg parts => uptoBulkAll parts + 1
  | .iface _ d => uptoBulk d + 1
  | .map entries => uptoBulkEntries entries + 1
  | .held _ => 1
def uptoBulkAll {H : Type} : List (DataW H) → Nat
  | [] => 0
  | d :: r => uptoBulk d + uptoBulkAll r
def uptoBulkEntries {H : Type} : List (Lit × DataW H) → Nat
  | [] => 0
  | x :: r => uptoBulkEntry x + uptoBulkEntries r
def uptoBulkEntry {H : Type} : Lit × DataW H → Nat
  | (.string bytes, d) => bytes.length + uptoBulk d + 1
  | (_, d) => uptoBulk d + 1
 end
def uptoSmall : (H : Type) → List (DataW H) → Bool := fun _ ds => decide (uptoBulkAll ds ≤ 1048576)
def OpenSpec.upto (s : _root_.Go.ChangeSpec) : _root_.Go.OpenSpec := { _root_.Go.OpenSpec.ofChange s with cond := some uptoSmall }

/-- 'spindlelaw05.TreadRoots', WHERE WHAT IT READS IS OF BULK AT MOST 1048576: true; the input reads as it did. -/
def treadRootsUptoRow : OpenClaim := { program := "ytbjlapfcnldpoaa", sum := "f4c3ec7b0f943fffb1ad3f3d49604fbf983f894990044e32e256ab1df0725fc4", func := "spindle/spindlelaw05.TreadRoots", spec := "treadRoots", inPlace := ["internal/reflectlite.TypeOf"], unfollowed := true, recurses := true, apart := false, narrowed := true }
def TreadRootsUptoSaid : Prop := treadRootsUptoRow.holds Try.pinned (OpenSpec.upto treadRootsSpec)

/-- 'spindlelaw05.TreadFresh', WHERE WHAT IT READS IS OF BULK AT MOST 1048576: true; the input reads as it did. -/
def treadFreshUptoRow : OpenClaim := { program := "ytbjlapfcnldpoaa", sum := "f4c3ec7b0f943fffb1ad3f3d49604fbf983f894990044e32e256ab1df0725fc4", func := "spindle/spindlelaw05.TreadFresh", spec := "treadFresh", inPlace := ["internal/reflectlite.TypeOf"], unfollowed := true, recurses := true, apart := false, narrowed := true }
def TreadFreshUptoSaid : Prop := treadFreshUptoRow.holds Try.pinned (OpenSpec.upto treadFreshSpec)

/-- 'spindlelaw05.TreadKeeps', WHERE WHAT IT READS IS OF BULK AT MOST 1048576: true; the input reads as it did. -/
def treadKeepsUptoRow : OpenClaim := { program := "ytbjlapfcnldpoaa", sum := "f4c3ec7b0f943fffb1ad3f3d49604fbf983f894990044e32e256ab1df0725fc4", func := "spindle/spindlelaw05.TreadKeeps", spec := "treadKeeps", inPlace := ["internal/reflectlite.TypeOf"], unfollowed := true, recurses := true, apart := false, narrowed := true }
def TreadKeepsUptoSaid : Prop := treadKeepsUptoRow.holds Try.pinned (OpenSpec.upto treadKeepsSpec)

/-- 'spindlelaw05.TreadRoom', WHERE WHAT IT READS IS OF BULK AT MOST 1048576: true; the input reads as it did. -/
def treadRoomUptoRow : OpenClaim := { program := "ytbjlapfcnldpoaa", sum := "f4c3ec7b0f943fffb1ad3f3d49604fbf983f894990044e32e256ab1df0725fc4", func := "spindle/spindlelaw05.TreadRoom", spec := "treadRoom", inPlace := ["internal/reflectlite.TypeOf"], unfollowed := true, recurses := true, apart := false, narrowed := true }
def TreadRoomUptoSaid : Prop := treadRoomUptoRow.holds Try.pinned (OpenSpec.upto treadRoomSpec)

/-- 'spindlelaw05.TreadWeak', WHERE WHAT IT READS IS OF BULK AT MOST 1048576: true; the input reads as it did. -/
def treadWeakUptoRow : OpenClaim := { program := "ytbjlapfcnldpoaa", sum := "f4c3ec7b0f943fffb1ad3f3d49604fbf983f894990044e32e256ab1df0725fc4", func := "spindle/spindlelaw05.TreadWeak", spec := "treadWeak", inPlace := ["internal/reflectlite.TypeOf"], unfollowed := true, recurses := true, apart := false, narrowed := true }
def TreadWeakUptoSaid : Prop := treadWeakUptoRow.holds Try.pinned (OpenSpec.upto treadWeakSpec)

/-- 'spindlelaw05.TreadFlip', WHERE WHAT IT READS IS OF BULK AT MOST 1048576: true; the input reads as it did. -/
def treadFlipUptoRow : OpenClaim := { program := "ytbjlapfcnldpoaa", sum := "f4c3ec7b0f943fffb1ad3f3d49604fbf983f894990044e32e256ab1df0725fc4", func := "spindle/spindlelaw05.TreadFlip", spec := "treadFlip", inPlace := ["internal/reflectlite.TypeOf"], unfollowed := true, recurses := true, apart := false, narrowed := true }
def TreadFlipUptoSaid : Prop := treadFlipUptoRow.holds Try.pinned (OpenSpec.upto treadFlipSpec)

/-- 'spindlelaw05.TreadNil', WHERE WHAT IT READS IS OF BULK AT MOST 1048576: true; the input reads as it did. -/
def treadNilUptoRow : OpenClaim := { program := "ytbjlapfcnldpoaa", sum := "f4c3ec7b0f943fffb1ad3f3d49604fbf983f894990044e32e256ab1df0725fc4", func := "spindle/spindlelaw05.TreadNil", spec := "treadNil", inPlace := ["internal/reflectlite.TypeOf"], unfollowed := true, recurses := true, apart := false, narrowed := true }
def TreadNilUptoSaid : Prop := treadNilUptoRow.holds Try.pinned (OpenSpec.upto treadNilSpec)

/-- 'spindlelaw06.ObjFields', WHERE WHAT IT READS IS OF BULK AT MOST 1048576: true; the input reads as it did. -/
def objFieldsUptoRow : OpenClaim := { program := "ytbjlapfcnldpoaa", sum := "f4c3ec7b0f943fffb1ad3f3d49604fbf983f894990044e32e256ab1df0725fc4", func := "spindle/spindlelaw06.ObjFields", spec := "objFields", inPlace := ["internal/reflectlite.TypeOf"], unfollowed := true, recurses := true, apart := false, narrowed := true }
def ObjFieldsUptoSaid : Prop := objFieldsUptoRow.holds Try.pinned (OpenSpec.upto objFieldsSpec)

/-- 'spindlelaw06.ObjStrings', WHERE WHAT IT READS IS OF BULK AT MOST 1048576: true; the input reads as it did. -/
def objStringsUptoRow : OpenClaim := { program := "ytbjlapfcnldpoaa", sum := "f4c3ec7b0f943fffb1ad3f3d49604fbf983f894990044e32e256ab1df0725fc4", func := "spindle/spindlelaw06.ObjStrings", spec := "objStrings", inPlace := ["internal/reflectlite.TypeOf"], unfollowed := true, recurses := true, apart := false, narrowed := true }
def ObjStringsUptoSaid : Prop := objStringsUptoRow.holds Try.pinned (OpenSpec.upto objStringsSpec)

/-- 'spindlelaw06.ObjKept', WHERE WHAT IT READS IS OF BULK AT MOST 1048576: true; the input reads as it did. -/
def objKeptUptoRow : OpenClaim := { program := "ytbjlapfcnldpoaa", sum := "f4c3ec7b0f943fffb1ad3f3d49604fbf983f894990044e32e256ab1df0725fc4", func := "spindle/spindlelaw06.ObjKept", spec := "objKept", inPlace := ["internal/reflectlite.TypeOf"], unfollowed := true, recurses := true, apart := false, narrowed := true }
def ObjKeptUptoSaid : Prop := objKeptUptoRow.holds Try.pinned (OpenSpec.upto objKeptSpec)

/-- 'spindlelaw06.ObjFill', WHERE WHAT IT READS IS OF BULK AT MOST 1048576: true; the input reads as it did. -/
def objFillUptoRow : OpenClaim := { program := "ytbjlapfcnldpoaa", sum := "f4c3ec7b0f943fffb1ad3f3d49604fbf983f894990044e32e256ab1df0725fc4", func := "spindle/spindlelaw06.ObjFill", spec := "objFill", inPlace := ["internal/reflectlite.TypeOf"], unfollowed := true, recurses := true, apart := false, narrowed := true }
def ObjFillUptoSaid : Prop := objFillUptoRow.holds Try.pinned (OpenSpec.upto objFillSpec)

end Rows
end Go.Proofs.Ytbjlapfcnldpoaa
