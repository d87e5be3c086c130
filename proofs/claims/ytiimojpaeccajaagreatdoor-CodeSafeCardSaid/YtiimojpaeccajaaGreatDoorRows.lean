/-
  NARROWER THAN 'FOR EVERY INPUT', by the rows' own cells (each row's printed sentence says how): CodeChecks: loops, laid · CodeSafe: loops, laid · CompileTail: loops, laid · CompilePlays: loops, laid · CompileLength: loops, laid · CompileSame: loops, laid · CompileWell: loops, laid · CompileEntries: loops, laid.
  DERIVED. THE GIVEN ROWS OF THIS SEAT. 8 by the template 'for every input the law returns true; each argument reads behind the call as it read before'; 0 by the template 'total and deterministic' (their statements: YtiimojpaeccajaaGreatDoorTotals.lean).
  GIVEN WITH THE SEED: the statements are not yours to turn. If you find one false, say at which input.
  Laid BY PROGRAM, IN A SANDBOX (cutbox-rows.mjs): the forced cells as the released guide's own fill.sh prints them over the translation 49d3a3749212740c… (all of the seat's roots in one cut). By AI agents, Wed Nov 11 2026. No macro, syntax, notation, axiom, sorry.
-/
import Derived.Test.YtiimojpaeccajaaGreatDoorChecked
import GoSem.Claim
import GoSem.ClaimJoined
import GoSem.ClaimMapViews
import Derived.JoinedTies
import Derived.KernelRfl
namespace Go.Proofs.YtiimojpaeccajaaGreatDoor
/- THE CELL 'sum', in the pinned program and in every row, IS THE sha256 OF THE DUMP (.gsa) THAT YtiimojpaeccajaaGreatDoorProg.lean LOADS. Nothing in Lean hashes anything: it is a label: what it is worth is what the hold of that sum in a sandbox is worth. -/
noncomputable def Tryz.pinned : Pinned := { name := "ytiimojpaeccajaagreatdoor", sum := "49d3a3749212740cc4cc3a5ce2d9d13e4a2391e587167d3148529ea7f171177b", checked := Tryz.checked }
namespace Rows
def none {H : Type} : Left H := { results := [], args := [] }

/- WHAT THE LISTED PACKAGE-LEVEL VARIABLES READ AS WHEN THE CALL BEGINS. Each datum BY PROGRAM (the guide's laid-datum.mjs) off the statement by which the dump's own 'gosem.cut.vars' lays the variable. In a bare row this is a premise. The card (YtiimojpaeccajaaGreatDoorCards.lean) ties it to the program's text. -/
def laid_math_bits_deBruijn32tab {H : Type} : DataW H := .agg [.lit (.int .u8 0), .lit (.int .u8 1), .lit (.int .u8 28), .lit (.int .u8 2), .lit (.int .u8 29), .lit (.int .u8 14), .lit (.int .u8 24), .lit (.int .u8 3), .lit (.int .u8 30), .lit (.int .u8 22), .lit (.int .u8 20), .lit (.int .u8 15), .lit (.int .u8 25), .lit (.int .u8 17), .lit (.int .u8 4), .lit (.int .u8 8), .lit (.int .u8 31), .lit (.int .u8 27), .lit (.int .u8 13), .lit (.int .u8 23), .lit (.int .u8 21), .lit (.int .u8 19), .lit (.int .u8 16), .lit (.int .u8 7), .lit (.int .u8 26), .lit (.int .u8 12), .lit (.int .u8 18), .lit (.int .u8 6), .lit (.int .u8 11), .lit (.int .u8 5), .lit (.int .u8 10), .lit (.int .u8 9)]
def laid_math_bits_deBruijn64tab {H : Type} : DataW H := .agg [.lit (.int .u8 0), .lit (.int .u8 1), .lit (.int .u8 56), .lit (.int .u8 2), .lit (.int .u8 57), .lit (.int .u8 49), .lit (.int .u8 28), .lit (.int .u8 3), .lit (.int .u8 61), .lit (.int .u8 58), .lit (.int .u8 42), .lit (.int .u8 50), .lit (.int .u8 38), .lit (.int .u8 29), .lit (.int .u8 17), .lit (.int .u8 4), .lit (.int .u8 62), .lit (.int .u8 47), .lit (.int .u8 59), .lit (.int .u8 36), .lit (.int .u8 45), .lit (.int .u8 43), .lit (.int .u8 51), .lit (.int .u8 22), .lit (.int .u8 53), .lit (.int .u8 39), .lit (.int .u8 33), .lit (.int .u8 30), .lit (.int .u8 24), .lit (.int .u8 18), .lit (.int .u8 12), .lit (.int .u8 5), .lit (.int .u8 63), .lit (.int .u8 55), .lit (.int .u8 48), .lit (.int .u8 27), .lit (.int .u8 60), .lit (.int .u8 41), .lit (.int .u8 37), .lit (.int .u8 16), .lit (.int .u8 46), .lit (.int .u8 35), .lit (.int .u8 44), .lit (.int .u8 21), .lit (.int .u8 52), .lit (.int .u8 32), .lit (.int .u8 23), .lit (.int .u8 11), .lit (.int .u8 54), .lit (.int .u8 26), .lit (.int .u8 40), .lit (.int .u8 15), .lit (.int .u8 34), .lit (.int .u8 20), .lit (.int .u8 31), .lit (.int .u8 10), .lit (.int .u8 25), .lit (.int .u8 14), .lit (.int .u8 19), .lit (.int .u8 9), .lit (.int .u8 13), .lit (.int .u8 8), .lit (.int .u8 7), .lit (.int .u8 6)]
def laid_internal_strconv_uint64pow10 {H : Type} : DataW H := .agg [.lit (.int .u64 1), .lit (.int .u64 10), .lit (.int .u64 100), .lit (.int .u64 1000), .lit (.int .u64 10000), .lit (.int .u64 100000), .lit (.int .u64 1000000), .lit (.int .u64 10000000), .lit (.int .u64 100000000), .lit (.int .u64 1000000000), .lit (.int .u64 10000000000), .lit (.int .u64 100000000000), .lit (.int .u64 1000000000000), .lit (.int .u64 10000000000000), .lit (.int .u64 100000000000000), .lit (.int .u64 1000000000000000), .lit (.int .u64 10000000000000000), .lit (.int .u64 100000000000000000), .lit (.int .u64 1000000000000000000), .lit (.int .u64 10000000000000000000)]

/-- 'spindlelaw16.CodeChecks': WHATEVER THE INPUT: true; the input reads as it did. -/
def codeChecksSpec : ChangeSpec := { name := "codeChecks", fn := fun _ => fun
  | [d] => { results := [.lit (.bool true)], args := [d] }
  | _ => none }
def codeChecksRow : OpenClaim := { program := "ytiimojpaeccajaagreatdoor", sum := "49d3a3749212740cc4cc3a5ce2d9d13e4a2391e587167d3148529ea7f171177b", func := "spindle/spindlelaw16.CodeChecks", spec := "codeChecks", inPlace := ["internal/reflectlite.TypeOf", "internal/bytealg.IndexByteString", "internal/abi.NoEscape"], unfollowed := true, recurses := true, named := ["internal/strconv.uint64pow10", "math/bits.deBruijn32tab", "math/bits.deBruijn64tab"], loops := true, apart := false, laid := [("math/bits.deBruijn32tab", laid_math_bits_deBruijn32tab), ("math/bits.deBruijn64tab", laid_math_bits_deBruijn64tab), ("internal/strconv.uint64pow10", laid_internal_strconv_uint64pow10)] }
def CodeChecksSaid : Prop := codeChecksRow.holds Tryz.pinned (OpenSpec.ofChange codeChecksSpec)

/-- ITS FALSE NEIGHBOUR: 'it returns false'. Refute it at one input. -/
def codeChecksWrong : ChangeSpec := { name := "codeChecks", fn := fun _ => fun
  | [d] => { results := [.lit (.bool false)], args := [d] }
  | _ => none }
def CodeChecksWrongFalsely : Prop := codeChecksRow.holds Tryz.pinned (OpenSpec.ofChange codeChecksWrong)

/-- 'spindlelaw16.CodeSafe': WHATEVER THE INPUT: true; the input reads as it did. -/
def codeSafeSpec : ChangeSpec := { name := "codeSafe", fn := fun _ => fun
  | [d1, d2] => { results := [.lit (.bool true)], args := [d1, d2] }
  | _ => none }
def codeSafeRow : OpenClaim := { program := "ytiimojpaeccajaagreatdoor", sum := "49d3a3749212740cc4cc3a5ce2d9d13e4a2391e587167d3148529ea7f171177b", func := "spindle/spindlelaw16.CodeSafe", spec := "codeSafe", inPlace := ["internal/reflectlite.TypeOf", "internal/bytealg.IndexByteString", "internal/abi.NoEscape"], unfollowed := true, recurses := true, named := ["internal/strconv.uint64pow10", "math/bits.deBruijn32tab", "math/bits.deBruijn64tab"], loops := true, apart := false, laid := [("math/bits.deBruijn32tab", laid_math_bits_deBruijn32tab), ("math/bits.deBruijn64tab", laid_math_bits_deBruijn64tab), ("internal/strconv.uint64pow10", laid_internal_strconv_uint64pow10)] }
def CodeSafeSaid : Prop := codeSafeRow.holds Tryz.pinned (OpenSpec.ofChange codeSafeSpec)

/-- ITS FALSE NEIGHBOUR: 'it returns false'. Refute it at one input. -/
def codeSafeWrong : ChangeSpec := { name := "codeSafe", fn := fun _ => fun
  | [d1, d2] => { results := [.lit (.bool false)], args := [d1, d2] }
  | _ => none }
def CodeSafeWrongFalsely : Prop := codeSafeRow.holds Tryz.pinned (OpenSpec.ofChange codeSafeWrong)

/-- 'spindlelaw17.CompileTail': WHATEVER THE INPUT: true; the input reads as it did. -/
def compileTailSpec : ChangeSpec := { name := "compileTail", fn := fun _ => fun
  | [d] => { results := [.lit (.bool true)], args := [d] }
  | _ => none }
def compileTailRow : OpenClaim := { program := "ytiimojpaeccajaagreatdoor", sum := "49d3a3749212740cc4cc3a5ce2d9d13e4a2391e587167d3148529ea7f171177b", func := "spindle/spindlelaw17.CompileTail", spec := "compileTail", inPlace := ["internal/reflectlite.TypeOf", "internal/bytealg.IndexByteString", "internal/abi.NoEscape"], unfollowed := true, recurses := true, named := ["internal/strconv.uint64pow10", "math/bits.deBruijn32tab", "math/bits.deBruijn64tab"], loops := true, apart := false, laid := [("math/bits.deBruijn32tab", laid_math_bits_deBruijn32tab), ("math/bits.deBruijn64tab", laid_math_bits_deBruijn64tab), ("internal/strconv.uint64pow10", laid_internal_strconv_uint64pow10)] }
def CompileTailSaid : Prop := compileTailRow.holds Tryz.pinned (OpenSpec.ofChange compileTailSpec)

/-- ITS FALSE NEIGHBOUR: 'it returns false'. Refute it at one input. -/
def compileTailWrong : ChangeSpec := { name := "compileTail", fn := fun _ => fun
  | [d] => { results := [.lit (.bool false)], args := [d] }
  | _ => none }
def CompileTailWrongFalsely : Prop := compileTailRow.holds Tryz.pinned (OpenSpec.ofChange compileTailWrong)

/-- 'spindlelaw17.CompilePlays': WHATEVER THE INPUT: true; the input reads as it did. -/
def compilePlaysSpec : ChangeSpec := { name := "compilePlays", fn := fun _ => fun
  | [d] => { results := [.lit (.bool true)], args := [d] }
  | _ => none }
def compilePlaysRow : OpenClaim := { program := "ytiimojpaeccajaagreatdoor", sum := "49d3a3749212740cc4cc3a5ce2d9d13e4a2391e587167d3148529ea7f171177b", func := "spindle/spindlelaw17.CompilePlays", spec := "compilePlays", inPlace := ["internal/reflectlite.TypeOf", "internal/bytealg.IndexByteString", "internal/abi.NoEscape"], unfollowed := true, recurses := true, named := ["internal/strconv.uint64pow10", "math/bits.deBruijn32tab", "math/bits.deBruijn64tab"], loops := true, apart := false, laid := [("math/bits.deBruijn32tab", laid_math_bits_deBruijn32tab), ("math/bits.deBruijn64tab", laid_math_bits_deBruijn64tab), ("internal/strconv.uint64pow10", laid_internal_strconv_uint64pow10)] }
def CompilePlaysSaid : Prop := compilePlaysRow.holds Tryz.pinned (OpenSpec.ofChange compilePlaysSpec)

/-- ITS FALSE NEIGHBOUR: 'it returns false'. Refute it at one input. -/
def compilePlaysWrong : ChangeSpec := { name := "compilePlays", fn := fun _ => fun
  | [d] => { results := [.lit (.bool false)], args := [d] }
  | _ => none }
def CompilePlaysWrongFalsely : Prop := compilePlaysRow.holds Tryz.pinned (OpenSpec.ofChange compilePlaysWrong)

/-- 'spindlelaw17.CompileLength': WHATEVER THE INPUT: true; the input reads as it did. -/
def compileLengthSpec : ChangeSpec := { name := "compileLength", fn := fun _ => fun
  | [d] => { results := [.lit (.bool true)], args := [d] }
  | _ => none }
def compileLengthRow : OpenClaim := { program := "ytiimojpaeccajaagreatdoor", sum := "49d3a3749212740cc4cc3a5ce2d9d13e4a2391e587167d3148529ea7f171177b", func := "spindle/spindlelaw17.CompileLength", spec := "compileLength", inPlace := ["internal/reflectlite.TypeOf", "internal/bytealg.IndexByteString", "internal/abi.NoEscape"], unfollowed := true, recurses := true, named := ["internal/strconv.uint64pow10", "math/bits.deBruijn32tab", "math/bits.deBruijn64tab"], loops := true, apart := false, laid := [("math/bits.deBruijn32tab", laid_math_bits_deBruijn32tab), ("math/bits.deBruijn64tab", laid_math_bits_deBruijn64tab), ("internal/strconv.uint64pow10", laid_internal_strconv_uint64pow10)] }
def CompileLengthSaid : Prop := compileLengthRow.holds Tryz.pinned (OpenSpec.ofChange compileLengthSpec)

/-- ITS FALSE NEIGHBOUR: 'it returns false'. Refute it at one input. -/
def compileLengthWrong : ChangeSpec := { name := "compileLength", fn := fun _ => fun
  | [d] => { results := [.lit (.bool false)], args := [d] }
  | _ => none }
def CompileLengthWrongFalsely : Prop := compileLengthRow.holds Tryz.pinned (OpenSpec.ofChange compileLengthWrong)

/-- 'spindlelaw17.CompileSame': WHATEVER THE INPUT: true; the input reads as it did. -/
def compileSameSpec : ChangeSpec := { name := "compileSame", fn := fun _ => fun
  | [d1, d2] => { results := [.lit (.bool true)], args := [d1, d2] }
  | _ => none }
def compileSameRow : OpenClaim := { program := "ytiimojpaeccajaagreatdoor", sum := "49d3a3749212740cc4cc3a5ce2d9d13e4a2391e587167d3148529ea7f171177b", func := "spindle/spindlelaw17.CompileSame", spec := "compileSame", inPlace := ["internal/reflectlite.TypeOf", "internal/bytealg.IndexByteString", "internal/abi.NoEscape"], unfollowed := true, recurses := true, named := ["internal/strconv.uint64pow10", "math/bits.deBruijn32tab", "math/bits.deBruijn64tab"], loops := true, apart := false, laid := [("math/bits.deBruijn32tab", laid_math_bits_deBruijn32tab), ("math/bits.deBruijn64tab", laid_math_bits_deBruijn64tab), ("internal/strconv.uint64pow10", laid_internal_strconv_uint64pow10)] }
def CompileSameSaid : Prop := compileSameRow.holds Tryz.pinned (OpenSpec.ofChange compileSameSpec)

/-- ITS FALSE NEIGHBOUR: 'it returns false'. Refute it at one input. -/
def compileSameWrong : ChangeSpec := { name := "compileSame", fn := fun _ => fun
  | [d1, d2] => { results := [.lit (.bool false)], args := [d1, d2] }
  | _ => none }
def CompileSameWrongFalsely : Prop := compileSameRow.holds Tryz.pinned (OpenSpec.ofChange compileSameWrong)

/-- 'spindlelaw17.CompileWell': WHATEVER THE INPUT: true; the input reads as it did. -/
def compileWellSpec : ChangeSpec := { name := "compileWell", fn := fun _ => fun
  | [d] => { results := [.lit (.bool true)], args := [d] }
  | _ => none }
def compileWellRow : OpenClaim := { program := "ytiimojpaeccajaagreatdoor", sum := "49d3a3749212740cc4cc3a5ce2d9d13e4a2391e587167d3148529ea7f171177b", func := "spindle/spindlelaw17.CompileWell", spec := "compileWell", inPlace := ["internal/reflectlite.TypeOf", "internal/bytealg.IndexByteString", "internal/abi.NoEscape"], unfollowed := true, recurses := true, named := ["internal/strconv.uint64pow10", "math/bits.deBruijn32tab", "math/bits.deBruijn64tab"], loops := true, apart := false, laid := [("math/bits.deBruijn32tab", laid_math_bits_deBruijn32tab), ("math/bits.deBruijn64tab", laid_math_bits_deBruijn64tab), ("internal/strconv.uint64pow10", laid_internal_strconv_uint64pow10)] }
def CompileWellSaid : Prop := compileWellRow.holds Tryz.pinned (OpenSpec.ofChange compileWellSpec)

/-- ITS FALSE NEIGHBOUR: 'it returns false'. Refute it at one input. -/
def compileWellWrong : ChangeSpec := { name := "compileWell", fn := fun _ => fun
  | [d] => { results := [.lit (.bool false)], args := [d] }
  | _ => none }
def CompileWellWrongFalsely : Prop := compileWellRow.holds Tryz.pinned (OpenSpec.ofChange compileWellWrong)

/-- 'spindlelaw17.CompileEntries': WHATEVER THE INPUT: true; the input reads as it did. -/
def compileEntriesSpec : ChangeSpec := { name := "compileEntries", fn := fun _ => fun
  | [d] => { results := [.lit (.bool true)], args := [d] }
  | _ => none }
def compileEntriesRow : OpenClaim := { program := "ytiimojpaeccajaagreatdoor", sum := "49d3a3749212740cc4cc3a5ce2d9d13e4a2391e587167d3148529ea7f171177b", func := "spindle/spindlelaw17.CompileEntries", spec := "compileEntries", inPlace := ["internal/reflectlite.TypeOf", "internal/bytealg.IndexByteString", "internal/abi.NoEscape"], unfollowed := true, recurses := true, named := ["internal/strconv.uint64pow10", "math/bits.deBruijn32tab", "math/bits.deBruijn64tab"], loops := true, apart := false, laid := [("math/bits.deBruijn32tab", laid_math_bits_deBruijn32tab), ("math/bits.deBruijn64tab", laid_math_bits_deBruijn64tab), ("internal/strconv.uint64pow10", laid_internal_strconv_uint64pow10)] }
def CompileEntriesSaid : Prop := compileEntriesRow.holds Tryz.pinned (OpenSpec.ofChange compileEntriesSpec)

/-- ITS FALSE NEIGHBOUR: 'it returns false'. Refute it at one input. -/
def compileEntriesWrong : ChangeSpec := { name := "compileEntries", fn := fun _ => fun
  | [d] => { results := [.lit (.bool false)], args := [d] }
  | _ => none }
def CompileEntriesWrongFalsely : Prop := compileEntriesRow.holds Tryz.pinned (OpenSpec.ofChange compileEntriesWrong)

/- THE SECOND FORM. 'bulk': how many values and letters a reading holds, each counted each time it is reached (what is shared counts as often as it is met; a slice's spare places count too). A statement '..UptoSaid' is the law's where the arguments, and the package variables that the reading takes, are together of bulk at most 1048576: NARROWER than '..Said'. Prove '..Said' where nothing that the law and all that it calls make is longer than what came in: it says more and counts as full. Else prove '..UptoSaid'. A law counts once. -/
mutual
def uptoBulk {H : Type} : DataW H → Nat
  | .lit (.string bytes) => bytes.length + 1
  | .lit _ => 1
  | .nil => 1
  | .ptr d => uptoBulk d + 1
  | .slice elems spare => uptoBulkAll elems + uptoBulkAll spare + 1
  | .agg parts => uptoBulkAll parts + 1
  | .iface _ d => uptoBulk d + 1
  | .map entries => uptoBulkEntries entries + 1
  | .held _ => 1
def uptoBulkAll {H : Type} : List (DataW H) → Nat
  | [] => 0
  | d :: r => uptoBulk d + uptoBulkAll r
def uptoBulkEntries {H : Type} : List (Lit × DataW H) → Nat
  | [] => 0
  | x :: r => uptoBulkEntry x + uptoBulkEntries r
def uptoBulkEntry {H : Type} : Lit × DataW H → Nat
  | (.string bytes, d) => bytes.length + uptoBulk d + 1
  | (_, d) => uptoBulk d + 1
 end
def uptoSmall : (H : Type) → List (DataW H) → Bool := fun _ ds => decide (uptoBulkAll ds ≤ 1048576)
def OpenSpec.upto (s : _root_.Go.ChangeSpec) : _root_.Go.OpenSpec := { _root_.Go.OpenSpec.ofChange s with cond := some uptoSmall }

/-- 'spindlelaw16.CodeChecks', WHERE WHAT IT READS IS OF BULK AT MOST 1048576: true; the input reads as it did. -/
def codeChecksUptoRow : OpenClaim := { program := "ytiimojpaeccajaagreatdoor", sum := "49d3a3749212740cc4cc3a5ce2d9d13e4a2391e587167d3148529ea7f171177b", func := "spindle/spindlelaw16.CodeChecks", spec := "codeChecks", inPlace := ["internal/reflectlite.TypeOf", "internal/bytealg.IndexByteString", "internal/abi.NoEscape"], unfollowed := true, recurses := true, named := ["internal/strconv.uint64pow10", "math/bits.deBruijn32tab", "math/bits.deBruijn64tab"], loops := true, apart := false, laid := [("math/bits.deBruijn32tab", laid_math_bits_deBruijn32tab), ("math/bits.deBruijn64tab", laid_math_bits_deBruijn64tab), ("internal/strconv.uint64pow10", laid_internal_strconv_uint64pow10)], narrowed := true }
def CodeChecksUptoSaid : Prop := codeChecksUptoRow.holds Tryz.pinned (OpenSpec.upto codeChecksSpec)

/-- 'spindlelaw16.CodeSafe', WHERE WHAT IT READS IS OF BULK AT MOST 1048576: true; the input reads as it did. -/
def codeSafeUptoRow : OpenClaim := { program := "ytiimojpaeccajaagreatdoor", sum := "49d3a3749212740cc4cc3a5ce2d9d13e4a2391e587167d3148529ea7f171177b", func := "spindle/spindlelaw16.CodeSafe", spec := "codeSafe", inPlace := ["internal/reflectlite.TypeOf", "internal/bytealg.IndexByteString", "internal/abi.NoEscape"], unfollowed := true, recurses := true, named := ["internal/strconv.uint64pow10", "math/bits.deBruijn32tab", "math/bits.deBruijn64tab"], loops := true, apart := false, laid := [("math/bits.deBruijn32tab", laid_math_bits_deBruijn32tab), ("math/bits.deBruijn64tab", laid_math_bits_deBruijn64tab), ("internal/strconv.uint64pow10", laid_internal_strconv_uint64pow10)], narrowed := true }
def CodeSafeUptoSaid : Prop := codeSafeUptoRow.holds Tryz.pinned (OpenSpec.upto codeSafeSpec)

/-- 'spindlelaw17.CompileTail', WHERE WHAT IT READS IS OF BULK AT MOST 1048576: true; the input reads as it did. -/
def compileTailUptoRow : OpenClaim := { program := "ytiimojpaeccajaagreatdoor", sum := "49d3a3749212740cc4cc3a5ce2d9d13e4a2391e587167d3148529ea7f171177b", func := "spindle/spindlelaw17.CompileTail", spec := "compileTail", inPlace := ["internal/reflectlite.TypeOf", "internal/bytealg.IndexByteString", "internal/abi.NoEscape"], unfollowed := true, recurses := true, named := ["internal/strconv.uint64pow10", "math/bits.deBruijn32tab", "math/bits.deBruijn64tab"], loops := true, apart := false, laid := [("math/bits.deBruijn32tab", laid_math_bits_deBruijn32tab), ("math/bits.deBruijn64tab", laid_math_bits_deBruijn64tab), ("internal/strconv.uint64pow10", laid_internal_strconv_uint64pow10)], narrowed := true }
def CompileTailUptoSaid : Prop := compileTailUptoRow.holds Tryz.pinned (OpenSpec.upto compileTailSpec)

/-- 'spindlelaw17.CompilePlays', WHERE WHAT IT READS IS OF BULK AT MOST 1048576: true; the input reads as it did. -/
def compilePlaysUptoRow : OpenClaim := { program := "ytiimojpaeccajaagreatdoor", sum := "49d3a3749212740cc4cc3a5ce2d9d13e4a2391e587167d3148529ea7f171177b", func := "spindle/spindlelaw17.CompilePlays", spec := "compilePlays", inPlace := ["internal/reflectlite.TypeOf", "internal/bytealg.IndexByteString", "internal/abi.NoEscape"], unfollowed := true, recurses := true, named := ["internal/strconv.uint64pow10", "math/bits.deBruijn32tab", "math/bits.deBruijn64tab"], loops := true, apart := false, laid := [("math/bits.deBruijn32tab", laid_math_bits_deBruijn32tab), ("math/bits.deBruijn64tab", laid_math_bits_deBruijn64tab), ("internal/strconv.uint64pow10", laid_internal_strconv_uint64pow10)], narrowed := true }
def CompilePlaysUptoSaid : Prop := compilePlaysUptoRow.holds Tryz.pinned (OpenSpec.upto compilePlaysSpec)

/-- 'spindlelaw17.CompileLength', WHERE WHAT IT READS IS OF BULK AT MOST 1048576: true; the input reads as it did. -/
def compileLengthUptoRow : OpenClaim := { program := "ytiimojpaeccajaagreatdoor", sum := "49d3a3749212740cc4cc3a5ce2d9d13e4a2391e587167d3148529ea7f171177b", func := "spindle/spindlelaw17.CompileLength", spec := "compileLength", inPlace := ["internal/reflectlite.TypeOf", "internal/bytealg.IndexByteString", "internal/abi.NoEscape"], unfollowed := true, recurses := true, named := ["internal/strconv.uint64pow10", "math/bits.deBruijn32tab", "math/bits.deBruijn64tab"], loops := true, apart := false, laid := [("math/bits.deBruijn32tab", laid_math_bits_deBruijn32tab), ("math/bits.deBruijn64tab", laid_math_bits_deBruijn64tab), ("internal/strconv.uint64pow10", laid_internal_strconv_uint64pow10)], narrowed := true }
def CompileLengthUptoSaid : Prop := compileLengthUptoRow.holds Tryz.pinned (OpenSpec.upto compileLengthSpec)

/-- 'spindlelaw17.CompileSame', WHERE WHAT IT READS IS OF BULK AT MOST 1048576: true; the input reads as it did. -/
def compileSameUptoRow : OpenClaim := { program := "ytiimojpaeccajaagreatdoor", sum := "49d3a3749212740cc4cc3a5ce2d9d13e4a2391e587167d3148529ea7f171177b", func := "spindle/spindlelaw17.CompileSame", spec := "compileSame", inPlace := ["internal/reflectlite.TypeOf", "internal/bytealg.IndexByteString", "internal/abi.NoEscape"], unfollowed := true, recurses := true, named := ["internal/strconv.uint64pow10", "math/bits.deBruijn32tab", "math/bits.deBruijn64tab"], loops := true, apart := false, laid := [("math/bits.deBruijn32tab", laid_math_bits_deBruijn32tab), ("math/bits.deBruijn64tab", laid_math_bits_deBruijn64tab), ("internal/strconv.uint64pow10", laid_internal_strconv_uint64pow10)], narrowed := true }
def CompileSameUptoSaid : Prop := compileSameUptoRow.holds Tryz.pinned (OpenSpec.upto compileSameSpec)

/-- 'spindlelaw17.CompileWell', WHERE WHAT IT READS IS OF BULK AT MOST 1048576: true; the input reads as it did. -/
def compileWellUptoRow : OpenClaim := { program := "ytiimojpaeccajaagreatdoor", sum := "49d3a3749212740cc4cc3a5ce2d9d13e4a2391e587167d3148529ea7f171177b", func := "spindle/spindlelaw17.CompileWell", spec := "compileWell", inPlace := ["internal/reflectlite.TypeOf", "internal/bytealg.IndexByteString", "internal/abi.NoEscape"], unfollowed := true, recurses := true, named := ["internal/strconv.uint64pow10", "math/bits.deBruijn32tab", "math/bits.deBruijn64tab"], loops := true, apart := false, laid := [("math/bits.deBruijn32tab", laid_math_bits_deBruijn32tab), ("math/bits.deBruijn64tab", laid_math_bits_deBruijn64tab), ("internal/strconv.uint64pow10", laid_internal_strconv_uint64pow10)], narrowed := true }
def CompileWellUptoSaid : Prop := compileWellUptoRow.holds Tryz.pinned (OpenSpec.upto compileWellSpec)

/-- 'spindlelaw17.CompileEntries', WHERE WHAT IT READS IS OF BULK AT MOST 1048576: true; the input reads as it did. -/
def compileEntriesUptoRow : OpenClaim := { program := "ytiimojpaeccajaagreatdoor", sum := "49d3a3749212740cc4cc3a5ce2d9d13e4a2391e587167d3148529ea7f171177b", func := "spindle/spindlelaw17.CompileEntries", spec := "compileEntries", inPlace := ["internal/reflectlite.TypeOf", "internal/bytealg.IndexByteString", "internal/abi.NoEscape"], unfollowed := true, recurses := true, named := ["internal/strconv.uint64pow10", "math/bits.deBruijn32tab", "math/bits.deBruijn64tab"], loops := true, apart := false, laid := [("math/bits.deBruijn32tab", laid_math_bits_deBruijn32tab), ("math/bits.deBruijn64tab", laid_math_bits_deBruijn64tab), ("internal/strconv.uint64pow10", laid_internal_strconv_uint64pow10)], narrowed := true }
def CompileEntriesUptoSaid : Prop := compileEntriesUptoRow.holds Tryz.pinned (OpenSpec.upto compileEntriesSpec)

end Rows
end Go.Proofs.YtiimojpaeccajaaGreatDoor
