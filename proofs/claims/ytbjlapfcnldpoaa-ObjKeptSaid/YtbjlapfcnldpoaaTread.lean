/- The heap as a plain function: what each of its doings makes of its state; none: the words are no rings there. No program in sight. -/
import Derived.Test.YtbjlapfcnldpoaaRingNew
namespace Go.Proofs.Ytbjlapfcnldpoaa
set_option linter.unusedVariables false
set_option linter.unusedSimpArgs false
open Go.RowKit

/-- A heap's state. -/
structure TH where
  start : List Nat
  count : List Nat
  lists : List Nat
  roots : List Nat
  k : Nat
  now : Nat
  marking : Bool
  cycles : Nat
  wait : Nat
  tries : Nat
  W : List Nat
deriving DecidableEq, Repr

def szs (c : Nat) : Nat := [3, 7, 31, 127].getD c 0
def thead (c l : Nat) : Nat := 3 * (4 * c + l)
def req (b : Bool) : Option Unit := if b then some () else none
def rd (W : List Nat) (p : Nat) : Option Nat := if p < W.length then some (wat W p) else none
def wrt (W : List Nat) (p x : Nat) : Option (List Nat) := if p < W.length then some (W.set p x) else none
/-- A header's word. -/
def rdh (W : List Nat) (b : Nat) : Option Nat := if b < W.length ∧ wat W b < 65536 then some (wat W b) else none
def isPlace (W : List Nat) (p : Nat) : Bool := p + 2 < W.length
def oInit (W : List Nat) (p : Nat) : Option (List Nat) := if isPlace W p then some (setAll W [(p, 1, p), (p, 2, p)]) else none
def oBehind (W : List Nat) (p : Nat) : Option Nat := if isPlace W p && decide (wat W (p + 2) ≤ 1048576) then some (wat W (p + 2)) else none
def oAhead (W : List Nat) (p : Nat) : Option Nat := if isPlace W p && decide (wat W (p + 1) ≤ 1048576) then some (wat W (p + 1)) else none
def oInsert (W : List Nat) (p q : Nat) : Option (List Nat) :=
  let x := wat W (p + 2)
  if isPlace W p && isPlace W q && isPlace W x then some (setAll W [(q, 1, p), (q, 2, x), (p, 2, q), (x, 1, q)]) else none
def oRemove (W : List Nat) (q : Nat) : Option (List Nat) :=
  let a := wat W (q + 1)
  let x := wat W (q + 2)
  if isPlace W q && isPlace W a && isPlace W x then some (setAll W [(a, 2, x), (x, 1, a), (q, 1, q), (q, 2, q)]) else none
def oJoin (W : List Nat) (p q : Nat) : Option (List Nat) :=
  let f := wat W (q + 2)
  let l := wat W (q + 1)
  let z := wat W (p + 1)
  if isPlace W p && isPlace W q then
    if f = q then some W
    else if isPlace W f && isPlace W l && isPlace W z then some (setAll W [(z, 2, f), (f, 1, z), (l, 2, p), (p, 1, l), (q, 1, q), (q, 2, q)]) else none
  else none

def hform (h : Nat) : Nat := h / 16 % 4
def htag (h : Nat) : Nat := h % 16
def hmark (h : Nat) : Nat := h / 64 % 4
def hn (h : Nat) : Nat := h / 256 % 256
def hdr (form tag mark n : Nat) : Nat := tag + 16 * form + 64 * mark + 256 * n

def tcell (w : Nat) : Bool := w % 8 == 1 && decide (w / 8 ≤ 1099511627776)
def tclassAt (s : TH) (b c : Nat) : Option (Option Nat) :=
  if s.start.getD c 0 ≤ b ∧ b < s.start.getD (c + 1) 0 then some (if (b - s.start.getD c 0) % (3 + szs c) = 0 then some c else none) else none
def tclass (s : TH) (b : Nat) : Option Nat :=
  match tclassAt s b 0 with
  | some r => r
  | none => match tclassAt s b 1 with
    | some r => r
    | none => match tclassAt s b 2 with
      | some r => r
      | none => match tclassAt s b 3 with
        | some r => r
        | none => none
def tplace (s : TH) (w : Nat) : Option (Nat × Nat) := if tcell w then (tclass s (w / 8)).map (fun c => (w / 8, c)) else none
def lget (s : TH) (c l : Nat) : Nat := s.lists.getD (4 * c + l) 0
def lset (s : TH) (c l x : Nat) : TH := { s with lists := s.lists.set (4 * c + l) x }

def tmove (s : TH) (b c to mark list : Nat) : Option TH := do
  let h ← rdh s.W b
  let W ← wrt s.W b (hdr (hform h) (htag h) mark (hn h))
  let W ← oRemove W b
  let W ← oInsert W to b
  req (lget s c list < 1000000)
  return { lset s c list (lget s c list + 1) with W := W }
def tshade (s : TH) (w : Nat) : Option TH :=
  if 18446744073709551616 ≤ w then none else
  match tplace s w with
  | none => some s
  | some (b, c) => do
    let h ← rdh s.W b
    if hmark h ≠ 1 - s.now then return s
    req (lget s c 2 > 0)
    req (lget s c 2 < 1000000)
    tmove (lset s c 2 (lget s c 2 - 1)) b c (thead c 3) 2 3
def tflip1 (s : TH) (c : Nat) : Option TH := do
  let W ← oJoin s.W (thead c 2) (thead c 1)
  return lset (lset { s with W := W } c 2 (lget s c 1)) c 1 0
def shadeAll : List Nat → TH → Option TH
  | [], s => some s
  | w :: l, s => (tshade s w).bind (shadeAll l)
def tflip (s : TH) : Option TH := do
  let s ← tflip1 { s with now := 1 - s.now } 0
  let s ← tflip1 s 1
  let s ← tflip1 s 2
  let s ← tflip1 s 3
  shadeAll s.roots { s with marking := true, tries := 0 }
def shadeFields (s : TH) (b : Nat) : Nat → Nat → Option TH
  | 0, _ => some s
  | m + 1, i => do
    let w ← rd s.W (b + 3 + i)
    let s ← tshade s w
    shadeFields s b m (i + 1)
def tscanAt (s : TH) (c : Nat) : Option TH := do
  let b ← oBehind s.W (thead c 3)
  let h ← rdh s.W b
  req (lget s c 3 < 1000000)
  let s := { lset s c 3 (lget s c 3 - 1) with tries := 0 }
  if hform h = 3 then
    let last ← oAhead s.W 48
    req (s.wait < 1000000)
    tmove { s with wait := s.wait + 1 } b c last s.now 1
  else if hform h = 1 then
    let s ← shadeFields s b (hn h) 0
    tmove s b c (thead c 1) s.now 1
  else if hform h = 2 then tmove s b c (thead c 1) s.now 1
  else return s
def tscan (s : TH) : Option (Option TH) :=
  if lget s 0 3 ≠ 0 then (tscanAt s 0).map some
  else if lget s 1 3 ≠ 0 then (tscanAt s 1).map some
  else if lget s 2 3 ≠ 0 then (tscanAt s 2).map some
  else if lget s 3 3 ≠ 0 then (tscanAt s 3).map some
  else some none
def tlook (s : TH) : Option (Option TH) :=
  if s.wait = 0 then some none else none
def tend1 (s : TH) (c : Nat) : Option TH := do
  let W ← oJoin s.W (thead c 0) (thead c 2)
  req (lget s c 0 + lget s c 2 < 1000000)
  return lset (lset { s with W := W } c 0 (lget s c 0 + lget s c 2)) c 2 0
def tend (s : TH) : Option TH := do
  let s ← tend1 s 0
  let s ← tend1 s 1
  let s ← tend1 s 2
  let s ← tend1 s 3
  req (s.cycles < 1000000)
  return { s with marking := false, cycles := s.cycles + 1 }
def tstep (s : TH) : Option TH :=
  if s.marking then do
    match ← tscan s with
    | some s => return s
    | none => match ← tlook s with
      | some s => return s
      | none => tend s
  else tflip s
def tincr : Nat → TH → Option TH
  | 0, s => some s
  | n + 1, s => (tstep s).bind (tincr n)
def tcls (n : Nat) : Nat := if n ≤ 3 then 0 else if n ≤ 7 then 1 else if n ≤ 31 then 2 else 3
def fillF (W : List Nat) (b x : Nat) : Nat → Nat → Option (List Nat)
  | 0, _ => some W
  | m + 1, i => (wrt W (b + 3 + i) x).bind (fun W => fillF W b x m (i + 1))
def talloc (s : TH) (form tag n : Nat) : Option (TH × Nat) := do
  let s ← tincr s.k s
  let c := tcls n
  req (lget s c 0 > 0)
  req (lget s c 0 < 1000000)
  req (lget s c 1 < 1000000)
  let b ← oBehind s.W (thead c 0)
  let s := lset s c 0 (lget s c 0 - 1)
  let s := lset s c 1 (lget s c 1 + 1)
  let W ← oRemove s.W b
  let W ← oInsert W (thead c 1) b
  let W ← wrt W b (hdr form tag s.now n)
  let W ← fillF W b (if form = 2 then 0 else 12) n 0
  return ({ s with W := W }, 8 * b + 1)
def starts (cs : List Nat) : List Nat := [51, 51 + cs.getD 0 0 * 6, 51 + cs.getD 0 0 * 6 + cs.getD 1 0 * 10, 51 + cs.getD 0 0 * 6 + cs.getD 1 0 * 10 + cs.getD 2 0 * 34, 51 + cs.getD 0 0 * 6 + cs.getD 1 0 * 10 + cs.getD 2 0 * 34 + cs.getD 3 0 * 130]
def initAll (W : List Nat) : Nat → Nat → Option (List Nat)
  | 0, _ => some W
  | m + 1, i => (oInit W (3 * i)).bind (fun W => initAll W m (i + 1))
def layC (W : List Nat) (s c n : Nat) : Nat → Nat → Option (List Nat)
  | 0, _ => some W
  | m + 1, i => do
    let b := s + i * (3 + n)
    let last ← oAhead W (thead c 0)
    let W ← oInit W b
    let W ← oInsert W last b
    layC W s c n m (i + 1)
def tnew (cs : List Nat) (k : Nat) : Option TH := do
  let st := starts cs
  let W ← initAll (List.replicate (st.getD 4 0) 0) 17 0
  let W ← layC W (st.getD 0 0) 0 3 (cs.getD 0 0) 0
  let W ← layC W (st.getD 1 0) 1 7 (cs.getD 1 0) 0
  let W ← layC W (st.getD 2 0) 2 31 (cs.getD 2 0) 0
  let W ← layC W (st.getD 3 0) 3 127 (cs.getD 3 0) 0
  return ⟨st, cs, [cs.getD 0 0, 0, 0, 0, cs.getD 1 0, 0, 0, 0, cs.getD 2 0, 0, 0, 0, cs.getD 3 0, 0, 0, 0], List.replicate 12 12, k, 0, false, 0, 0, 0, W⟩
def setRoot (s : TH) (i w : Nat) : TH := { s with roots := s.roots.set i w }
def awk : Option (TH × Nat) := do
  let s ← tnew [4, 0, 0, 0] 1
  let (s, w) ← talloc s 1 5 2
  let s := setRoot s 0 w
  let (s, w) ← talloc s 1 5 2
  let s := setRoot s 1 w
  let (s, w) ← talloc s 1 5 2
  let s := setRoot s 2 w
  let (s, w) ← talloc s 1 5 2
  let s := setRoot s 3 w
  let s := setRoot s 3 12
  let s ← tincr 40 s
  talloc s 1 5 2
theorem awk_some : awk.isSome = true := by rfl

end Go.Proofs.Ytbjlapfcnldpoaa
