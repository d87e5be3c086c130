/- A heap in memory: its block's cells, its store. -/
import Derived.Test.YtbjlapfcnldpoaaTread
namespace Go.Proofs.Ytbjlapfcnldpoaa
set_option linter.unusedVariables false
set_option linter.unusedSimpArgs false
open Go.RowKit

def nI (x : Nat) : Value := .int .i64 (x : Int)
def nU (x : Nat) : Value := .int .u64 (x : Int)
/-- The heap's fields, cell by cell. -/
def hcells (b : Nat) (s : TH) : List Value :=
  .pointer (some ⟨b, 0, none⟩) :: (s.start.map nI ++ (s.count.map nI ++ (s.lists.map nI ++ (s.roots.map nU ++ [nI s.k, nI s.now, .bool s.marking, nI s.cycles, nI s.wait, nI s.tries]))))
structure THlen (s : TH) : Prop where
  a : s.start.length = 5
  b : s.count.length = 4
  c : s.lists.length = 16
  d : s.roots.length = 12

theorem get_seg {A : List Value} {l : List Nat} {C : List Value} {f : Nat → Value} (k i : Nat) (hk : A.length = k) (hi : i < l.length) : (A ++ (l.map f ++ C))[k + i]? = some (f (l.getD i 0)) := by
  rw [List.getElem?_append_right (by omega), hk, Nat.add_sub_cancel_left, List.getElem?_append_left (by simpa using hi)]
  simp [List.getD, hi]
theorem set_seg {A : List Value} {l : List Nat} {C : List Value} {f : Nat → Value} (k i x : Nat) (hk : A.length = k) (hi : i < l.length) : (A ++ (l.map f ++ C)).set (k + i) (f x) = A ++ ((l.set i x).map f ++ C) := by
  rw [List.set_append_right _ _ (by omega), hk, Nat.add_sub_cancel_left, List.set_append_left _ _ (by simpa using hi), List.map_set]

theorem hc_store (b : Nat) (s : TH) : (hcells b s)[0]? = some (.pointer (some ⟨b, 0, none⟩)) := rfl
theorem hc_start (b : Nat) {s : TH} (h : THlen s) {i : Nat} (hi : i < 5) : (hcells b s)[1 + i]? = some (nI (s.start.getD i 0)) :=
  get_seg (A := [.pointer (some ⟨b, 0, none⟩)]) 1 i rfl (by rw [h.a]; exact hi)
theorem hc_count (b : Nat) {s : TH} (h : THlen s) {i : Nat} (hi : i < 4) : (hcells b s)[6 + i]? = some (nI (s.count.getD i 0)) := by
  have := get_seg (A := .pointer (some ⟨b, 0, none⟩) :: s.start.map nI) (l := s.count) (C := s.lists.map nI ++ (s.roots.map nU ++ [nI s.k, nI s.now, .bool s.marking, nI s.cycles, nI s.wait, nI s.tries])) (f := nI) 6 i (by simp [h.a]) (by rw [h.b]; exact hi)
  rw [← this]
  simp [hcells]
theorem hc_lists (b : Nat) {s : TH} (h : THlen s) {i : Nat} (hi : i < 16) : (hcells b s)[10 + i]? = some (nI (s.lists.getD i 0)) := by
  have := get_seg (A := .pointer (some ⟨b, 0, none⟩) :: (s.start.map nI ++ s.count.map nI)) (l := s.lists) (C := s.roots.map nU ++ [nI s.k, nI s.now, .bool s.marking, nI s.cycles, nI s.wait, nI s.tries]) (f := nI) 10 i (by simp [h.a, h.b]) (by rw [h.c]; exact hi)
  rw [← this]
  simp [hcells]
theorem hc_roots (b : Nat) {s : TH} (h : THlen s) {i : Nat} (hi : i < 12) : (hcells b s)[26 + i]? = some (nU (s.roots.getD i 0)) := by
  have := get_seg (A := .pointer (some ⟨b, 0, none⟩) :: (s.start.map nI ++ (s.count.map nI ++ s.lists.map nI))) (l := s.roots) (C := [nI s.k, nI s.now, .bool s.marking, nI s.cycles, nI s.wait, nI s.tries]) (f := nU) 26 i (by simp [h.a, h.b, h.c]) (by rw [h.d]; exact hi)
  rw [← this]
  simp [hcells]
theorem hc_tail (b : Nat) {s : TH} (h : THlen s) (i : Nat) : (hcells b s)[38 + i]? = ([nI s.k, nI s.now, .bool s.marking, nI s.cycles, nI s.wait, nI s.tries] : List Value)[i]? := by
  have e : hcells b s = (.pointer (some ⟨b, 0, none⟩) :: (s.start.map nI ++ (s.count.map nI ++ (s.lists.map nI ++ s.roots.map nU)))) ++ [nI s.k, nI s.now, .bool s.marking, nI s.cycles, nI s.wait, nI s.tries] := by simp [hcells]
  rw [e, List.getElem?_append_right (by simp [h.a, h.b, h.c, h.d])]
  congr 1
  simp [h.a, h.b, h.c, h.d]
theorem hs_lists (b : Nat) {s : TH} (h : THlen s) {i : Nat} (hi : i < 16) (x : Nat) : (hcells b s).set (10 + i) (nI x) = hcells b { s with lists := s.lists.set i x } := by
  have := set_seg (A := .pointer (some ⟨b, 0, none⟩) :: (s.start.map nI ++ s.count.map nI)) (l := s.lists) (C := s.roots.map nU ++ [nI s.k, nI s.now, .bool s.marking, nI s.cycles, nI s.wait, nI s.tries]) (f := nI) 10 i x (by simp [h.a, h.b]) (by rw [h.c]; exact hi)
  simpa [hcells] using this
theorem hs_roots (b : Nat) {s : TH} (h : THlen s) {i : Nat} (hi : i < 12) (x : Nat) : (hcells b s).set (26 + i) (nU x) = hcells b { s with roots := s.roots.set i x } := by
  have := set_seg (A := .pointer (some ⟨b, 0, none⟩) :: (s.start.map nI ++ (s.count.map nI ++ s.lists.map nI))) (l := s.roots) (C := [nI s.k, nI s.now, .bool s.marking, nI s.cycles, nI s.wait, nI s.tries]) (f := nU) 26 i x (by simp [h.a, h.b, h.c]) (by rw [h.d]; exact hi)
  simpa [hcells] using this
theorem hs_tail (b : Nat) {s s' : TH} (h : THlen s) (i : Nat) (v : Value) (h1 : s'.start = s.start) (h2 : s'.count = s.count) (h3 : s'.lists = s.lists) (h4 : s'.roots = s.roots)
    (h5 : ([nI s.k, nI s.now, .bool s.marking, nI s.cycles, nI s.wait, nI s.tries] : List Value).set i v = [nI s'.k, nI s'.now, .bool s'.marking, nI s'.cycles, nI s'.wait, nI s'.tries]) : (hcells b s).set (38 + i) v = hcells b s' := by
  have e : ∀ t : TH, hcells b t = (.pointer (some ⟨b, 0, none⟩) :: (t.start.map nI ++ (t.count.map nI ++ (t.lists.map nI ++ t.roots.map nU)))) ++ [nI t.k, nI t.now, .bool t.marking, nI t.cycles, nI t.wait, nI t.tries] := by intro t; simp [hcells]
  rw [e s, e s', List.set_append_right _ _ (by simp [h.a, h.b, h.c, h.d]), ← h5, h1, h2, h3, h4]
  congr 2
  simp [h.a, h.b, h.c, h.d]

/-- The heap in block hb, its store in b, the store's words in g. -/
structure IsTH (w : World) (hb b g : Nat) (s : TH) : Prop where
  head : w.heap[hb]? = some (.cells (hcells b s).toArray 95 (0, 0))
  iw : IsW w b g s.W
  ls : THlen s
  ne : hb ≠ b ∧ hb ≠ g
def foot3 (hb b g : Nat) : Nat → Prop := fun z => z = hb ∨ z = b ∨ z = g

section
variable {w w' : World} {hb b g : Nat} {s : TH}
theorem IsTH.lt (h : IsTH w hb b g s) : hb < w.heap.size ∧ b < w.heap.size ∧ g < w.heap.size := ⟨lt_of_heap h.head, h.iw.lt.1, h.iw.lt.2⟩
theorem IsTH.keeps (h : IsTH w hb b g s) {S : Nat → Prop} (k : Keeps S w w') (h1 : ¬ S hb) (h2 : ¬ S b) (h3 : ¬ S g) : IsTH w' hb b g s := ⟨k.heap h.head h1, h.iw.keeps k h2 h3, h.ls, h.ne⟩
theorem IsTH.keeps0 (h : IsTH w hb b g s) (k : Keeps (fun _ => False) w w') : IsTH w' hb b g s := h.keeps k (fun h => h) (fun h => h) (fun h => h)
theorem IsTH.ring (h : IsTH w hb b g s) {W' : List Nat} (k : Keeps (foot b g) w w') (hI : IsW w' b g W') : IsTH w' hb b g { s with W := W' } :=
  ⟨k.heap h.head (by unfold foot; have := h.ne; omega), hI, ⟨h.ls.a, h.ls.b, h.ls.c, h.ls.d⟩, h.ne⟩
theorem IsTH.frozen (h : IsTH w hb b g s) (i : Nat) : w.frozen? ⟨hb, i, none⟩ = false := frozen_of_heap h.head i
theorem IsTH.cell (h : IsTH w hb b g s) (i : Nat) : w.cell? ⟨hb, i, none⟩ = (hcells b s)[i]? := by
  rw [cell_of_heap h.head]
  simp
theorem IsTH.store (h : IsTH w hb b g s) : w.cell? ⟨hb, 0, none⟩ = some (.pointer (some ⟨b, 0, none⟩)) := by rw [h.cell, hc_store]
theorem IsTH.start (h : IsTH w hb b g s) {i : Nat} (hi : i < 5) : w.cell? ⟨hb, 1 + i, none⟩ = some (.int .i64 (s.start.getD i 0 : Nat)) := by rw [h.cell, hc_start b h.ls hi]; rfl
theorem IsTH.count (h : IsTH w hb b g s) {i : Nat} (hi : i < 4) : w.cell? ⟨hb, 6 + i, none⟩ = some (.int .i64 (s.count.getD i 0 : Nat)) := by rw [h.cell, hc_count b h.ls hi]; rfl
theorem IsTH.lists (h : IsTH w hb b g s) {i : Nat} (hi : i < 16) : w.cell? ⟨hb, 10 + i, none⟩ = some (.int .i64 (s.lists.getD i 0 : Nat)) := by rw [h.cell, hc_lists b h.ls hi]; rfl
theorem IsTH.roots (h : IsTH w hb b g s) {i : Nat} (hi : i < 12) : w.cell? ⟨hb, 26 + i, none⟩ = some (.int .u64 (s.roots.getD i 0 : Nat)) := by rw [h.cell, hc_roots b h.ls hi]; rfl
theorem IsTH.k (h : IsTH w hb b g s) : w.cell? ⟨hb, 38, none⟩ = some (.int .i64 s.k) := by rw [h.cell, hc_tail b h.ls 0]; rfl
theorem IsTH.now (h : IsTH w hb b g s) : w.cell? ⟨hb, 39, none⟩ = some (.int .i64 s.now) := by rw [h.cell, hc_tail b h.ls 1]; rfl
theorem IsTH.marking (h : IsTH w hb b g s) : w.cell? ⟨hb, 40, none⟩ = some (.bool s.marking) := by rw [h.cell, hc_tail b h.ls 2]; rfl
theorem IsTH.cycles (h : IsTH w hb b g s) : w.cell? ⟨hb, 41, none⟩ = some (.int .i64 s.cycles) := by rw [h.cell, hc_tail b h.ls 3]; rfl
theorem IsTH.wait (h : IsTH w hb b g s) : w.cell? ⟨hb, 42, none⟩ = some (.int .i64 s.wait) := by rw [h.cell, hc_tail b h.ls 4]; rfl
theorem IsTH.tries (h : IsTH w hb b g s) : w.cell? ⟨hb, 43, none⟩ = some (.int .i64 s.tries) := by rw [h.cell, hc_tail b h.ls 5]; rfl

theorem IsTH.put (h : IsTH w hb b g s) {i : Nat} {v : Value} {s' : TH} (hc : (hcells b s).set i v = hcells b s') (hW : s'.W = s.W) (hl : THlen s') : IsTH (w.setCell ⟨hb, i, none⟩ v) hb b g s' := by
  have k : Keeps (fun z => z = hb) w (w.setCell ⟨hb, i, none⟩ v) := (Keeps.refl (fun z => z = hb) w).setCell (p := ⟨hb, i, none⟩) (fun _ => rfl) v
  refine ⟨?_, by rw [hW]; exact h.iw.keeps k (fun e => h.ne.1 e.symm) (fun e => h.ne.2 e.symm), hl, h.ne⟩
  rw [heap_setCell_at h.head, ← hc]
  simp
theorem IsTH.putList (h : IsTH w hb b g s) {i : Nat} (hi : i < 16) (x : Nat) : IsTH (w.setCell ⟨hb, 10 + i, none⟩ (.int .i64 x)) hb b g { s with lists := s.lists.set i x } :=
  h.put (hs_lists b h.ls hi x) rfl ⟨h.ls.a, h.ls.b, by simpa using h.ls.c, h.ls.d⟩
theorem IsTH.putRoot (h : IsTH w hb b g s) {i : Nat} (hi : i < 12) (x : Nat) : IsTH (w.setCell ⟨hb, 26 + i, none⟩ (.int .u64 x)) hb b g { s with roots := s.roots.set i x } :=
  h.put (hs_roots b h.ls hi x) rfl ⟨h.ls.a, h.ls.b, h.ls.c, by simpa using h.ls.d⟩
theorem IsTH.putNow (h : IsTH w hb b g s) (x : Nat) : IsTH (w.setCell ⟨hb, 39, none⟩ (.int .i64 x)) hb b g { s with now := x } :=
  h.put (hs_tail b h.ls 1 _ rfl rfl rfl rfl rfl) rfl ⟨h.ls.a, h.ls.b, h.ls.c, h.ls.d⟩
theorem IsTH.putMarking (h : IsTH w hb b g s) (x : Bool) : IsTH (w.setCell ⟨hb, 40, none⟩ (.bool x)) hb b g { s with marking := x } :=
  h.put (hs_tail b h.ls 2 _ rfl rfl rfl rfl rfl) rfl ⟨h.ls.a, h.ls.b, h.ls.c, h.ls.d⟩
theorem IsTH.putCycles (h : IsTH w hb b g s) (x : Nat) : IsTH (w.setCell ⟨hb, 41, none⟩ (.int .i64 x)) hb b g { s with cycles := x } :=
  h.put (hs_tail b h.ls 3 _ rfl rfl rfl rfl rfl) rfl ⟨h.ls.a, h.ls.b, h.ls.c, h.ls.d⟩
theorem IsTH.putWait (h : IsTH w hb b g s) (x : Nat) : IsTH (w.setCell ⟨hb, 42, none⟩ (.int .i64 x)) hb b g { s with wait := x } :=
  h.put (hs_tail b h.ls 4 _ rfl rfl rfl rfl rfl) rfl ⟨h.ls.a, h.ls.b, h.ls.c, h.ls.d⟩
theorem IsTH.putTries (h : IsTH w hb b g s) (x : Nat) : IsTH (w.setCell ⟨hb, 43, none⟩ (.int .i64 x)) hb b g { s with tries := x } :=
  h.put (hs_tail b h.ls 5 _ rfl rfl rfl rfl rfl) rfl ⟨h.ls.a, h.ls.b, h.ls.c, h.ls.d⟩
end

end Go.Proofs.Ytbjlapfcnldpoaa
