/- The looker in memory: what its steps make of it. -/
import Derived.Test.YtiimojpaeccajaaGreatDoorChk
import Derived.Test.YtiimojpaeccajaaGreatDoorStk
import Derived.WalkSmall
import Derived.Lib.Builder
namespace Go.Proofs.YtiimojpaeccajaaGreatDoor
set_option linter.unusedVariables false
set_option linter.unusedSimpArgs false
open Go.RowKit

def rowI (s : List Int) : List Value := s.map (Value.int .i64)
def rowN (s : List Nat) : List Value := s.map (fun i : Nat => Value.int .i64 (i : Int))
theorem rowI_length (s : List Int) : (rowI s).length = s.length := by simp [rowI]
theorem rowN_length (s : List Nat) : (rowN s).length = s.length := by simp [rowN]
abbrev ownI (w : World) (B g cap : Nat) (s : List Int) : Prop := w.ownsRow B 3 1 (.slice (some ⟨g, 0, none⟩) s.length cap) s.length (rowI s)
theorem ownI_cell {w : World} {B g cap : Nat} {s : List Int} (h : ownI w B g cap s) {j : Nat} (hj : j < s.length) : w.cell? ⟨g, j, none⟩ = some (.int .i64 (s.getD j 0)) := by
  rw [World.ownsRow.cellAt h j (by omega), rowI, List.getElem?_map, List.getElem?_eq_getElem hj]
  simp [List.getD, List.getElem?_eq_getElem hj]
theorem own_below {w w' : World} {B : Nat} {e : TypeId} {size n : Nat} {v : Value} {xs : List Value} (h : w.ownsRow B e size v n xs) (k : Below w.heap.size w w') : w'.ownsRow B e size v n xs := by
  refine ⟨h.1, ?_⟩
  rcases h.2 with ⟨h1, h2⟩ | ⟨g, cap, cur, hv, hg, hh, r⟩
  · exact .inl ⟨h1, h2⟩
  · exact .inr ⟨g, cap, cur, hv, hg, by rw [k.block g (lt_of_heap hh)]; exact hh, r⟩
theorem own_block_ne {w : World} {B : Nat} {e T : TypeId} {size n : Nat} {v : Value} {xs : List Value} (h : w.ownsRow B e size v n xs) {b : Nat} {cs : Array Value} {f : Nat × Nat} (hb : w.heap[b]? = some (.cells cs T f)) (hT : T ≠ e) : v.ownBlock ≠ some b := by
  intro hv
  rcases h.2 with ⟨rfl, _⟩ | ⟨g, cap, cur, rfl, _, hh, _⟩
  · simp [Value.ownBlock] at hv
  · simp [Value.ownBlock] at hv
    subst hv
    rw [hh] at hb
    injection hb with hb
    injection hb with _ hb
    exact hT hb.symm
theorem own_set {w : World} {B : Nat} {e : TypeId} {size n : Nat} {v : Value} {xs : List Value} (h : w.ownsRow B e size v n xs) {p : Addr} (hp : v.ownBlock ≠ some p.block) (u : Value) : (w.setCell p u).ownsRow B e size v n xs := by
  refine ⟨h.1, ?_⟩
  rcases h.2 with ⟨h1, h2⟩ | ⟨g, cap, cur, hv, hg, hh, r⟩
  · exact .inl ⟨h1, h2⟩
  · exact .inr ⟨g, cap, cur, hv, hg, by rw [Below.heap_setCell w p u g (fun e => hp (by rw [hv, e]; simp [Value.ownBlock]))]; exact hh, r⟩
theorem own_grown {w w' : World} {B : Nat} {e : TypeId} {size n : Nat} {v : Value} {xs : List Value} (h : w.ownsRow B e size v n xs) {row : Option Nat} (k : w.grownBy w' row) (hp : ∀ g, v.ownBlock = some g → row ≠ some g) : w'.ownsRow B e size v n xs := by
  refine ⟨h.1, ?_⟩
  rcases h.2 with ⟨h1, h2⟩ | ⟨g, cap, cur, hv, hg, hh, r⟩
  · exact .inl ⟨h1, h2⟩
  · exact .inr ⟨g, cap, cur, hv, hg, by rw [k.block g (lt_of_heap hh) (fun e => hp g (by rw [hv]; rfl) e.symm)]; exact hh, r⟩
theorem own_lt' {w : World} {B : Nat} {e : TypeId} {size n : Nat} {v : Value} {xs : List Value} (h : w.ownsRow B e size v n xs) {g : Nat} (hg : v.ownBlock = some g) : g < w.heap.size := (h.lt g hg).2

/-- The looker (its type T) at kb, its stacks at sb. -/
structure LkM (T : TypeId) (w : World) (B kb sb : Nat) (lv : Value) (n : Nat) (S : Nat → Option (List Int)) (R : Nat → Nat × Nat) (td : List Nat) (tv : Value) (bad : Bool) : Prop where
  head : w.heap[kb]? = some (.cells #[lv, .slice (some ⟨sb, 0, none⟩) n n, tv, .bool bad] T (0, 0))
  stk : ∃ cs : Array Value, w.heap[sb]? = some (.cells cs 31 (0, 0)) ∧ cs.size = n ∧ ∀ i, i < n → cs[i]? = some (match S i with | none => .slice none 0 0 | some s => .slice (some ⟨(R i).1, 0, none⟩) s.length (R i).2)
  row : ∀ i s, S i = some s → ownI w B (R i).1 (R i).2 s ∧ tv.ownBlock ≠ some (R i).1
  todo : w.ownsRow B 3 1 tv td.length (rowN td)
  base : B ≤ kb ∧ B ≤ sb
structure LkT (T : TypeId) : Prop where
  ni : T ≠ 3
  nl : T ≠ 31
theorem ne_int_rows : (31 : TypeId) ≠ 3 := by decide

section
variable {T : TypeId} {w : World} {B kb sb : Nat} {lv : Value} {n : Nat} {S : Nat → Option (List Int)} {R : Nat → Nat × Nat} {td : List Nat} {tv : Value} {bad : Bool}
theorem LkM.below {w' : World} (h : LkM T w B kb sb lv n S R td tv bad) (k : Below w.heap.size w w') : LkM T w' B kb sb lv n S R td tv bad := by
  obtain ⟨cs, h1, h2, h3⟩ := h.stk
  exact ⟨(k.block kb (lt_of_heap h.head)).trans h.head, ⟨cs, (k.block sb (lt_of_heap h1)).trans h1, h2, h3⟩, fun i s hs => ⟨own_below (h.row i s hs).1 k, (h.row i s hs).2⟩, own_below h.todo k, h.base⟩
theorem LkM.kb_ne (hT : LkT T) (h : LkM T w B kb sb lv n S R td tv bad) : kb ≠ sb := by
  rintro rfl
  obtain ⟨cs, h1, _⟩ := h.stk
  have h0 := h.head
  rw [h1] at h0
  injection h0 with h0
  injection h0 with _ h0
  exact hT.nl h0.symm
theorem LkM.at0 (h : LkM T w B kb sb lv n S R td tv bad) : w.cell? ⟨kb, 0, none⟩ = some lv ∧ w.cell? ⟨kb, 1, none⟩ = some (.slice (some ⟨sb, 0, none⟩) n n) ∧ w.cell? ⟨kb, 2, none⟩ = some tv ∧ w.cell? ⟨kb, 3, none⟩ = some (.bool bad) := by
  refine ⟨?_, ?_, ?_, ?_⟩ <;> (rw [cell_of_heap h.head]; rfl)
theorem LkM.frz (h : LkM T w B kb sb lv n S R td tv bad) (i : Nat) : w.frozen? ⟨kb, i, none⟩ = false := frozen_of_heap h.head i
theorem LkM.sfrz (h : LkM T w B kb sb lv n S R td tv bad) (i : Nat) : w.frozen? ⟨sb, i, none⟩ = false := by
  obtain ⟨cs, h1, _⟩ := h.stk
  exact frozen_of_heap h1 i
theorem LkM.slot (h : LkM T w B kb sb lv n S R td tv bad) {i : Nat} (hi : i < n) : w.cell? ⟨sb, i, none⟩ = some (match S i with | none => .slice none 0 0 | some s => .slice (some ⟨(R i).1, 0, none⟩) s.length (R i).2) := by
  obtain ⟨cs, h1, h2, h3⟩ := h.stk
  rw [cell_of_heap h1]; exact h3 i hi
/-- bad is said. -/
theorem LkM.setBad (hT : LkT T) (h : LkM T w B kb sb lv n S R td tv bad) (b : Bool) : LkM T (w.setCell ⟨kb, 3, none⟩ (.bool b)) B kb sb lv n S R td tv b := by
  have hne := h.kb_ne hT
  obtain ⟨cs, h1, h2, h3⟩ := h.stk
  refine ⟨by rw [heap_setCell_at h.head]; simp, ⟨cs, by rw [heap_setCell_ne _ _ (fun e => hne e.symm)]; exact h1, h2, h3⟩, fun i s hs => ⟨own_set (h.row i s hs).1 (own_block_ne (h.row i s hs).1 h.head hT.ni) _, (h.row i s hs).2⟩, own_set h.todo (own_block_ne h.todo h.head hT.ni) _, h.base⟩
/-- A stack is laid where there was none. -/
theorem LkM.put (hT : LkT T) (h : LkM T w B kb sb lv n S R td tv bad) {i : Nat} {s : List Int} {g cap : Nat} (hi : i < n) (hs : S i = none) (ho : ownI w B g cap s) (hg : tv.ownBlock ≠ some g) :
    LkM T (w.setCell ⟨sb, i, none⟩ (.slice (some ⟨g, 0, none⟩) s.length cap)) B kb sb lv n (fun j => if j = i then some s else S j) (fun j => if j = i then (g, cap) else R j) td tv bad := by
  have hne := h.kb_ne hT
  obtain ⟨cs, h1, h2, h3⟩ := h.stk
  refine ⟨by rw [heap_setCell_ne _ _ hne]; exact h.head, ⟨_, heap_setCell_at h1 _ _, by simpa using h2, fun j hj => ?_⟩, fun j t hj => ?_, own_set h.todo (own_block_ne h.todo h1 ne_int_rows) _, h.base⟩
  · by_cases e : j = i
    · subst e
      simp [Array.getElem?_setIfInBounds, h2, hj]
    · rw [Array.getElem?_setIfInBounds_ne (fun e' => e e'.symm)]
      simp only [if_neg e]
      exact h3 j hj
  · by_cases e : j = i
    · subst e
      simp only [if_pos] at hj ⊢
      injection hj with hj
      subst hj
      exact ⟨own_set ho (own_block_ne ho h1 ne_int_rows) _, hg⟩
    · simp only [if_neg e] at hj ⊢
      exact ⟨own_set (h.row j t hj).1 (own_block_ne (h.row j t hj).1 h1 ne_int_rows) _, (h.row j t hj).2⟩
/-- Those that are to be done turn: a longer row, of which nothing of the stacks is. -/
theorem LkM.more (hT : LkT T) (h : LkM T w B kb sb lv n S R td tv bad) {w1 : World} {tv' : Value} {td' : List Nat} (hg : w.grownBy w1 tv.ownBlock) (ho : w1.ownsRow B 3 1 tv' td'.length (rowN td')) (hv : tv'.ownBlock = tv.ownBlock ∨ ∀ g, tv'.ownBlock = some g → w.heap.size ≤ g) :
    LkM T (w1.setCell ⟨kb, 2, none⟩ tv') B kb sb lv n S R td' tv' bad := by
  have hne := h.kb_ne hT
  obtain ⟨cs, h1, h2, h3⟩ := h.stk
  have hk1 : w1.heap[kb]? = some (.cells #[lv, .slice (some ⟨sb, 0, none⟩) n n, tv, .bool bad] T (0, 0)) := by
    rw [hg.block kb (lt_of_heap h.head) (fun e => own_block_ne h.todo h.head hT.ni e.symm)]; exact h.head
  have hs1 : w1.heap[sb]? = some (.cells cs 31 (0, 0)) := by
    rw [hg.block sb (lt_of_heap h1) (fun e => own_block_ne h.todo h1 ne_int_rows e.symm)]; exact h1
  refine ⟨by rw [heap_setCell_at hk1]; simp, ⟨cs, by rw [heap_setCell_ne _ _ (fun e => hne e.symm)]; exact hs1, h2, h3⟩, fun i s hs => ?_, own_set ho (own_block_ne ho hk1 hT.ni) _, h.base⟩
  obtain ⟨r1, r2⟩ := h.row i s hs
  have r3 : ownI w1 B (R i).1 (R i).2 s := own_grown r1 hg (fun g hg' => by
    simp [Value.ownBlock] at hg'
    rw [← hg']; exact r2)
  refine ⟨own_set r3 (own_block_ne r3 hk1 hT.ni) _, ?_⟩
  rcases hv with hv | hv
  · rw [hv]; exact r2
  · intro e
    have := hv _ e
    have := own_lt' r1 (g := (R i).1) rfl
    omega
/-- The last one of those that are to be done is taken out. -/
theorem LkM.pop (hT : LkT T) {q cap : Nat} {td : List Nat} (h : LkM T w B kb sb lv n S R (td ++ [q]) tv bad) {g : Nat} (htv : tv = .slice (some ⟨g, 0, none⟩) (td.length + 1) cap) :
    LkM T (w.setCell ⟨kb, 2, none⟩ (.slice (some ⟨g, 0, none⟩) td.length cap)) B kb sb lv n S R td (.slice (some ⟨g, 0, none⟩) td.length cap) bad := by
  subst htv
  have ho : w.ownsRow B 3 1 (.slice (some ⟨g, 0, none⟩) td.length cap) td.length (rowN td) := by
    have := h.todo
    rw [List.length_append] at this
    refine ownsRow_pop (last := [.int .i64 (q : Int)]) (by simp [rowN]) ?_
    simpa [rowN] using this
  have hne := h.kb_ne hT
  obtain ⟨cs, h1, h2, h3⟩ := h.stk
  refine ⟨by rw [heap_setCell_at h.head]; simp, ⟨cs, by rw [heap_setCell_ne _ _ (fun e => hne e.symm)]; exact h1, h2, h3⟩, fun i s hs => ⟨own_set (h.row i s hs).1 (own_block_ne (h.row i s hs).1 h.head hT.ni) _, (h.row i s hs).2⟩, own_set ho (own_block_ne ho h.head hT.ni) _, h.base⟩
end

end Go.Proofs.YtiimojpaeccajaaGreatDoor
