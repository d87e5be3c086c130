/- The document's looker in memory: its row of what is to be done may begin inside its block. -/
import Derived.Test.YtiimojpaeccajaaDoorLkC
namespace Go.Proofs.YtiimojpaeccajaaDoor
set_option linter.unusedVariables false
set_option linter.unusedSimpArgs false
open Go.RowKit Go.Proofs.YtiimojpaeccajaaDoorW.PrintWords Go.Proofs.YtiimojpaeccajaaDoorW.PrintLast Go.Proofs.YtiimojpaeccajaaDoorW.PrintMore

theorem q_below {w w' : World} {B : Nat} {e : TypeId} {size n : Nat} {v : Value} {xs : List Value} (h : QRow w B e size v n xs) (k : Below w.heap.size w w') : QRow w' B e size v n xs :=
  q_move h (fun g hg => k.block g (q_lt h g hg))
theorem q_block_ne {w : World} {B : Nat} {e T : TypeId} {size n : Nat} {v : Value} {xs : List Value} (h : QRow w B e size v n xs) {b : Nat} {cs : Array Value} {f : Nat × Nat} (hb : w.heap[b]? = some (.cells cs T f)) (hT : T ≠ e) : v.ownBlock ≠ some b := by
  intro hv
  obtain ⟨_, cells, hc⟩ := q_typed h b hv
  rw [hc] at hb
  injection hb with hb
  injection hb with _ hb
  exact hT hb.symm
theorem q_set {w : World} {B : Nat} {e : TypeId} {size n : Nat} {v : Value} {xs : List Value} (h : QRow w B e size v n xs) {p : Addr} (hp : v.ownBlock ≠ some p.block) (u : Value) : QRow (w.setCell p u) B e size v n xs :=
  q_move h (fun g hg => Below.heap_setCell w p u g (fun e => hp (by rw [hg, e])))
theorem q_grown {w w' : World} {B : Nat} {e : TypeId} {size n : Nat} {v : Value} {xs : List Value} (h : QRow w B e size v n xs) {row : Option Nat} (k : w.grownBy w' row) (hp : ∀ g, v.ownBlock = some g → row ≠ some g) : QRow w' B e size v n xs :=
  q_move h (fun g hg => k.block g (q_lt h g hg) (fun e => hp g hg e.symm))

/-- The document's looker (its type T) at kb, its stacks at sb. -/
structure LqM (T : TypeId) (w : World) (B kb sb : Nat) (lv : Value) (n : Nat) (S : Nat → Option (List Int)) (R : Nat → Nat × Nat) (td : List Nat) (tv : Value) (bad : Bool) : Prop where
  head : w.heap[kb]? = some (.cells #[lv, .slice (some ⟨sb, 0, none⟩) n n, tv, .bool bad] T (0, 0))
  stk : ∃ cs : Array Value, w.heap[sb]? = some (.cells cs 36 (0, 0)) ∧ cs.size = n ∧ ∀ i, i < n → cs[i]? = some (match S i with | none => .slice none 0 0 | some s => .slice (some ⟨(R i).1, 0, none⟩) s.length (R i).2)
  row : ∀ i s, S i = some s → ownI w B (R i).1 (R i).2 s ∧ tv.ownBlock ≠ some (R i).1
  todo : QRow w B 3 1 tv td.length (rowN td)
  base : B ≤ kb ∧ B ≤ sb

section
variable {T : TypeId} {w : World} {B kb sb : Nat} {lv : Value} {n : Nat} {S : Nat → Option (List Int)} {R : Nat → Nat × Nat} {td : List Nat} {tv : Value} {bad : Bool}
theorem LqM.below {w' : World} (h : LqM T w B kb sb lv n S R td tv bad) (k : Below w.heap.size w w') : LqM T w' B kb sb lv n S R td tv bad := by
  obtain ⟨cs, h1, h2, h3⟩ := h.stk
  exact ⟨(k.block kb (lt_of_heap h.head)).trans h.head, ⟨cs, (k.block sb (lt_of_heap h1)).trans h1, h2, h3⟩, fun i s hs => ⟨own_below (h.row i s hs).1 k, (h.row i s hs).2⟩, q_below h.todo k, h.base⟩
theorem LqM.kb_ne (hT : LkT T) (h : LqM T w B kb sb lv n S R td tv bad) : kb ≠ sb := by
  rintro rfl
  obtain ⟨cs, h1, _⟩ := h.stk
  have h0 := h.head
  rw [h1] at h0
  injection h0 with h0
  injection h0 with _ h0
  exact hT.nl h0.symm
theorem LqM.at0 (h : LqM T w B kb sb lv n S R td tv bad) : w.cell? ⟨kb, 0, none⟩ = some lv ∧ w.cell? ⟨kb, 1, none⟩ = some (.slice (some ⟨sb, 0, none⟩) n n) ∧ w.cell? ⟨kb, 2, none⟩ = some tv ∧ w.cell? ⟨kb, 3, none⟩ = some (.bool bad) := by
  refine ⟨?_, ?_, ?_, ?_⟩ <;> (rw [cell_of_heap h.head]; rfl)
theorem LqM.frz (h : LqM T w B kb sb lv n S R td tv bad) (i : Nat) : w.frozen? ⟨kb, i, none⟩ = false := frozen_of_heap h.head i
theorem LqM.sfrz (h : LqM T w B kb sb lv n S R td tv bad) (i : Nat) : w.frozen? ⟨sb, i, none⟩ = false := by
  obtain ⟨cs, h1, _⟩ := h.stk
  exact frozen_of_heap h1 i
theorem LqM.slot (h : LqM T w B kb sb lv n S R td tv bad) {i : Nat} (hi : i < n) : w.cell? ⟨sb, i, none⟩ = some (match S i with | none => .slice none 0 0 | some s => .slice (some ⟨(R i).1, 0, none⟩) s.length (R i).2) := by
  obtain ⟨cs, h1, h2, h3⟩ := h.stk
  rw [cell_of_heap h1]; exact h3 i hi
/-- bad is said. -/
theorem LqM.setBad (hT : LkT T) (h : LqM T w B kb sb lv n S R td tv bad) (b : Bool) : LqM T (w.setCell ⟨kb, 3, none⟩ (.bool b)) B kb sb lv n S R td tv b := by
  have hne := h.kb_ne hT
  obtain ⟨cs, h1, h2, h3⟩ := h.stk
  refine ⟨by rw [heap_setCell_at h.head]; simp, ⟨cs, by rw [heap_setCell_ne _ _ (fun e => hne e.symm)]; exact h1, h2, h3⟩, fun i s hs => ⟨own_set (h.row i s hs).1 (own_block_ne (h.row i s hs).1 h.head hT.ni) _, (h.row i s hs).2⟩, q_set h.todo (q_block_ne h.todo h.head hT.ni) _, h.base⟩
/-- A stack is laid where there was none. -/
theorem LqM.put (hT : LkT T) (h : LqM T w B kb sb lv n S R td tv bad) {i : Nat} {s : List Int} {g cap : Nat} (hi : i < n) (hs : S i = none) (ho : ownI w B g cap s) (hg : tv.ownBlock ≠ some g) :
    LqM T (w.setCell ⟨sb, i, none⟩ (.slice (some ⟨g, 0, none⟩) s.length cap)) B kb sb lv n (fun j => if j = i then some s else S j) (fun j => if j = i then (g, cap) else R j) td tv bad := by
  have hne := h.kb_ne hT
  obtain ⟨cs, h1, h2, h3⟩ := h.stk
  refine ⟨by rw [heap_setCell_ne _ _ hne]; exact h.head, ⟨_, heap_setCell_at h1 _ _, by simpa using h2, fun j hj => ?_⟩, fun j t hj => ?_, q_set h.todo (q_block_ne h.todo h1 ne_int_rows) _, h.base⟩
  · by_cases e : j = i
    · subst e
      simp [Array.getElem?_setIfInBounds, h2, hj]
    · rw [Array.getElem?_setIfInBounds_ne (fun e' => e e'.symm)]
      simp only [if_neg e]
      exact h3 j hj
  · by_cases e : j = i
    · subst e
      simp only [if_pos] at hj ⊢
      injection hj with hj
      subst hj
      exact ⟨own_set ho (own_block_ne ho h1 ne_int_rows) _, hg⟩
    · simp only [if_neg e] at hj ⊢
      exact ⟨own_set (h.row j t hj).1 (own_block_ne (h.row j t hj).1 h1 ne_int_rows) _, (h.row j t hj).2⟩
/-- Those that are to be done turn: a longer row, of which nothing of the stacks is. -/
theorem LqM.more (hT : LkT T) (h : LqM T w B kb sb lv n S R td tv bad) {w1 : World} {tv' : Value} {td' : List Nat} (hg : w.grownBy w1 tv.ownBlock) (ho : QRow w1 B 3 1 tv' td'.length (rowN td')) (hv : tv'.ownBlock = tv.ownBlock ∨ ∃ b, tv'.ownBlock = some b ∧ w.heap.size ≤ b) :
    LqM T (w1.setCell ⟨kb, 2, none⟩ tv') B kb sb lv n S R td' tv' bad := by
  have hne := h.kb_ne hT
  obtain ⟨cs, h1, h2, h3⟩ := h.stk
  have hk1 : w1.heap[kb]? = some (.cells #[lv, .slice (some ⟨sb, 0, none⟩) n n, tv, .bool bad] T (0, 0)) := by
    rw [hg.block kb (lt_of_heap h.head) (fun e => q_block_ne h.todo h.head hT.ni e.symm)]; exact h.head
  have hs1 : w1.heap[sb]? = some (.cells cs 36 (0, 0)) := by
    rw [hg.block sb (lt_of_heap h1) (fun e => q_block_ne h.todo h1 ne_int_rows e.symm)]; exact h1
  refine ⟨by rw [heap_setCell_at hk1]; simp, ⟨cs, by rw [heap_setCell_ne _ _ (fun e => hne e.symm)]; exact hs1, h2, h3⟩, fun i s hs => ?_, q_set ho (q_block_ne ho hk1 hT.ni) _, h.base⟩
  obtain ⟨r1, r2⟩ := h.row i s hs
  have r3 : ownI w1 B (R i).1 (R i).2 s := own_grown r1 hg (fun g hg' => by
    simp [Value.ownBlock] at hg'
    rw [← hg']; exact r2)
  refine ⟨own_set r3 (own_block_ne r3 hk1 hT.ni) _, ?_⟩
  rcases hv with hv | ⟨b, hb, hv⟩
  · rw [hv]; exact r2
  · intro e
    rw [hb] at e
    injection e with e
    have := own_lt' r1 (g := (R i).1) rfl
    omega
/-- The first one of those that are to be done is taken out. -/
theorem LqM.pop (hT : LkT T) {q cap : Nat} {td : List Nat} {A : Option Addr} (h : LqM T w B kb sb lv n S R (q :: td) (.slice A (td.length + 1) cap) bad) :
    LqM T (w.setCell ⟨kb, 2, none⟩ (.slice (if cap = 1 then A else A.map (·.add 1)) td.length (cap - 1))) B kb sb lv n S R td (.slice (if cap = 1 then A else A.map (·.add 1)) td.length (cap - 1)) bad := by
  have ho : QRow w B 3 1 (.slice (if cap = 1 then A else A.map (·.add 1)) td.length (cap - 1)) td.length (rowN td) := by
    have := q_drop (k := 1) h.todo (by simp)
    simpa [rowN] using this
  have hbl : (Value.slice (if cap = 1 then A else A.map (·.add 1)) td.length (cap - 1)).ownBlock = (Value.slice A (td.length + 1) cap).ownBlock := by
    cases A with
    | none => simp [Value.ownBlock]
    | some a =>
      obtain ⟨b, o, sp⟩ := a
      by_cases e : cap = 1
      · rw [if_pos e]; simp [Value.ownBlock]
      · rw [if_neg e]; simp [Value.ownBlock, Addr.add]
  have hne := h.kb_ne hT
  obtain ⟨cs, h1, h2, h3⟩ := h.stk
  refine ⟨by rw [heap_setCell_at h.head]; simp, ⟨cs, by rw [heap_setCell_ne _ _ (fun e => hne e.symm)]; exact h1, h2, h3⟩, fun i s hs => ⟨own_set (h.row i s hs).1 (own_block_ne (h.row i s hs).1 h.head hT.ni) _, by rw [hbl]; exact (h.row i s hs).2⟩, q_set ho (q_block_ne ho h.head hT.ni) _, h.base⟩
end

end Go.Proofs.YtiimojpaeccajaaDoor
