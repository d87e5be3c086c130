/- How much is yet to be done by the looker; plain. -/
import Derived.Test.YtiimojpaeccajaaGreatDoorLkF
namespace Go.Proofs.YtiimojpaeccajaaGreatDoor
set_option linter.unusedVariables false
set_option linter.unusedSimpArgs false
open Go.RowKit

def noneC (n : Nat) (S : Nat → Option (List Int)) : Nat := ((List.range n).filter fun i => (S i).isNone).length
theorem filter_le (l : List Nat) (p q : Nat → Bool) (h : ∀ i ∈ l, q i = true → p i = true) : (l.filter q).length ≤ (l.filter p).length := by
  induction l with
  | nil => simp
  | cons a l ih =>
    have h1 := ih (fun i hi => h i (List.mem_cons_of_mem _ hi))
    have h2 := h a List.mem_cons_self
    simp only [List.filter_cons]
    split
    · rename_i hq
      rw [if_pos (h2 hq)]; simp; exact h1
    · split
      · simp; omega
      · exact h1
theorem filter_lt (l : List Nat) (p q : Nat → Bool) (h : ∀ i ∈ l, q i = true → p i = true) {a : Nat} (ha : a ∈ l) (hp : p a = true) (hq : q a = false) : (l.filter q).length < (l.filter p).length := by
  induction l with
  | nil => cases ha
  | cons b l ih =>
    have h0 := fun i hi => h i (List.mem_cons_of_mem b hi)
    have hle := filter_le l p q h0
    simp only [List.filter_cons]
    rcases List.mem_cons.1 ha with rfl | ha
    · rw [hp, hq]; simp; omega
    · have h1 := ih h0 ha
      have h2 := h b List.mem_cons_self
      split
      · rename_i hqb
        rw [if_pos (h2 hqb)]; simp; exact h1
      · split
        · simp; omega
        · exact h1
theorem noneC_le (n : Nat) (S : Nat → Option (List Int)) : noneC n S ≤ n := by
  have := List.length_filter_le (fun i => (S i).isNone) (List.range n)
  simpa [noneC] using this
/-- What is left. -/
def leftC (n : Nat) (k : StK) : Nat := 2 * noneC n k.S + k.todo.length
theorem leftC_come (n : Nat) (k : StK) (p : Nat × List Int) : leftC n (stCome n k p) ≤ leftC n k := by
  unfold stCome
  split
  · exact Nat.le_refl _
  · rename_i hc
    cases hp : k.S p.1 with
    | some t => simp only; split <;> exact Nat.le_refl _
    | none =>
      simp only
      have h1 : noneC n (fun i => if i = p.1 then some p.2 else k.S i) < noneC n k.S := by
        refine filter_lt _ _ _ (fun i _ h => ?_) (a := p.1) (List.mem_range.2 (by omega)) (by rw [hp]; rfl) (by simp)
        dsimp only at h
        by_cases e : i = p.1
        · rw [if_pos e] at h; cases h
        · rw [if_neg e] at h; exact h
      show 2 * noneC n (fun i => if i = p.1 then some p.2 else k.S i) + (k.todo ++ [p.1]).length ≤ 2 * noneC n k.S + k.todo.length
      rw [List.length_append, List.length_singleton]
      omega
theorem leftC_all (n : Nat) (l : List (Nat × List Int)) : ∀ k : StK, leftC n (l.foldl (stCome n) k) ≤ leftC n k := by
  induction l with
  | nil => intro k; exact Nat.le_refl _
  | cons p l ih => intro k; rw [List.foldl_cons]; exact Nat.le_trans (ih _) (leftC_come n k p)
theorem SOk.all {n : Nat} (l : List (Nat × List Int)) : ∀ {k : StK}, SOk n k.S → (∀ p ∈ l, PendOk p.2) → SOk n (l.foldl (stCome n) k).S := by
  induction l with
  | nil => intro k h _; exact h
  | cons p l ih => intro k h hp; rw [List.foldl_cons]; exact ih (h.come (hp p List.mem_cons_self)) (fun q hq => hp q (List.mem_cons_of_mem _ hq))

/-- Nothing: a slice that is none. -/
def isNilV : Value → Bool
  | .slice none _ _ => true
  | _ => false
def nilCells (w : World) (sb : Nat) : Nat :=
  match w.heap[sb]? with
  | some (.cells cs _ _) => (cs.toList.filter isNilV).length
  | _ => 0
def todoLen (w : World) (kb : Nat) : Nat :=
  match w.cell? ⟨kb, 2, none⟩ with
  | some (.slice _ l _) => l
  | _ => 0
theorem filter_map_len {α β : Type} (l : List α) (f : α → β) (p : β → Bool) : ((l.map f).filter p).length = (l.filter (fun a => p (f a))).length := by
  induction l with
  | nil => rfl
  | cons a l ih =>
    simp only [List.map_cons, List.filter_cons]
    split <;> simp [ih]
theorem LkM.left {T : TypeId} {w : World} {B kb sb : Nat} {lv : Value} {n : Nat} {S : Nat → Option (List Int)} {R : Nat → Nat × Nat} {td : List Nat} {tv : Value} {bad : Bool} (h : LkM T w B kb sb lv n S R td tv bad) :
    2 * nilCells w sb + todoLen w kb = leftC n ⟨S, td, bad⟩ := by
  obtain ⟨cs, h1, h2, h3⟩ := h.stk
  have e1 : nilCells w sb = noneC n S := by
    unfold nilCells noneC
    rw [h1]
    simp only
    have e : cs.toList = (List.range n).map (fun i => match S i with | none => Value.slice none 0 0 | some s => .slice (some ⟨(R i).1, 0, none⟩) s.length (R i).2) := by
      apply List.ext_getElem?
      intro i
      rw [List.getElem?_map, Array.getElem?_toList]
      by_cases hi : i < n
      · rw [h3 i hi, List.getElem?_range hi]; rfl
      · rw [Array.getElem?_eq_none (by omega), List.getElem?_eq_none (by simp; omega)]; rfl
    rw [e, filter_map_len]
    congr 1
    apply List.filter_congr
    intro i _
    cases S i <;> rfl
  have e2 : todoLen w kb = td.length := by
    unfold todoLen
    rw [h.at0.2.2.1]
    rcases h.todo.2 with ⟨rfl, h0⟩ | ⟨g, cap, cur, rfl, _⟩
    · simp only; omega
    · rfl
  show _ = 2 * noneC n S + td.length
  rw [e1, e2]

end Go.Proofs.YtiimojpaeccajaaGreatDoor
