/- The stacks of code that is known: by running. Plain. -/
import Derived.Test.YtiimojpaeccajaaGreatDoorStkM
namespace Go.Proofs.YtiimojpaeccajaaGreatDoor
set_option linter.unusedVariables false
set_option linter.unusedSimpArgs false

/-- Gone on, at most so often. -/
def stRun (l : List SIns) : Nat → StK → StK
  | 0, k => k
  | f + 1, k =>
    if k.bad then k
    else match k.todo.getLast? with
      | none => k
      | some q => match l[q]?, k.S q with
        | some x, some s => stRun l f (stGo l k q x s k.todo.dropLast)
        | _, _ => k
theorem stRun_inv (l : List SIns) (f : Nat) : ∀ k, StI l k → SOk l.length k.S → StI l (stRun l f k) ∧ SOk l.length (stRun l f k).S := by
  induction f with
  | zero => intro k h1 h2; exact ⟨h1, h2⟩
  | succ f ih =>
    intro k h1 h2
    rw [stRun]
    split
    · exact ⟨h1, h2⟩
    · split
      · exact ⟨h1, h2⟩
      · rename_i q hq
        split
        · rename_i x s hx hs
          obtain ⟨hs0, ht⟩ : k.todo ≠ [] ∧ k.todo = k.todo.dropLast ++ [q] := by
            have hne : k.todo ≠ [] := by intro e; rw [e] at hq; cases hq
            refine ⟨hne, ?_⟩
            have h3 := List.getLast?_eq_some_getLast hne
            rw [h3] at hq
            injection hq with hq
            rw [← hq]
            exact (List.dropLast_concat_getLast hne).symm
          have hnd := h1.nd
          rw [ht] at hnd
          have hnd2 := List.nodup_append.1 hnd
          have hm : ∀ j, j ∈ k.todo ↔ j = q ∨ j ∈ k.todo.dropLast := fun j => by
            constructor
            · intro h; rw [ht] at h
              rcases List.mem_append.1 h with h | h
              · exact .inr h
              · exact .inl (List.mem_singleton.1 h)
            · intro h; rw [ht]
              rcases h with rfl | h
              · exact List.mem_append_right _ (List.mem_singleton.2 rfl)
              · exact List.mem_append_left _ h
          refine ih _ (h1.go hx hs hm hnd2.1 (fun h => hnd2.2.2 q h q (List.mem_singleton.2 rfl) rfl)) ?_
          exact SOk.all (k := { k with todo := k.todo.dropLast, bad := k.bad || !stOk x s }) _ h2 (pendOk_next (h2 q s hs).2.1 (h2 q s hs).2.2.2.1)
        · exact ⟨h1, h2⟩
/-- From the beginning. -/
def stFull (l : List SIns) (f : Nat) : StK := stRun l f (stCome l.length ⟨fun _ => none, [], false⟩ (0, [0]))
theorem stFull_inv {l : List SIns} (hl : 0 < l.length) (f : Nat) : StI l (stFull l f) ∧ SOk l.length (stFull l f).S :=
  stRun_inv l f _ (stI_start hl) (SOk.come (k := ⟨fun _ => none, [], false⟩) (fun i s h => by cases h) ⟨by simp, by show (0 : Int) ≤ stop [0]; decide⟩)
theorem stFull_well {l : List SIns} (hl : 0 < l.length) (f : Nat) (hb : (stFull l f).bad = false) (ht : (stFull l f).todo = []) : StW l ∧ ∀ i s, (stFull l f).S i = some s ↔ StR l i s := by
  obtain ⟨h1, h2⟩ := stFull_inv hl f
  exact h1.ends (fun i s h => ⟨(h2 i s h).1, (h2 i s h).2.2.1, (h2 i s h).2.2.2.2⟩) hb ht
theorem stFull_bad {l : List SIns} (hl : 0 < l.length) (f : Nat) (hb : (stFull l f).bad = true) : ¬ StW l := (stFull_inv hl f).1.bad hb

end Go.Proofs.YtiimojpaeccajaaGreatDoor
