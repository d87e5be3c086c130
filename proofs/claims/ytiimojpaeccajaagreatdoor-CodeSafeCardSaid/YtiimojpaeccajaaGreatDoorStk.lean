/- Stacks of code: whatever the order in which places are gone on from, the same comes out. No program in sight. -/
import Derived.Test.YtiimojpaeccajaaGreatDoorBase
namespace Go.Proofs.YtiimojpaeccajaaGreatDoor
set_option linter.unusedVariables false
set_option linter.unusedSimpArgs false

/-- An instruction's operation and its first number. -/
structure SIns where
  op : Int
  a : Int
def stop (s : List Int) : Int := s.getLastD 0
def stOk (x : SIns) (s : List Int) : Bool :=
  if x.op = 12 then decide (2 ≤ s.length ∧ stop s = x.a + 1)
  else if x.op = 13 then decide (s.length = 1 ∧ stop s = x.a + 1)
  else if x.op = 14 then decide (s.length = 1 ∧ stop s = 0) else true
def stNext (x : SIns) (at_ : Nat) (s : List Int) : List (Nat × List Int) :=
  if x.op = 7 then [(x.a.toNat, s), (at_ + 1, s)]
  else if x.op = 8 then [(x.a.toNat, s)]
  else if x.op = 9 then [(x.a.toNat, [0]), (at_ + 1, s)]
  else if x.op = 10 then [(x.a.toNat, s), (at_ + 1, s ++ [0])]
  else if x.op = 11 then [(at_ + 1, s.dropLast ++ [stop s + 1])]
  else if x.op = 12 ∨ x.op = 13 ∨ x.op = 14 then [] else [(at_ + 1, s)]
/-- What is known so far: the stacks, places to be gone on from, and whether it doesn't go well. -/
structure StK where
  S : Nat → Option (List Int)
  todo : List Nat
  bad : Bool
def stCome (n : Nat) (k : StK) (p : Nat × List Int) : StK :=
  if n ≤ p.1 ∨ 200 < p.2.length ∨ 29 < stop p.2 then { k with bad := true }
  else match k.S p.1 with
    | none => { k with S := fun i => if i = p.1 then some p.2 else k.S i, todo := k.todo ++ [p.1] }
    | some t => if t = p.2 then k else { k with bad := true }
/-- Come to, with a stack. -/
inductive StR (l : List SIns) : Nat → List Int → Prop where
  | zero : StR l 0 [0]
  | next {i j : Nat} {s t : List Int} {x : SIns} (h : StR l i s) (hx : l[i]? = some x) (hj : (j, t) ∈ stNext x i s) : StR l j t
/-- It goes well. -/
def StW (l : List SIns) : Prop := ∀ i s, StR l i s → i < l.length ∧ s.length ≤ 200 ∧ stop s ≤ 29 ∧ (∀ x, l[i]? = some x → stOk x s = true) ∧ ∀ t, StR l i t → t = s
theorem stR_ne {l : List SIns} {i : Nat} {s : List Int} (h : StR l i s) : s ≠ [] := by
  induction h with
  | zero => simp
  | @next i j s t x h hx hj ih =>
    unfold stNext at hj
    split at hj
    · simp at hj; rcases hj with ⟨-, rfl⟩ | ⟨-, rfl⟩ <;> exact ih
    · split at hj
      · simp at hj; rw [hj.2]; exact ih
      · split at hj
        · simp at hj; rcases hj with ⟨-, rfl⟩ | ⟨-, rfl⟩
          · simp
          · exact ih
        · split at hj
          · simp at hj; rcases hj with ⟨-, rfl⟩ | ⟨-, rfl⟩
            · exact ih
            · simp
          · split at hj
            · simp at hj; rw [hj.2]; simp
            · split at hj
              · cases hj
              · simp at hj; rw [hj.2]; exact ih

/-- Amid a place's going on: cur is gone on from, and pend is yet to be come to. -/
structure StJ (l : List SIns) (k : StK) (cur : Nat) (pend : List (Nat × List Int)) : Prop where
  bad : k.bad = true → ¬ StW l
  r : k.bad = false → ∀ i s, k.S i = some s → StR l i s
  td : ∀ i ∈ k.todo, k.S i ≠ none
  nd : k.todo.Nodup
  zero : k.bad = false → k.S 0 = some [0]
  pnd : k.bad = false → ∀ p ∈ pend, StR l p.1 p.2
  done : k.bad = false → ∀ i s x, k.S i = some s → i ∉ k.todo → l[i]? = some x → stOk x s = true ∧ ∀ p ∈ stNext x i s, k.S p.1 = some p.2 ∨ (i = cur ∧ p ∈ pend)
/-- Between two goings on. -/
structure StI (l : List SIns) (k : StK) : Prop where
  bad : k.bad = true → ¬ StW l
  r : k.bad = false → ∀ i s, k.S i = some s → StR l i s
  td : ∀ i ∈ k.todo, k.S i ≠ none
  nd : k.todo.Nodup
  zero : k.bad = false → k.S 0 = some [0]
  done : k.bad = false → ∀ i s x, k.S i = some s → i ∉ k.todo → l[i]? = some x → stOk x s = true ∧ ∀ p ∈ stNext x i s, k.S p.1 = some p.2
theorem StJ.come {l : List SIns} {k : StK} {cur : Nat} {p : Nat × List Int} {pend : List (Nat × List Int)} (h : StJ l k cur (p :: pend)) : StJ l (stCome l.length k p) cur pend := by
  unfold stCome
  split
  · rename_i hc
    refine ⟨fun _ => ?_, (fun e => by cases e), h.td, h.nd, (fun e => by cases e), (fun e => by cases e), (fun e => by cases e)⟩
    cases hb : k.bad with
    | true => exact h.bad hb
    | false =>
      intro hw
      have := hw _ _ (h.pnd hb p List.mem_cons_self)
      omega
  · rename_i hc
    cases hs : k.S p.1 with
    | none =>
      simp only
      have hS : ∀ i s, k.S i = some s → (if i = p.1 then some p.2 else k.S i) = some s := fun i s hi => by
        have : i ≠ p.1 := fun e => by rw [e, hs] at hi; cases hi
        rw [if_neg this]; exact hi
      have hni : p.1 ∉ k.todo := fun hm => h.td _ hm hs
      refine ⟨h.bad, fun hb i s hi => ?_, fun i hi => ?_, ?_, fun hb => hS _ _ (h.zero hb), fun hb q hq => h.pnd hb q (List.mem_cons_of_mem _ hq), fun hb i s x hi hn hx => ?_⟩
      · by_cases e : i = p.1
        · have hi2 : (if i = p.1 then some p.2 else k.S i) = some s := hi
          rw [if_pos e] at hi2
          injection hi2 with hi2
          rw [e, ← hi2]
          exact h.pnd hb p List.mem_cons_self
        · have hi2 : (if i = p.1 then some p.2 else k.S i) = some s := hi
          rw [if_neg e] at hi2
          exact h.r hb i s hi2
      · show (if i = p.1 then some p.2 else k.S i) ≠ none
        by_cases e : i = p.1
        · rw [if_pos e]; simp
        · rw [if_neg e]
          rcases List.mem_append.1 hi with hi | hi
          · exact h.td i hi
          · exact absurd (List.mem_singleton.1 hi) e
      · refine List.nodup_append.2 ⟨h.nd, by simp, fun a ha b hb e => ?_⟩
        rw [List.mem_singleton.1 hb] at e
        exact hni (e ▸ ha)
      · have hn2 : i ∉ k.todo ++ [p.1] := hn
        have hi2 : (if i = p.1 then some p.2 else k.S i) = some s := hi
        have hne : i ≠ p.1 := fun e => hn2 (List.mem_append_right _ (by rw [e]; exact List.mem_singleton.2 rfl))
        rw [if_neg hne] at hi2
        obtain ⟨h1, h2⟩ := h.done hb i s x hi2 (fun hm => hn2 (List.mem_append_left _ hm)) hx
        refine ⟨h1, fun q hq => ?_⟩
        rcases h2 q hq with h3 | ⟨h3, h4⟩
        · exact Or.inl (hS _ _ h3)
        · rcases List.mem_cons.1 h4 with rfl | h4
          · left
            show (if q.1 = q.1 then some q.2 else k.S q.1) = some q.2
            rw [if_pos rfl]
          · exact Or.inr ⟨h3, h4⟩
    | some t =>
      simp only
      by_cases e : t = p.2
      · rw [if_pos e]
        subst e
        refine ⟨h.bad, h.r, h.td, h.nd, h.zero, fun hb q hq => h.pnd hb q (List.mem_cons_of_mem _ hq), fun hb i s x hi hn hx => ?_⟩
        obtain ⟨h1, h2⟩ := h.done hb i s x hi hn hx
        refine ⟨h1, fun q hq => ?_⟩
        rcases h2 q hq with h3 | ⟨h3, h4⟩
        · exact Or.inl h3
        · rcases List.mem_cons.1 h4 with rfl | h4
          · exact Or.inl hs
          · exact Or.inr ⟨h3, h4⟩
      · rw [if_neg e]
        refine ⟨fun _ => ?_, (fun e => by cases e), h.td, h.nd, (fun e => by cases e), (fun e => by cases e), (fun e => by cases e)⟩
        cases hb : k.bad with
        | true => exact h.bad hb
        | false =>
          intro hw
          have h1 := (hw _ _ (h.pnd hb p List.mem_cons_self)).2.2.2.2 t (h.r hb _ _ hs)
          exact e h1
theorem StJ.all {l : List SIns} {cur : Nat} : ∀ (pend : List (Nat × List Int)) {k : StK}, StJ l k cur pend → StI l (pend.foldl (stCome l.length) k)
  | [], k, h => ⟨h.bad, h.r, h.td, h.nd, h.zero, fun hb i s x hi hn hx => by
    obtain ⟨h1, h2⟩ := h.done hb i s x hi hn hx
    exact ⟨h1, fun p hp => (h2 p hp).resolve_right (fun ⟨_, h⟩ => by cases h)⟩⟩
  | p :: pend, k, h => by
    rw [List.foldl_cons]
    exact StJ.all pend h.come
/-- A place is taken out of those to be gone on from, and gone on from. -/
def stGo (l : List SIns) (k : StK) (i : Nat) (x : SIns) (s : List Int) (todo : List Nat) : StK :=
  (stNext x i s).foldl (stCome l.length) { k with todo := todo, bad := k.bad || !stOk x s }
theorem StI.go {l : List SIns} {k : StK} (h : StI l k) {i : Nat} {x : SIns} {s : List Int} {todo : List Nat} (hx : l[i]? = some x) (hs : k.S i = some s) (hm : ∀ j, j ∈ k.todo ↔ j = i ∨ j ∈ todo) (hn : todo.Nodup) (hi : i ∉ todo) : StI l (stGo l k i x s todo) := by
  refine StJ.all (cur := i) _ ⟨fun hb => ?_, fun hb => ?_, fun j hj => h.td j ((hm j).2 (Or.inr hj)), hn, fun hb => ?_, fun hb p hp => ?_, fun hb j t y hj hjn hy => ?_⟩
  · cases hk : k.bad with
    | true => exact h.bad hk
    | false =>
      have hb2 : (k.bad || !stOk x s) = true := hb
      rw [hk] at hb2
      intro hw
      have := (hw i s (h.r hk i s hs)).2.2.2.1 x hx
      rw [this] at hb2
      cases hb2
  · have hb2 : (k.bad || !stOk x s) = false := hb
    have hk : k.bad = false := by cases hk : k.bad with | false => rfl | true => rw [hk] at hb2; cases hb2
    exact h.r hk
  · have hb2 : (k.bad || !stOk x s) = false := hb
    have hk : k.bad = false := by cases hk : k.bad with | false => rfl | true => rw [hk] at hb2; cases hb2
    exact h.zero hk
  · have hb2 : (k.bad || !stOk x s) = false := hb
    have hk : k.bad = false := by cases hk : k.bad with | false => rfl | true => rw [hk] at hb2; cases hb2
    exact .next (h.r hk i s hs) hx hp
  · have hb2 : (k.bad || !stOk x s) = false := hb
    have hk : k.bad = false := by cases hk : k.bad with | false => rfl | true => rw [hk] at hb2; cases hb2
    by_cases e : j = i
    · subst e
      have hj2 : k.S j = some t := hj
      rw [hs] at hj2
      injection hj2 with hj2
      subst hj2
      rw [hx] at hy
      injection hy with hy
      subst hy
      have hok : stOk x s = true := by
        rw [hk] at hb2
        cases ho : stOk x s with
        | true => rfl
        | false => rw [ho] at hb2; cases hb2
      exact ⟨hok, fun p hp => Or.inr ⟨rfl, hp⟩⟩
    · obtain ⟨h1, h2⟩ := h.done hk j t y hj (fun hm2 => by
        rcases (hm j).1 hm2 with e2 | e2
        · exact e e2
        · exact hjn e2) hy
      exact ⟨h1, fun p hp => Or.inl (h2 p hp)⟩
/-- The begin. -/
theorem stI_start {l : List SIns} (hl : 0 < l.length) : StI l (stCome l.length ⟨fun _ => none, [], false⟩ (0, [0])) := by
  unfold stCome
  rw [if_neg (by have h0 : stop [0] = 0 := rfl; show ¬ (l.length ≤ 0 ∨ 200 < 1 ∨ 29 < stop [0]); rw [h0]; omega)]
  simp only
  refine ⟨(fun e => by cases e), fun _ i s hi => ?_, fun i hi => ?_, by simp, fun _ => by simp, fun _ i s x hi hn hx => ?_⟩
  · have hi2 : (if i = 0 then some [0] else none) = some s := hi
    by_cases e : i = 0
    · rw [if_pos e] at hi2
      injection hi2 with hi2
      rw [e, ← hi2]; exact .zero
    · rw [if_neg e] at hi2; cases hi2
  · have : i = 0 := by simpa using hi
    subst this
    simp
  · have hi2 : (if i = 0 then some [0] else none) = some s := hi
    by_cases e : i = 0
    · exact absurd (by simp [e]) hn
    · rw [if_neg e] at hi2; cases hi2
/-- The end: nothing more is to be done. -/
theorem StI.ends {l : List SIns} {k : StK} (h : StI l k) (hlt : ∀ i s, k.S i = some s → i < l.length ∧ s.length ≤ 200 ∧ stop s ≤ 29) (hb : k.bad = false) (ht : k.todo = []) : StW l ∧ ∀ i s, k.S i = some s ↔ StR l i s := by
  have hR : ∀ i s, StR l i s → k.S i = some s := by
    intro i s hr
    induction hr with
    | zero => exact h.zero hb
    | @next i j s t x _ hx hj ih => exact ((h.done hb i s x ih (by rw [ht]; simp) hx).2 _ hj)
  refine ⟨fun i s hr => ?_, fun i s => ⟨h.r hb i s, hR i s⟩⟩
  have hs := hR i s hr
  obtain ⟨h1, h2, h3⟩ := hlt i s hs
  refine ⟨h1, h2, h3, fun x hx => (h.done hb i s x hs (by rw [ht]; simp) hx).1, fun t ht2 => ?_⟩
  have := hR i t ht2
  rw [hs] at this
  injection this with this
  exact this.symm

end Go.Proofs.YtiimojpaeccajaaGreatDoor
