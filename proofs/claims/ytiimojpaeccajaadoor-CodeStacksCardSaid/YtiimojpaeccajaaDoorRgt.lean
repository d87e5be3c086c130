/- The document's right data: what right and Right come to. Plain. -/
import Derived.Test.YtiimojpaeccajaaDoorSym7
import Derived.Test.YtiimojpaeccajaaDoorR4
namespace Go.Proofs.YtiimojpaeccajaaDoor
set_option linter.unusedVariables false
set_option linter.unusedSimpArgs false
open Go.RowKit Go.Proofs.YtiimojpaeccajaaDoorW.PrintWords Go.Proofs.YtiimojpaeccajaaDoorW.PrintLast Go.Proofs.YtiimojpaeccajaaDoorW.PrintMore

def tailB (x : Dat) : Bool := if x.f0 = 7 then decide (2 ≤ x.f3.length) && !((x.f3.getD (x.f3.length - 1) datZ).f0 == 6) && !((x.f3.getD (x.f3.length - 1) datZ).f0 == 7) else true
theorem rl_end (k : Nat) (far : Int) (x : Dat) (i : Nat) (hi : ¬ i < x.f3.length) (hl : x.f3.length ≤ 100000) : PCodeStacks.spindleref08_right.l0 (k + 1) far (i : Int) x.f0 x.f1 x.f2 x.f3 = some (tailB x) := by
  rw [PCodeStacks.spindleref08_right.l0, if_neg (by omega)]
  unfold tailB
  by_cases h7 : x.f0 = 7
  · rw [if_pos h7, if_pos h7]
    by_cases h2 : 2 ≤ x.f3.length
    · have hw : wrap64 ((x.f3.length : Int) - 1) = ((x.f3.length - 1 : Nat) : Int) := by unfold wrap64; omega
      rw [if_pos (by omega), hw, if_pos (by omega), if_pos (by omega), rdT_at, decide_eq_true h2]
      by_cases h6 : (x.f3.getD (x.f3.length - 1) datZ).f0 = 6
      · rw [if_pos h6, h6]; rfl
      · rw [if_neg h6]
        have : ((x.f3.getD (x.f3.length - 1) datZ).f0 == 6) = false := by simpa using h6
        rw [this]
        rfl
    · rw [if_neg (by omega), decide_eq_false h2]; rfl
  · rw [if_neg h7, if_neg h7]
theorem rl_step (k : Nat) (far : Int) (x : Dat) (i : Nat) (hi : i < x.f3.length) (r : Bool) (h : PCodeStacks.spindleref08_right.f k (x.f3.getD i datZ).f0 (x.f3.getD i datZ).f1 (x.f3.getD i datZ).f2 (x.f3.getD i datZ).f3 (wrap64 (far - 1)) = some r) :
    PCodeStacks.spindleref08_right.l0 (k + 1) far (i : Int) x.f0 x.f1 x.f2 x.f3 = if r = true then PCodeStacks.spindleref08_right.l0 k far (wrap64 ((i : Int) + 1)) x.f0 x.f1 x.f2 x.f3 else some false := by
  rw [PCodeStacks.spindleref08_right.l0, if_pos (by omega), if_pos (by omega), rdT_at, h, Option.bind_some]
theorem isEmpty_iff (s : ByteArray) : (s.toList = ([] : List UInt8)) ↔ (s.data.toList.isEmpty = true) := by
  rw [ByteArray.toList_eq]; simp
theorem drop_allD (l : List Dat) (p : Dat → Bool) (i : Nat) (h : i < l.length) : (l.drop i).all p = (p (l.getD i datZ) && (l.drop (i + 1)).all p) := by
  rw [List.drop_eq_getElem_cons h, List.all_cons]
  simp [List.getD, List.getElem?_eq_getElem h]
/-- Within it are right ones. -/
def RFun (f : Nat) (x : Dat) : Prop := ∃ K, ∀ k, K ≤ k → PCodeStacks.spindleref08_right.f k x.f0 x.f1 x.f2 x.f3 (f : Int) = some (fitB f x)
theorem rloop (f : Nat) (hf : f ≤ 100000) (x : Dat) (hl : x.f3.length ≤ 100000) (hc : ∀ j, j < x.f3.length → RFun f (x.f3.getD j datZ)) :
    ∀ d i, i + d = x.f3.length → ∃ K, ∀ k, K ≤ k → PCodeStacks.spindleref08_right.l0 k ((f + 1 : Nat) : Int) (i : Int) x.f0 x.f1 x.f2 x.f3 = some ((x.f3.drop i).all (fitB f) && tailB x) := by
  intro d
  induction d with
  | zero =>
    intro i hi
    refine ⟨1, fun k hk => ?_⟩
    obtain ⟨k, rfl⟩ : ∃ q, k = q + 1 := ⟨k - 1, by omega⟩
    rw [rl_end _ _ _ _ (by omega) hl, List.drop_eq_nil_of_le (by omega), List.all_nil, Bool.true_and]
  | succ d ih =>
    intro i hi
    obtain ⟨K1, h1⟩ := hc i (by omega)
    obtain ⟨K2, h2⟩ := ih (i + 1) (by omega)
    refine ⟨K1 + K2 + 1, fun k hk => ?_⟩
    obtain ⟨k, rfl⟩ : ∃ q, k = q + 1 := ⟨k - 1, by omega⟩
    rw [rl_step _ _ _ _ (by omega) (fitB f (x.f3.getD i datZ)) (by rw [show wrap64 (((f + 1 : Nat) : Int) - 1) = (f : Int) from by unfold wrap64; omega]; exact h1 k (by omega)), drop_allD _ _ i (by omega), wrap_nat i (by omega), h2 k (by omega)]
    cases fitB f (x.f3.getD i datZ) <;> simp
/-- A list's, a vector's. -/
def midB (f : Nat) (x : Dat) : Bool := x.f3.all (fitB f) && tailB x && (x.f1 == 0) && x.f2.data.toList.isEmpty
theorem j0_false (k : Nat) (far : Int) (p : Bool) (a b : Int) (c : ByteArray) (l : List Dat) : PCodeStacks.spindleref08_right.j0 (k + 1) far p false a b c l = some false := by
  rw [PCodeStacks.spindleref08_right.j0, if_neg (by decide)]
theorem j0_one (k : Nat) (far : Int) (p : Bool) (x : Dat) (h : ¬ (x.f1 = 0 ∧ x.f2.data.toList.isEmpty = true)) : PCodeStacks.spindleref08_right.j0 (k + 2) far p true x.f0 x.f1 x.f2 x.f3 = some false := by
  rw [PCodeStacks.spindleref08_right.j0, if_pos rfl]
  by_cases h1 : x.f1 = 0
  · rw [if_pos h1]
    by_cases h2 : x.f2.data.toList.isEmpty = true
    · exact absurd ⟨h1, h2⟩ h
    · rw [if_neg (fun e => h2 ((isEmpty_iff _).1 e)), PCodeStacks.spindleref08_right.j1, if_pos rfl]
  · rw [if_neg h1, PCodeStacks.spindleref08_right.j1, if_pos rfl]
theorem j0_deep (k : Nat) (far : Int) (p : Bool) (x : Dat) (h : x.f1 = 0) (h2 : x.f2.data.toList.isEmpty = true) (b : Bool) (hb : b = (decide (far ≤ 1) && !p)) : PCodeStacks.spindleref08_right.j0 (k + 2) far p true x.f0 x.f1 x.f2 x.f3 = if b = true then some false else PCodeStacks.spindleref08_right.l0 k far 0 x.f0 x.f1 x.f2 x.f3 := by
  rw [PCodeStacks.spindleref08_right.j0, if_pos rfl, if_pos h, if_pos ((isEmpty_iff _).2 h2)]
  subst hb
  by_cases h3 : far ≤ 1
  · rw [if_pos h3, PCodeStacks.spindleref08_right.j1, decide_eq_true h3, Bool.true_and]
  · rw [if_neg h3, PCodeStacks.spindleref08_right.j1, decide_eq_false h3, Bool.false_and]
theorem rmid (f : Nat) (hf : f ≤ 100000) (x : Dat) (hl : x.f3.length ≤ 100000) (hc : 0 < f → ∀ j, j < x.f3.length → RFun f (x.f3.getD j datZ)) :
    ∃ K, ∀ k, K ≤ k → PCodeStacks.spindleref08_right.j0 k ((f + 1 : Nat) : Int) ((x.f3.length : Int) == 0) true x.f0 x.f1 x.f2 x.f3 = some (midB f x) := by
  unfold midB
  by_cases h : x.f1 = 0 ∧ x.f2.data.toList.isEmpty = true
  · obtain ⟨h1, h2⟩ := h
    have e1 : (x.f1 == 0) = true := by simpa using h1
    rw [e1, h2, Bool.and_true, Bool.and_true]
    by_cases h0 : x.f3.length = 0
    · have hb : ((x.f3.length : Int) == 0) = true := by rw [h0]; rfl
      refine ⟨3, fun k hk => ?_⟩
      obtain ⟨k, rfl⟩ : ∃ q, k = q + 3 := ⟨k - 3, by omega⟩
      rw [j0_deep (k + 1) _ _ x h1 h2 false (by rw [hb]; simp), if_neg (by decide)]
      have := rl_end k ((f + 1 : Nat) : Int) x 0 (by omega) hl
      rw [show ((0 : Nat) : Int) = 0 from rfl] at this
      rw [this, List.eq_nil_of_length_eq_zero h0, List.all_nil, Bool.true_and]
    · have hb : ((x.f3.length : Int) == 0) = false := by simp; intro e; exact h0 (by rw [e]; rfl)
      by_cases hf0 : f = 0
      · subst hf0
        refine ⟨2, fun k hk => ?_⟩
        obtain ⟨k, rfl⟩ : ∃ q, k = q + 2 := ⟨k - 2, by omega⟩
        rw [j0_deep k _ _ x h1 h2 true (by rw [hb]; simp), if_pos rfl]
        obtain ⟨y, t, hy⟩ : ∃ y t, x.f3 = y :: t := by
          cases hx : x.f3 with
          | nil => rw [hx] at h0; exact absurd rfl h0
          | cons y t => exact ⟨y, t, rfl⟩
        rw [hy, List.all_cons]
        simp [fitB]
      · obtain ⟨K, hK⟩ := rloop f hf x hl (hc (by omega)) x.f3.length 0 (by omega)
        refine ⟨K + 2, fun k hk => ?_⟩
        obtain ⟨k, rfl⟩ : ∃ q, k = q + 2 := ⟨k - 2, by omega⟩
        rw [j0_deep k _ _ x h1 h2 false (by rw [hb]; simp; omega), if_neg (by decide)]
        have := hK k (by omega)
        rw [List.drop_zero] at this
        exact this
  · refine ⟨2, fun k hk => ?_⟩
    obtain ⟨k, rfl⟩ : ∃ q, k = q + 2 := ⟨k - 2, by omega⟩
    rw [j0_one k _ _ x h]
    congr 1
    by_cases h1 : x.f1 = 0
    · have h2 : x.f2.data.toList.isEmpty = false := by
        cases hh : x.f2.data.toList.isEmpty
        · rfl
        · exact absurd ⟨h1, hh⟩ h
      rw [h2]; simp
    · have e1 : (x.f1 == 0) = false := by simpa using h1
      rw [e1]; simp

set_option maxHeartbeats 1000000 in
theorem right08 (N : Nat) : ∀ (x : Dat) (f : Nat), dsz x ≤ N → N ≤ 100000 → f ≤ 100000 → RFun (f + 1) x := by
  induction N with
  | zero => intro x f h; have := dsz_pos x; omega
  | succ N ih =>
    intro x f hN hN2 hf
    have hsz := dsz_eq x
    have hml := length_le_dszL x.f3
    obtain ⟨K1, hmid⟩ := rmid f hf x (by omega) (fun hf0 j hj => by
      obtain ⟨g, rfl⟩ : ∃ g, f = g + 1 := ⟨f - 1, by omega⟩
      exact ih _ g (by have := dsz_getD_lt x.f3 j hj; omega) (by omega) (by omega))
    refine ⟨K1 + x.f2.size + 6, fun k hk => ?_⟩
    obtain ⟨k, rfl⟩ : ∃ q, k = q + 2 := ⟨k - 2, by omega⟩
    have hL : ((x.f3.length : Int) = 0) ↔ x.f3.length = 0 := by omega
    rw [PCodeStacks.spindleref08_right.f, fitB]
    have hE := isEmpty_iff x.f2
    have hS := sym07 x.f2 (k + 1) (by omega)
    have hM := hmid (k + 1) (by omega)
    have eL : (x.f3.length == 0) = decide ((x.f3.length : Int) = 0) := Bool.eq_iff_iff.2 (by simp)
    by_cases k1 : x.f0 = 1
    · rw [if_pos k1, if_pos k1, eL]
      by_cases h1 : (x.f3.length : Int) = 0 <;> by_cases h2 : x.f2.data.toList.isEmpty = true
      · rw [if_pos h1, if_pos (hE.2 h2), decide_eq_true h1, h2]
        by_cases h3 : x.f1 ≥ -1152921504606846976
        · rw [if_pos h3]; congr 1; exact Bool.eq_iff_iff.2 (by simp; omega)
        · rw [if_neg h3]; congr 1; exact Bool.eq_iff_iff.2 (by simp; omega)
      · rw [if_pos h1, if_neg (fun e => h2 (hE.1 e))]; simp [h2]
      · rw [if_neg h1, decide_eq_false h1]; simp
      · rw [if_neg h1, decide_eq_false h1]; simp
    rw [if_neg k1, if_neg k1]
    by_cases k2 : x.f0 = 2
    · rw [if_pos k2, if_pos k2, eL]
      by_cases h1 : (x.f3.length : Int) = 0 <;> by_cases h2 : x.f2.data.toList.isEmpty = true
      · rw [if_pos h1, if_pos (hE.2 h2), decide_eq_true h1, h2]
        by_cases h3 : x.f1 = 0
        · rw [if_pos h3, h3]; rfl
        · rw [if_neg h3]; congr 1; exact Bool.eq_iff_iff.2 (by simp; omega)
      · rw [if_pos h1, if_neg (fun e => h2 (hE.1 e))]; simp [h2]
      · rw [if_neg h1, decide_eq_false h1]; simp
      · rw [if_neg h1, decide_eq_false h1]; simp
    rw [if_neg k2, if_neg k2]
    by_cases k3 : x.f0 = 3
    · rw [if_pos k3, if_pos k3, eL]
      by_cases h1 : (x.f3.length : Int) = 0 <;> by_cases h2 : x.f2.data.toList.isEmpty = true
      · rw [if_pos h1, if_pos (hE.2 h2), decide_eq_true h1, h2]
        by_cases h3 : x.f1 ≥ 0
        · rw [if_pos h3]; congr 1; exact Bool.eq_iff_iff.2 (by simp; omega)
        · rw [if_neg h3]; congr 1; exact Bool.eq_iff_iff.2 (by simp; omega)
      · rw [if_pos h1, if_neg (fun e => h2 (hE.1 e))]; simp [h2]
      · rw [if_neg h1, decide_eq_false h1]; simp
      · rw [if_neg h1, decide_eq_false h1]; simp
    rw [if_neg k3, if_neg k3]
    by_cases k4 : x.f0 = 4
    · rw [if_pos k4, if_pos k4, eL]
      by_cases h1 : (x.f3.length : Int) = 0 <;> by_cases h2 : x.f1 = 0
      · rw [if_pos h1, if_pos h2, decide_eq_true h1, h2]
        congr 1; exact Bool.eq_iff_iff.2 (by simp; omega)
      · rw [if_pos h1, if_neg h2]; simp [h2]
      · rw [if_neg h1, decide_eq_false h1]; simp
      · rw [if_neg h1, decide_eq_false h1]; simp
    rw [if_neg k4, if_neg k4]
    by_cases k5 : x.f0 = 5
    · rw [if_pos k5, if_pos k5, eL]
      by_cases h1 : (x.f3.length : Int) = 0 <;> by_cases h2 : x.f1 = 0
      · rw [if_pos h1, if_pos h2, decide_eq_true h1, h2, hS]
        simp
      · rw [if_pos h1, if_neg h2]; simp [h2]
      · rw [if_neg h1, decide_eq_false h1]; simp
      · rw [if_neg h1, decide_eq_false h1]; simp
    rw [if_neg k5, if_neg k5]
    by_cases k6 : x.f0 = 6
    · have e6 : (x.f0 == 6) = true := by simpa using k6
      rw [if_pos k6, if_neg (by omega), if_pos (.inl k6), e6, hM, midB, tailB, if_neg (by omega)]
      simp
    rw [if_neg k6]
    by_cases k7 : x.f0 = 7
    · have e7 : (x.f0 == 7) = true := by simpa using k7
      rw [if_pos k7, if_pos k7, e7, hM, midB, tailB, if_pos k7]
      congr 1
      generalize x.f3.all (fitB f) = a, decide (2 ≤ x.f3.length) = b, (!((x.f3.getD (x.f3.length - 1) datZ).f0 == 6)) = c, (!((x.f3.getD (x.f3.length - 1) datZ).f0 == 7)) = d, (x.f1 == 0) = e, x.f2.data.toList.isEmpty = g
      cases a <;> cases b <;> cases c <;> cases d <;> cases e <;> cases g <;> rfl
    rw [if_neg k7, if_neg k7]
    by_cases k8 : x.f0 = 8
    · have e8 : (x.f0 == 8) = true := by simpa using k8
      rw [if_pos (.inr k8), e8, hM, midB, tailB, if_neg k7]
      simp
    · have e8 : (x.f0 == 8) = false := by simpa using k8
      rw [if_neg (by omega), e8, j0_false]

/-- What fits is no deeper than that. -/
theorem fit_dep (f : Nat) : ∀ x, fitB f x = true → ∀ g, depF g x ≤ f := by
  induction f with
  | zero => intro x h; simp [fitB] at h
  | succ f ih =>
    intro x h g
    have hall : x.f3.all (fitB f) = true ∨ x.f3.length = 0 := by
      rw [fitB] at h
      by_cases k1 : x.f0 = 1
      · rw [if_pos k1] at h; right; simp only [Bool.and_eq_true, beq_iff_eq] at h; exact h.1.1.1
      rw [if_neg k1] at h
      by_cases k2 : x.f0 = 2
      · rw [if_pos k2] at h; right; simp only [Bool.and_eq_true, beq_iff_eq] at h; exact h.1.1
      rw [if_neg k2] at h
      by_cases k3 : x.f0 = 3
      · rw [if_pos k3] at h; right; simp only [Bool.and_eq_true, beq_iff_eq] at h; exact h.1.1
      rw [if_neg k3] at h
      by_cases k4 : x.f0 = 4
      · rw [if_pos k4] at h; right; simp only [Bool.and_eq_true, beq_iff_eq] at h; exact h.1.1
      rw [if_neg k4] at h
      by_cases k5 : x.f0 = 5
      · rw [if_pos k5] at h; right; simp only [Bool.and_eq_true, beq_iff_eq] at h; exact h.1.1
      rw [if_neg k5] at h
      by_cases k7 : x.f0 = 7
      · rw [if_pos k7] at h; left; simp only [Bool.and_eq_true] at h; exact h.1.1.2
      rw [if_neg k7] at h
      by_cases k6 : x.f0 = 6 ∨ x.f0 = 8
      · rw [if_pos k6] at h; left; simp only [Bool.and_eq_true] at h; exact h.1.1
      · rw [if_neg k6] at h; cases h
    cases g with
    | zero => rw [depF]; omega
    | succ g =>
      rw [depF]
      have : ∀ (l : List Dat) (a : Nat), (∀ d ∈ l, depF g d ≤ f) → a ≤ f → l.foldl (fun a d => max a (depF g d)) a ≤ f := by
        intro l
        induction l with
        | nil => intro a _ h; exact h
        | cons d l ihl =>
          intro a hd ha
          rw [List.foldl_cons]
          exact ihl _ (fun e he => hd e (List.mem_cons_of_mem _ he)) (by have := hd d (by simp); omega)
      have h2 := this x.f3 0 (fun d hd => by
        rcases hall with h | h
        · exact ih d (List.all_eq_true.1 h d hd) g
        · rw [List.eq_nil_of_length_eq_zero h] at hd; cases hd) (Nat.zero_le _)
      omega
theorem Right08 (x : Dat) (h : dsz x ≤ 4000) : ∃ K, ∀ k, K ≤ k → PCodeStacks.spindleref08_Right.f k x.f0 x.f1 x.f2 x.f3 = some (fitB 64 x) := by
  obtain ⟨K1, h1⟩ := depth08 4000 x 70 h (by decide) (by decide)
  obtain ⟨K2, h2⟩ := parts08 x
  obtain ⟨K3, h3⟩ := right08 4000 x 63 h (by decide) (by decide)
  refine ⟨K1 + K2 + K3, fun k hk => ?_⟩
  have e1 := h1 k (by omega)
  have e3 := h3 k (by omega)
  rw [show ((70 : Nat) : Int) = 70 from rfl] at e1
  rw [show ((63 + 1 : Nat) : Int) = 64 from rfl] at e3
  unfold PCodeStacks.spindleref08_Right.f
  rw [e1, Option.bind_some]
  by_cases hd : depF 70 x ≤ 64
  · rw [if_pos (by omega), h2 k (by omega), Option.bind_some, cap_lt (by omega), if_pos (by omega), e3, Option.bind_some]
  · rw [if_neg (by omega)]
    cases hf : fitB 64 x
    · rfl
    · exact absurd (fit_dep 64 x hf 70) hd

end Go.Proofs.YtiimojpaeccajaaDoor
