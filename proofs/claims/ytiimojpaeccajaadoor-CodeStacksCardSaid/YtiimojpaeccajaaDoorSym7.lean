/- The document's symbols: what its digits and Symbol come to. Plain. -/
import Derived.Test.YtiimojpaeccajaaDoorLex2
import Derived.Test.YtiimojpaeccajaaDoorPr1
import Derived.Test.YtiimojpaeccajaaDoorR3
namespace Go.Proofs.YtiimojpaeccajaaDoor
set_option linter.unusedVariables false
set_option linter.unusedSimpArgs false
open Go.RowKit Go.Proofs.YtiimojpaeccajaaDoorW.PrintWords Go.Proofs.YtiimojpaeccajaaDoorW.PrintLast Go.Proofs.YtiimojpaeccajaaDoorW.PrintMore

theorem bt_byL (s : ByteArray) (i : Nat) : bt s (i : Int) = ((byL s.data.toList i : Nat) : Int) := by
  unfold bt byL
  by_cases h : i < s.size
  · have h' : (i : Int).toNat < s.size := by simpa using h
    rw [dif_pos h']
    simp [List.getD, ByteArray.getElem_eq_getElem_data] at *
    rw [Array.getElem?_eq_getElem (by simpa using h)]
    simp
  · rw [dif_neg (by simpa using h)]
    simp [List.getD] at *
    rw [Array.getElem?_eq_none (by simpa using h)]
    simp
theorem drop_all (l : List UInt8) (f : Nat → Bool) (i : Nat) (h : i < l.length) : (l.drop i).all (fun c => f c.toNat) = (f (byL l i) && (l.drop (i + 1)).all (fun c => f c.toNat)) := by
  rw [List.drop_eq_getElem_cons h, List.all_cons]
  simp [byL, List.getD, List.getElem?_eq_getElem h]
theorem dg_ifs (c : Nat) (r : Option Bool) : (if (c : Int) < 48 then some false else (if (c : Int) > 57 then some false else r)) = if dgN c = true then r else some false := by
  unfold dgN
  by_cases h1 : 48 ≤ c <;> by_cases h2 : c ≤ 57
  · rw [if_neg (by omega), if_neg (by omega)]; simp [h1, h2]
  · rw [if_neg (by omega), if_pos (by omega)]; simp [h1, h2]
  · rw [if_pos (by omega)]; simp [h1]
  · rw [if_pos (by omega)]; simp [h1]
theorem dg_loop (s : ByteArray) (l : List UInt8) (hl : s.data.toList = l) (hn : s.size ≤ 100000000) : ∀ d i, i + d = s.size → ∀ k, d + 1 ≤ k → PCodeStacks.spindleref07_digits.l0 k s (i : Int) = some ((l.drop i).all (fun c => dgN c.toNat) && decide (1 ≤ l.length) && decide (l.length ≤ 30)) := by
  have hlen : l.length = s.size := by rw [← hl]; simp
  intro d
  induction d with
  | zero =>
    intro i hi k hk
    obtain ⟨k, rfl⟩ : ∃ q, k = q + 1 := ⟨k - 1, by omega⟩
    rw [PCodeStacks.spindleref07_digits.l0, if_neg (by omega), List.drop_eq_nil_of_le (by omega), List.all_nil, Bool.true_and]
    by_cases h : 1 ≤ s.size
    · rw [if_pos (by omega), hlen, decide_eq_true h, Bool.true_and]
      congr 1
      exact Bool.eq_iff_iff.2 (by simp; omega)
    · rw [if_neg (by omega), hlen, decide_eq_false h, Bool.false_and]
  | succ d ih =>
    intro i hi k hk
    obtain ⟨k, rfl⟩ : ∃ q, k = q + 1 := ⟨k - 1, by omega⟩
    rw [PCodeStacks.spindleref07_digits.l0, if_pos (by omega), if_pos (by omega), bt_byL, hl, dg_ifs, drop_all l dgN i (by omega), wrap_nat i (by omega), ih (i + 1) (by omega) k (by omega)]
    cases dgN (byL l i) <;> simp
theorem digs07 (s : ByteArray) (hn : s.size ≤ 100000000) : ∀ k, s.size + 3 ≤ k → PCodeStacks.spindleref07_digits.f k s = some (digsS s.data.toList) := by
  intro k hk
  obtain ⟨k, rfl⟩ : ∃ q, k = q + 2 := ⟨k - 2, by omega⟩
  have hlen : s.data.toList.length = s.size := by simp
  unfold PCodeStacks.spindleref07_digits.f
  have tail : ∀ c t, s.data.toList = c :: t → PCodeStacks.spindleref07_digits.j0 (k + 2) s true = some (digsL t) := by
    intro c t hc
    have h1 : s.size = t.length + 1 := by rw [← hlen, hc]; rfl
    rw [PCodeStacks.spindleref07_digits.j0, if_pos rfl, if_pos (by omega), PCodeStacks.spindleref07_digits.j1]
    have hx : (s.extract 1 s.size).data.toList = t := by
      simp [hc, h1]
    have := dg_loop (s.extract 1 s.size) t hx (by simp; omega) (s.size - 1) 0 (by simp) k (by omega)
    rw [show ((0 : Nat) : Int) = 0 from rfl] at this
    rw [this, List.drop_zero, digsL]
    cases (t.all fun c => dgN c.toNat) <;> simp
  have whole : PCodeStacks.spindleref07_digits.j0 (k + 2) s false = some (digsL s.data.toList) := by
    rw [PCodeStacks.spindleref07_digits.j0, if_neg (by decide), PCodeStacks.spindleref07_digits.j1]
    have := dg_loop s _ rfl hn s.size 0 (by omega) k (by omega)
    rw [show ((0 : Nat) : Int) = 0 from rfl] at this
    rw [this, List.drop_zero, digsL]
    cases (s.data.toList.all fun c => dgN c.toNat) <;> simp
  cases hs : s.data.toList with
  | nil =>
    have h0 : s.size = 0 := by rw [← hlen, hs]; rfl
    rw [if_neg (by omega), whole, hs]
    rfl
  | cons c t =>
    have h0 : s.size = t.length + 1 := by rw [← hlen, hs]; rfl
    have hb : bt s 0 = ((c.toNat : Nat) : Int) := by
      have := bt_byL s 0
      rw [hs] at this
      exact this
    rw [if_pos (by omega), if_pos (by omega), hb]
    by_cases h1 : c = 45
    · subst h1
      rw [if_pos (by decide), tail _ t hs]
      rfl
    · have h1' : ¬ ((c.toNat : Nat) : Int) = 45 := fun e => h1 (UInt8.toNat_inj.1 (by show c.toNat = 45; omega))
      rw [if_neg h1']
      by_cases h2 : c = 43
      · subst h2
        rw [show ((((43 : UInt8).toNat : Nat) : Int) == 43) = true from by decide, tail _ t hs]
        rfl
      · have h2' : ((((c.toNat : Nat) : Int) == 43)) = false := by
          simp only [beq_eq_false_iff_ne, ne_eq]
          exact fun e => h2 (UInt8.toNat_inj.1 (by show c.toNat = 43; omega))
        rw [h2', whole, hs]
        simp [digsS, h1, h2]

def sy7 (c : Nat) : Bool := !(decide (c < 33)) && !(decide (126 < c)) && !(c == 40) && !(c == 41) && !(c == 34) && !(c == 59) && !(c == 39) && !(c == 44) && !(c == 96) && !(c == 35)
theorem sy7_eq : ∀ c, c < 256 → sy7 c = syN c := by decide +kernel
theorem sy_ifs (c : Nat) (r : Option Bool) : (if (c : Int) < 33 then (some false) else (if (c : Int) > 126 then (some false) else (if (c : Int) = 40 then (some false) else (if (c : Int) = 41 then (some false) else (if (c : Int) = 34 then (some false) else (if (c : Int) = 59 then (some false) else (if (c : Int) = 39 then (some false) else (if (c : Int) = 44 then (some false) else (if (c : Int) = 96 then (some false) else (if (c : Int) = 35 then (some false) else r)))))))))) = if sy7 c = true then r else some false := by
  by_cases h1 : c < 33
  · rw [if_pos (by omega)]; simp [sy7, h1]
  by_cases h2 : 126 < c
  · rw [if_neg (by omega), if_pos (by omega)]; simp [sy7, h1, h2]
  rw [if_neg (by omega), if_neg (by omega)]
  by_cases h : c = 40 ∨ c = 41 ∨ c = 34 ∨ c = 59 ∨ c = 39 ∨ c = 44 ∨ c = 96 ∨ c = 35
  · have hs : sy7 c = false := by rcases h with h | h | h | h | h | h | h | h <;> (rw [h]; decide)
    rw [show (if sy7 c = true then r else some false) = some false from by rw [hs]; rfl]
    repeat' (first | rfl | split)
    all_goals (exfalso; omega)
  · have hs : sy7 c = true := by simp [sy7, h1, h2]; omega
    rw [show (if sy7 c = true then r else some false) = r from by rw [hs]; rfl]
    rw [if_neg (show ¬ (c : Int) = 40 by omega), if_neg (show ¬ (c : Int) = 41 by omega), if_neg (show ¬ (c : Int) = 34 by omega), if_neg (show ¬ (c : Int) = 59 by omega), if_neg (show ¬ (c : Int) = 39 by omega), if_neg (show ¬ (c : Int) = 44 by omega), if_neg (show ¬ (c : Int) = 96 by omega), if_neg (show ¬ (c : Int) = 35 by omega)]
theorem sy_loop (s : ByteArray) (l : List UInt8) (hl : s.data.toList = l) (hn : s.size ≤ 100000000) : ∀ d i, i + d = s.size → ∀ k, d + 1 ≤ k → PCodeStacks.spindleref07_Symbol.l0 k s (i : Int) = some ((l.drop i).all (fun c => sy7 c.toNat)) := by
  have hlen : l.length = s.size := by rw [← hl]; simp
  intro d
  induction d with
  | zero =>
    intro i hi k hk
    obtain ⟨k, rfl⟩ : ∃ q, k = q + 1 := ⟨k - 1, by omega⟩
    rw [PCodeStacks.spindleref07_Symbol.l0, if_neg (by omega), List.drop_eq_nil_of_le (by omega), List.all_nil]
  | succ d ih =>
    intro i hi k hk
    obtain ⟨k, rfl⟩ : ∃ q, k = q + 1 := ⟨k - 1, by omega⟩
    rw [PCodeStacks.spindleref07_Symbol.l0, if_pos (by omega), if_pos (by omega), bt_byL, hl, sy_ifs, drop_all l sy7 i (by omega), wrap_nat i (by omega), ih (i + 1) (by omega) k (by omega)]
    cases sy7 (byL l i) <;> simp
theorem sym07 (s : ByteArray) : ∀ k, s.size + 3 ≤ k → PCodeStacks.spindleref07_Symbol.f k s = some (symS s.data.toList) := by
  intro k hk
  obtain ⟨k, rfl⟩ : ∃ q, k = q + 2 := ⟨k - 2, by omega⟩
  have hlen : s.data.toList.length = s.size := by simp
  have hT : PCodeStacks.spindleref07_Symbol.j0 (k + 2) s true = some false := by rw [PCodeStacks.spindleref07_Symbol.j0, if_pos rfl]
  have hF : s.size ≤ 60 → PCodeStacks.spindleref07_Symbol.j0 (k + 2) s false = some (s.data.toList.all fun c => syN c.toNat) := by
    intro hn
    rw [PCodeStacks.spindleref07_Symbol.j0, if_neg (by decide)]
    have := sy_loop s _ rfl (by omega) s.size 0 (by omega) (k + 1) (by omega)
    rw [show ((0 : Nat) : Int) = 0 from rfl] at this
    rw [this, List.drop_zero]
    congr 1
    apply List.all_congr rfl
    intro c
    exact sy7_eq c.toNat (by have := c.toNat_lt; omega)
  have ht : s.toList = s.data.toList := ByteArray.toList_eq s
  unfold PCodeStacks.spindleref07_Symbol.f symS
  rw [ht]
  generalize hl : s.data.toList = l at *
  by_cases h0 : s.size < 1
  · rw [if_pos (by omega), hT, List.eq_nil_of_length_eq_zero (by omega : l.length = 0)]; rfl
  rw [if_neg (by omega)]
  have hne : l.isEmpty = false := by cases l with | nil => simp at hlen; omega | cons => rfl
  by_cases h6 : s.size > 60
  · rw [if_pos (by omega), hT, hlen, decide_eq_false (by omega)]; simp
  rw [if_neg (by omega)]
  by_cases h46 : l = [46]
  · rw [if_pos h46, hT, h46]; simp
  rw [if_neg h46, digs07 s (by omega) (k + 2) (by omega), Option.bind_some, hl]
  have h46' : (l == [46]) = false := by simpa using h46
  rw [hne, hlen, decide_eq_true (by omega), h46']
  cases digsS l
  · rw [hF (by omega)]; simp
  · rw [hT]; simp

end Go.Proofs.YtiimojpaeccajaaDoor
