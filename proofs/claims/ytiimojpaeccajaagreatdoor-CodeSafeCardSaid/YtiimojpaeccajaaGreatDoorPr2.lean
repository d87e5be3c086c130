/- Copies, and stacks held against one another: the document's own functions, as contracts. -/
import Derived.Test.YtiimojpaeccajaaGreatDoorPr1
import Derived.Test.YtiimojpaeccajaaGreatDoorLkF
import Derived.Test.YtiimojpaeccajaaGreatDoorAwkP
namespace Go.Proofs.YtiimojpaeccajaaGreatDoor
set_option linter.unusedVariables false
set_option linter.unusedSimpArgs false
open Go.RowKit Go.Proofs.YtiimojpaeccajaaGreatDoorW.PrintWords Go.Proofs.YtiimojpaeccajaaGreatDoorW.PrintLast Go.Proofs.YtiimojpaeccajaaGreatDoorW.PrintMore

theorem ow_end (k : Nat) (acc : List Dat) (i a b : Int) (c : ByteArray) (l : List Dat) (h : ¬ i < (l.length : Int)) : PCodeSafe.spindleref08_Own.l0 (k + 1) acc i a b c l = some (a, b, c, acc) := by
  rw [PCodeSafe.spindleref08_Own.l0, if_neg h]
theorem ow_step (k : Nat) (acc : List Dat) (i : Nat) (a b : Int) (c : ByteArray) (l : List Dat) (h : i < l.length) (h2 : acc.length ≤ 1000000) (r : Dat) (hr : PCodeSafe.spindleref08_Own.f k (l.getD i datZ).f0 (l.getD i datZ).f1 (l.getD i datZ).f2 (l.getD i datZ).f3 = some (r.f0, r.f1, r.f2, r.f3)) :
    PCodeSafe.spindleref08_Own.l0 (k + 1) acc (i : Int) a b c l = PCodeSafe.spindleref08_Own.l0 k (acc ++ [r]) (wrap64 ((i : Int) + 1)) a b c l := by
  rw [PCodeSafe.spindleref08_Own.l0, if_pos (by omega), if_pos (by omega), rdT_at, hr, Option.bind_some, if_pos (by omega)]
  refine congrArg (fun z => PCodeSafe.spindleref08_Own.l0 k (acc ++ [z]) (wrap64 ((i : Int) + 1)) a b c l) ?_
  cases r
  rfl
theorem own08 (N : Nat) : ∀ x : Dat, dsz x ≤ N → N ≤ 100000 → ∃ K, ∀ k, K ≤ k → PCodeSafe.spindleref08_Own.f k x.f0 x.f1 x.f2 x.f3 = some (x.f0, x.f1, x.f2, x.f3) := by
  induction N with
  | zero => intro x h; have := dsz_pos x; omega
  | succ N ih =>
    intro x hN hN2
    have hsz := dsz_eq x
    have hml := length_le_dszL x.f3
    have loop : ∀ d i, i + d = x.f3.length → ∃ K, ∀ k, K ≤ k → PCodeSafe.spindleref08_Own.l0 k (x.f3.take i) (i : Int) x.f0 x.f1 x.f2 x.f3 = some (x.f0, x.f1, x.f2, x.f3) := by
      intro d
      induction d with
      | zero =>
        intro i hi
        refine ⟨1, fun k hk => ?_⟩
        obtain ⟨k, rfl⟩ : ∃ q, k = q + 1 := ⟨k - 1, by omega⟩
        rw [ow_end _ _ _ _ _ _ _ (by omega), List.take_of_length_le (by omega)]
      | succ d ihd =>
        intro i hi
        have hlt : i < x.f3.length := by omega
        obtain ⟨K1, h1⟩ := ih (x.f3.getD i datZ) (by have := dsz_getD_lt x.f3 i hlt; omega) (by omega)
        obtain ⟨K2, h2⟩ := ihd (i + 1) (by omega)
        refine ⟨K1 + K2 + 1, fun k hk => ?_⟩
        obtain ⟨k, rfl⟩ : ∃ q, k = q + 1 := ⟨k - 1, by omega⟩
        rw [ow_step k _ i _ _ _ _ hlt (by rw [List.length_take]; omega) (x.f3.getD i datZ) (h1 k (by omega)), wrap_nat i (by omega)]
        have ht : x.f3.take (i + 1) = x.f3.take i ++ [x.f3.getD i datZ] := by
          rw [List.take_add_one, List.getElem?_eq_getElem hlt]
          simp [List.getD, List.getElem?_eq_getElem hlt]
        rw [← ht]
        exact h2 k (by omega)
    obtain ⟨K, hK⟩ := loop x.f3.length 0 (by omega)
    refine ⟨K + 1, fun k hk => ?_⟩
    obtain ⟨k, rfl⟩ : ∃ q, k = q + 1 := ⟨k - 1, by omega⟩
    rw [PCodeSafe.spindleref08_Own.f]
    have := hK k (by omega)
    rw [List.take_zero] at this
    exact this
theorem ox_end (k : Nat) (l acc : List Ins) (i : Int) (h : ¬ i < (l.length : Int)) : PCodeSafe.spindleref16_Own.l0 (k + 1) l acc i = some acc := by
  rw [PCodeSafe.spindleref16_Own.l0, if_neg h]
theorem ox_step (k : Nat) (l acc : List Ins) (i : Nat) (h : i < l.length) (h2 : acc.length ≤ 1000000) (hr : PCodeSafe.spindleref08_Own.f k (l.getD i insZ).f4.f0 (l.getD i insZ).f4.f1 (l.getD i insZ).f4.f2 (l.getD i insZ).f4.f3 = some ((l.getD i insZ).f4.f0, (l.getD i insZ).f4.f1, (l.getD i insZ).f4.f2, (l.getD i insZ).f4.f3)) :
    PCodeSafe.spindleref16_Own.l0 (k + 1) l acc (i : Int) = PCodeSafe.spindleref16_Own.l0 k l (acc ++ [l.getD i insZ]) (wrap64 ((i : Int) + 1)) := by
  rw [PCodeSafe.spindleref16_Own.l0, if_pos (by omega), if_pos (by omega), rdI_at, hr, Option.bind_some, if_pos (by omega)]
  refine congrArg (fun z => PCodeSafe.spindleref16_Own.l0 k l (acc ++ [z]) (wrap64 ((i : Int) + 1))) ?_
  generalize l.getD i insZ = y
  obtain ⟨f0, f1, f2, f3, ⟨g0, g1, g2, g3⟩⟩ := y
  rfl
theorem own16 (l : List Ins) (hl : l.length ≤ 100000) (hs : ∀ j, j < l.length → dsz (l.getD j insZ).f4 ≤ 5000) : ∃ k, PCodeSafe.spindleref16_Own.f k l = some l := by
  have loop : ∀ d i, i + d = l.length → ∃ K, ∀ k, K ≤ k → PCodeSafe.spindleref16_Own.l0 k l (l.take i) (i : Int) = some l := by
    intro d
    induction d with
    | zero =>
      intro i hi
      refine ⟨1, fun k hk => ?_⟩
      obtain ⟨k, rfl⟩ : ∃ q, k = q + 1 := ⟨k - 1, by omega⟩
      rw [ox_end _ _ _ _ (by omega), List.take_of_length_le (by omega)]
    | succ d ihd =>
      intro i hi
      have hlt : i < l.length := by omega
      obtain ⟨K1, h1⟩ := own08 5000 (l.getD i insZ).f4 (hs i hlt) (by omega)
      obtain ⟨K2, h2⟩ := ihd (i + 1) (by omega)
      refine ⟨K1 + K2 + 1, fun k hk => ?_⟩
      obtain ⟨k, rfl⟩ : ∃ q, k = q + 1 := ⟨k - 1, by omega⟩
      rw [ox_step k _ _ i hlt (by rw [List.length_take]; omega) (h1 k (by omega)), wrap_nat i (by omega)]
      have ht : l.take (i + 1) = l.take i ++ [l.getD i insZ] := by
        rw [List.take_add_one, List.getElem?_eq_getElem hlt]
        simp [List.getD, List.getElem?_eq_getElem hlt]
      rw [← ht]
      exact h2 k (by omega)
  obtain ⟨K, hK⟩ := loop l.length 0 (by omega)
  exact ⟨K, hK K (Nat.le_refl _)⟩

theorem rd_at' (xs : List Int) (i : Nat) : rd xs (i : Int) = xs.getD i 0 := by
  show xs.getD ((i : Int)).toNat _ = _
  rw [Int.toNat_natCast]
theorem same16 (s t : List Int) (hs : s.length ≤ 100000) : ∃ k, PCodeSafe.spindleref16_Same.f k s t = some (decide (s = t)) := by
  by_cases hl : s.length = t.length
  · have loop : ∀ d i, i + d = s.length → (∀ j, j < i → s.getD j 0 = t.getD j 0) → ∃ K, ∀ k, K ≤ k → PCodeSafe.spindleref16_Same.l0 k s t (i : Int) = some (decide (s = t)) := by
      intro d
      induction d with
      | zero =>
        intro i hi hj
        have he : s = t := by
          apply List.ext_getElem hl
          intro j h1 h2
          have := hj j (by omega)
          simpa [List.getD, List.getElem?_eq_getElem h1, List.getElem?_eq_getElem h2] using this
        refine ⟨1, fun k hk => ?_⟩
        obtain ⟨k, rfl⟩ : ∃ q, k = q + 1 := ⟨k - 1, by omega⟩
        rw [PCodeSafe.spindleref16_Same.l0, if_neg (by omega), decide_eq_true he]
      | succ d ihd =>
        intro i hi hj
        by_cases he : s.getD i 0 = t.getD i 0
        · obtain ⟨K, h⟩ := ihd (i + 1) (by omega) (fun j hj2 => by
            by_cases e : j = i
            · rw [e]; exact he
            · exact hj j (by omega))
          refine ⟨K + 1, fun k hk => ?_⟩
          obtain ⟨k, rfl⟩ : ∃ q, k = q + 1 := ⟨k - 1, by omega⟩
          rw [PCodeSafe.spindleref16_Same.l0, if_pos (by omega), if_pos (by omega), if_pos (by omega), rd_at', rd_at', if_pos he, wrap_nat i (by omega)]
          exact h k (by omega)
        · refine ⟨1, fun k hk => ?_⟩
          obtain ⟨k, rfl⟩ : ∃ q, k = q + 1 := ⟨k - 1, by omega⟩
          rw [PCodeSafe.spindleref16_Same.l0, if_pos (by omega), if_pos (by omega), if_pos (by omega), rd_at', rd_at', if_neg he, decide_eq_false (fun e => he (by rw [e]))]
    obtain ⟨K, h⟩ := loop s.length 0 (by omega) (fun j hj => absurd hj (Nat.not_lt_zero _))
    refine ⟨K, ?_⟩
    unfold PCodeSafe.spindleref16_Same.f
    rw [if_pos (by omega)]
    exact h K (Nat.le_refl _)
  · refine ⟨0, ?_⟩
    unfold PCodeSafe.spindleref16_Same.f
    rw [if_neg (by omega), decide_eq_false (fun e => hl (by rw [e]))]

/-- Two stacks, in memory. -/
theorem same_is {w : World} (s t : List Int) {b1 o1 c1 b2 o2 c2 : Nat} (hs : s.length ≤ 100000) (ht : t.length ≤ 100000) (h1 : ∀ j, j < s.length → w.cell? ⟨b1, o1 + j, none⟩ = some (.int .i64 (s.getD j 0))) (h2 : ∀ j, j < t.length → w.cell? ⟨b2, o2 + j, none⟩ = some (.int .i64 (t.getD j 0))) (hc1 : s.length ≤ c1) (hc2 : t.length ≤ c2) :
    Calls Tryz.prog 20 #[.slice (some ⟨b1, o1, none⟩) s.length c1, .slice (some ⟨b2, o2, none⟩) t.length c2] w fun e w' => e = .returned (.bool (decide (s = t))) ∧ Below w.heap.size w w' := by
  obtain ⟨k, hk⟩ := same16 s t hs
  refine (PCodeSafe.spindleref16_Same.calls k (some ⟨b1, o1, none⟩) c1 s (some ⟨b2, o2, none⟩) c2 t _ w (intC_of s (by omega) h1) hc1 (intC_of t (by omega) h2) hc2 hk).mono ?_
  rintro e w' ⟨rfl, h⟩
  exact ⟨rfl, h.below⟩
theorem own_cap {w : World} {B g cap : Nat} {s : List Int} (h : ownI w B g cap s) : s.length ≤ cap := by
  rcases h.2 with ⟨h1, _⟩ | ⟨g', cap', cur, hv, _, _, h2, _⟩
  · cases h1
  · injection hv with h1 h2' h3
    rw [h3]; exact h2
/-- What is copied reads as it did. -/
theorem own_is {w : World} (l : List Ins) {A : Option Addr} {c : Nat} (hC : Kd.C insK w A l.length l) (hc : l.length ≤ c) (hl : l.length ≤ 100000) (hs : ∀ j, j < l.length → dsz (l.getD j insZ).f4 ≤ 5000) :
    Calls Tryz.prog 14 #[.slice A l.length c] w fun e w' => ∃ A' c', e = .returned (.slice A' l.length c') ∧ Kd.C insK w' A' l.length l ∧ l.length ≤ c' ∧ Below w.heap.size w w' := by
  obtain ⟨k, hk⟩ := own16 l hl hs
  refine (PCodeSafe.spindleref16_Own.calls k A c l l w hC hc hk).mono ?_
  rintro e w' ⟨v, rfl, hR, k'⟩
  obtain ⟨A', c', rfl, h1, h2⟩ := Kd.R_reads hR
  exact ⟨A', c', rfl, h2, h1, k'⟩
/-- Is it small? -/
theorem small_is {w : World} (l : List Ins) {A : Option Addr} {c : Nat} (hC : Kd.C insK w A l.length l) (hc : l.length ≤ c) :
    ∃ b, (b = true → l.length ≤ 400 ∧ ∀ j, j < l.length → dsz (l.getD j insZ).f4 ≤ 300 ∧ (l.getD j insZ).f3.size ≤ 200) ∧ Calls Tryz.prog 12 #[.slice A l.length c] w fun e w' => e = .returned (.bool b) ∧ Below w.heap.size w w' := by
  obtain ⟨k, b, h1, h2⟩ := small16 l
  exact ⟨b, h2, PCodeSafe.spindlelaw16_small.calls k A c l b w hC hc h1⟩

end Go.Proofs.YtiimojpaeccajaaGreatDoor
