/- What the document's own functions come to on data: counts, depths, copies. Plain. -/
import Derived.Test.YtiimojpaeccajaaGreatDoorChk
import Derived.Test.YtiimojpaeccajaaGreatDoorR2
import Derived.Test.YtiimojpaeccajaaGreatDoorPCodeSafex1
namespace Go.Proofs.YtiimojpaeccajaaGreatDoor
set_option linter.unusedVariables false
set_option linter.unusedSimpArgs false
open Go.RowKit Go.Proofs.YtiimojpaeccajaaGreatDoorW.PrintWords Go.Proofs.YtiimojpaeccajaaGreatDoorW.PrintLast Go.Proofs.YtiimojpaeccajaaGreatDoorW.PrintMore
open Go.Proofs.YtiimojpaeccajaaGreatDoor.PCodeSafe

theorem wrap_nat (n : Nat) (h : n ≤ 1000000000) : wrap64 (((n : Nat) : Int) + 1) = ((n + 1 : Nat) : Int) := by unfold wrap64; omega
theorem rdT_at (xs : List Dat) (i : Nat) : PCodeSafe.rd_T45 xs (i : Int) = xs.getD i datZ := by
  show xs.getD ((i : Int)).toNat _ = _
  rw [Int.toNat_natCast]
theorem rdI_at (xs : List Ins) (i : Nat) : PCodeSafe.rd_T54 xs (i : Int) = xs.getD i insZ := by
  show xs.getD ((i : Int)).toNat _ = _
  rw [Int.toNat_natCast]
theorem mn_le {a b : Int} (h : a ≤ b) : mn a b = a := by unfold mn; split <;> omega
theorem mn_ge {a b : Int} (h : b ≤ a) : mn a b = b := by unfold mn; split <;> omega
theorem cl_end (k : Nat) (x1 far i a b : Int) (c : ByteArray) (l : List Dat) (h : ¬ i < (l.length : Int)) : PCodeSafe.spindleref08_count.l0 (k + 1) x1 far i a b c l = some (mn x1 5000) := by
  rw [PCodeSafe.spindleref08_count.l0, if_neg h]
theorem cl_full (k : Nat) (x1 far i a b : Int) (c : ByteArray) (l : List Dat) (h : ¬ x1 < 5000) : PCodeSafe.spindleref08_count.l0 (k + 1) x1 far i a b c l = some (mn x1 5000) := by
  rw [PCodeSafe.spindleref08_count.l0, if_neg h]
  split <;> rfl
theorem cl_step (k : Nat) (x1 far a b : Int) (i : Nat) (c : ByteArray) (l : List Dat) (h : i < l.length) (h2 : x1 < 5000) (h3 : far > 0) :
    PCodeSafe.spindleref08_count.l0 (k + 1) x1 far (i : Int) a b c l = (PCodeSafe.spindleref08_count.f k (l.getD i datZ).f0 (l.getD i datZ).f1 (l.getD i datZ).f2 (l.getD i datZ).f3 x1 (wrap64 (far - 1))).bind fun t => PCodeSafe.spindleref08_count.l0 k t far (wrap64 ((i : Int) + 1)) a b c l := by
  rw [PCodeSafe.spindleref08_count.l0, if_pos (by omega), if_pos h2, if_pos h3, if_pos (by omega), rdT_at]
theorem cf_step (k : Nat) (a b : Int) (c : ByteArray) (l : List Dat) (n far : Int) : PCodeSafe.spindleref08_count.f (k + 1) a b c l n far = PCodeSafe.spindleref08_count.l0 k (wrap64 (n + 1)) far 0 a b c l := by
  rw [PCodeSafe.spindleref08_count.f]
/-- What a count up to M comes to. -/
def capM (a : Nat) : Int := if a ≤ 5000 then (a : Int) else 5000
theorem cap_lt {a : Nat} (h : a ≤ 5000) : capM a = (a : Int) := if_pos h
theorem cap_ge {a : Nat} (h : 5000 ≤ a) : capM a = 5000 := by unfold capM; split <;> omega
/-- The loop's claim, from i on. -/
def CLoop (x : Dat) (n far i : Nat) : Prop := ∃ K, ∀ k, K ≤ k → PCodeSafe.spindleref08_count.l0 k ((n + 1 + dszL (x.f3.take i) : Nat) : Int) (far : Int) (i : Int) x.f0 x.f1 x.f2 x.f3 = some (capM (n + dsz x))
def CFun (x : Dat) (n far : Nat) : Prop := ∃ K, ∀ k, K ≤ k → PCodeSafe.spindleref08_count.f k x.f0 x.f1 x.f2 x.f3 (n : Int) (far : Int) = some (capM (n + dsz x))
theorem cloop_end {x : Dat} {n far i : Nat} (hi : i = x.f3.length) (hle : n + 1 + dszL (x.f3.take i) ≤ 5000) : CLoop x n far i := by
  refine ⟨1, fun k hk => ?_⟩
  obtain ⟨k, rfl⟩ : ∃ q, k = q + 1 := ⟨k - 1, by omega⟩
  rw [cl_end _ _ _ _ _ _ _ _ (by omega)]
  have hti : x.f3.take i = x.f3 := List.take_of_length_le (by omega)
  rw [hti] at hle ⊢
  have hsz := dsz_eq x
  rw [mn_le (by omega), cap_lt (by omega)]
  congr 1
  omega
theorem cloop_full {x : Dat} {n far i : Nat} (he : n + 1 + dszL (x.f3.take i) = 5000) : CLoop x n far i := by
  refine ⟨1, fun k hk => ?_⟩
  obtain ⟨k, rfl⟩ : ∃ q, k = q + 1 := ⟨k - 1, by omega⟩
  rw [cl_full _ _ _ _ _ _ _ _ (by omega)]
  have htl := dszL_take_le x.f3 i
  have hsz := dsz_eq x
  rw [mn_ge (by omega), cap_ge (by omega)]
theorem cloop_step {x : Dat} {n far i : Nat} (hlt : i < x.f3.length) (hfar : 1 ≤ far) (hfar2 : far ≤ 1000000) (hn : n ≤ 4999) (h5 : n + 1 + dszL (x.f3.take i) < 5000) (hc : CFun (x.f3.getD i datZ) (n + 1 + dszL (x.f3.take i)) (far - 1))
    (hnext : n + 1 + dszL (x.f3.take (i + 1)) ≤ 5000 → CLoop x n far (i + 1)) : CLoop x n far i := by
  have hts := dszL_take_succ x.f3 i hlt
  have htl := dszL_take_le x.f3 (i + 1)
  have hsz := dsz_eq x
  have hil : i ≤ dszL (x.f3.take i) := by
    have := length_le_dszL (x.f3.take i)
    rw [List.length_take] at this
    omega
  obtain ⟨K1, h1⟩ := hc
  by_cases h6 : n + 1 + dszL (x.f3.take (i + 1)) ≤ 5000
  · obtain ⟨K2, h2⟩ := hnext h6
    refine ⟨K1 + K2 + 1, fun k hk => ?_⟩
    obtain ⟨k, rfl⟩ : ∃ q, k = q + 1 := ⟨k - 1, by omega⟩
    rw [cl_step _ _ _ _ _ _ _ _ hlt (by omega) (by omega), show wrap64 ((far : Int) - 1) = ((far - 1 : Nat) : Int) from by unfold wrap64; omega, h1 k (by omega), Option.bind_some, wrap_nat i (by omega), cap_lt (by omega)]
    have := h2 k (by omega)
    rw [show n + 1 + dszL (x.f3.take (i + 1)) = n + 1 + dszL (x.f3.take i) + dsz (x.f3.getD i datZ) from by omega] at this
    exact this
  · refine ⟨K1 + 2, fun k hk => ?_⟩
    obtain ⟨k, rfl⟩ : ∃ q, k = q + 2 := ⟨k - 2, by omega⟩
    rw [cl_step _ _ _ _ _ _ _ _ hlt (by omega) (by omega), show wrap64 ((far : Int) - 1) = ((far - 1 : Nat) : Int) from by unfold wrap64; omega, h1 (k + 1) (by omega), Option.bind_some, cap_ge (by omega), cl_full _ _ _ _ _ _ _ _ (by omega), mn_ge (by omega), cap_ge (by omega)]
/-- The parts of a datum, counted up to 5000. -/
theorem count_is (N : Nat) : ∀ (x : Dat) (n far : Nat), dsz x ≤ N → n ≤ 4999 → 5000 ≤ far + n → far ≤ 1000000 → CFun x n far := by
  induction N with
  | zero => intro x n far h; have := dsz_pos x; omega
  | succ N ih =>
    intro x n far hN hn hfar hfar2
    obtain ⟨m, hm⟩ : ∃ m, x.f3.length = m := ⟨_, rfl⟩
    have hsz := dsz_eq x
    have loop : ∀ d i, i + d = m → n + 1 + dszL (x.f3.take i) ≤ 5000 → CLoop x n far i := by
      intro d
      induction d with
      | zero => intro i hi hle; exact cloop_end (by omega) hle
      | succ d ihd =>
        intro i hi hle
        have hlt : i < x.f3.length := by omega
        by_cases h5 : n + 1 + dszL (x.f3.take i) < 5000
        · exact cloop_step hlt (by omega) hfar2 hn h5 (ih (x.f3.getD i datZ) _ _ (by have := dsz_getD_lt x.f3 i hlt; omega) (by omega) (by omega) (by omega)) (fun h => ihd (i + 1) (by omega) h)
        · exact cloop_full (by omega)
    obtain ⟨K, hK⟩ := loop m 0 (by omega) (by rw [List.take_zero, dszL_nil]; omega)
    refine ⟨K + 1, fun k hk => ?_⟩
    obtain ⟨k, rfl⟩ : ∃ q, k = q + 1 := ⟨k - 1, by omega⟩
    rw [cf_step, wrap_nat n (by omega)]
    have := hK k (by omega)
    rw [List.take_zero, dszL_nil] at this
    exact this
theorem parts08 (x : Dat) : ∃ K, ∀ k, K ≤ k → PCodeSafe.spindleref08_Parts.f k x.f0 x.f1 x.f2 x.f3 = some (capM (dsz x)) := by
  obtain ⟨K, hK⟩ := count_is (dsz x) x 0 100000 (Nat.le_refl _) (by decide) (by decide) (by decide)
  refine ⟨K, fun k hk => ?_⟩
  unfold PCodeSafe.spindleref08_Parts.f
  have := hK k hk
  rw [show ((0 : Nat) : Int) = 0 from rfl, show ((100000 : Nat) : Int) = 100000 from rfl, Nat.zero_add] at this
  rw [this, Option.bind_some]

/-- How many stand within one another, counted up to f. -/
def depF : Nat → Dat → Nat
  | 0, _ => 1
  | f + 1, x => (x.f3.foldl (fun a d => max a (depF f d)) 0) + 1
theorem depF_le (f : Nat) : ∀ x, depF f x ≤ f + 1 := by
  induction f with
  | zero => intro x; exact Nat.le_refl _
  | succ f ih =>
    intro x
    rw [depF]
    have : ∀ (l : List Dat) (a : Nat), a ≤ f + 1 → l.foldl (fun a d => max a (depF f d)) a ≤ f + 1 := by
      intro l
      induction l with
      | nil => intro a h; exact h
      | cons d l ihl => intro a h; exact ihl _ (Nat.max_le.2 ⟨h, ih d⟩)
    have := this x.f3 0 (by omega)
    omega
theorem depth08 (N : Nat) : ∀ (x : Dat) (far : Nat), dsz x ≤ N → N ≤ 100000 → far ≤ 100000 → ∃ K, ∀ k, K ≤ k → PCodeSafe.spindleref08_Depth.f k x.f0 x.f1 x.f2 x.f3 (far : Int) = some ((depF far x : Nat) : Int) := by
  induction N with
  | zero => intro x far h; have := dsz_pos x; omega
  | succ N ih =>
    intro x far hN hN2 hf
    cases far with
    | zero =>
      refine ⟨1, fun k hk => ?_⟩
      obtain ⟨k, rfl⟩ : ∃ q, k = q + 1 := ⟨k - 1, by omega⟩
      simp only [PCodeSafe.spindleref08_Depth.f]
      rw [if_neg (by decide)]
      rfl
    | succ f =>
      have hsz := dsz_eq x
      have hml := length_le_dszL x.f3
      obtain ⟨m, hm⟩ : ∃ m, x.f3.length = m := ⟨_, rfl⟩
      have loop : ∀ d i, i + d = m → ∃ K, ∀ k, K ≤ k → PCodeSafe.spindleref08_Depth.l0 k ((f + 1 : Nat) : Int) (((x.f3.take i).foldl (fun a d => max a (depF f d)) 0 : Nat) : Int) (i : Int) x.f0 x.f1 x.f2 x.f3 = some ((depF (f + 1) x : Nat) : Int) := by
        intro d
        induction d with
        | zero =>
          intro i hi
          refine ⟨1, fun k hk => ?_⟩
          obtain ⟨k, rfl⟩ : ∃ q, k = q + 1 := ⟨k - 1, by omega⟩
          simp only [PCodeSafe.spindleref08_Depth.l0]
          rw [if_neg (by omega), List.take_of_length_le (by omega)]
          have h1 := depF_le (f + 1) x
          rw [depF] at h1 ⊢
          rw [wrap_nat _ (by omega)]
        | succ d ihd =>
          intro i hi
          have hlt : i < x.f3.length := by omega
          obtain ⟨K1, h1⟩ := ih (x.f3.getD i datZ) f (by have := dsz_getD_lt x.f3 i hlt; omega) (by omega) (by omega)
          obtain ⟨K2, h2⟩ := ihd (i + 1) (by omega)
          refine ⟨K1 + K2 + 1, fun k hk => ?_⟩
          obtain ⟨k, rfl⟩ : ∃ q, k = q + 1 := ⟨k - 1, by omega⟩
          simp only [PCodeSafe.spindleref08_Depth.l0]
          rw [if_pos (by omega), if_pos (by omega), rdT_at, show wrap64 (((f + 1 : Nat) : Int) - 1) = (f : Int) from by unfold wrap64; omega, h1 k (by omega)]
          simp only [Option.bind_some]
          rw [wrap_nat i (by omega)]
          have := h2 k (by omega)
          have ht : x.f3.take (i + 1) = x.f3.take i ++ [x.f3.getD i datZ] := by
            rw [List.take_add_one, List.getElem?_eq_getElem hlt]
            simp [List.getD, List.getElem?_eq_getElem hlt]
          rw [ht, List.foldl_append] at this
          simp only [List.foldl_cons, List.foldl_nil] at this
          rw [← this]
          congr 1
          unfold mx
          split <;> omega
      obtain ⟨K, hK⟩ := loop m 0 (by omega)
      refine ⟨K + 1, fun k hk => ?_⟩
      obtain ⟨k, rfl⟩ : ∃ q, k = q + 1 := ⟨k - 1, by omega⟩
      simp only [PCodeSafe.spindleref08_Depth.f]
      rw [if_pos (by omega)]
      have := hK k (by omega)
      rw [List.take_zero] at this
      exact this
theorem small08 (x : Dat) : ∃ K b, (∀ k, K ≤ k → PCodeSafe.spindleref08_Small.f k x.f0 x.f1 x.f2 x.f3 = some b) ∧ (b = true → dsz x < 5000) := by
  obtain ⟨K1, h1⟩ := parts08 x
  by_cases h5 : dsz x < 5000
  · obtain ⟨K2, r, h2⟩ : ∃ K2, ∃ r : Int, ∀ k, K2 ≤ k → PCodeSafe.spindleref08_Depth.f k x.f0 x.f1 x.f2 x.f3 100 = some r := by
      obtain ⟨K2, h2⟩ := depth08 (dsz x) x 100 (Nat.le_refl _) (by omega) (by omega)
      exact ⟨K2, _, h2⟩
    refine ⟨K1 + K2, decide (r ≤ 90), fun k hk => ?_, fun _ => h5⟩
    unfold PCodeSafe.spindleref08_Small.f
    rw [h1 k (by omega), Option.bind_some, cap_lt (by omega), if_pos (by omega), h2 k (by omega), Option.bind_some]
  · refine ⟨K1, false, fun k hk => ?_, fun h => by cases h⟩
    unfold PCodeSafe.spindleref08_Small.f
    rw [h1 k hk, Option.bind_some, cap_ge (by omega), if_neg (by omega)]
/-- Law 16's small. -/
theorem small16 (l : List Ins) : ∃ k b, PCodeSafe.spindlelaw16_small.f k l = some b ∧ (b = true → l.length ≤ 400 ∧ ∀ j, j < l.length → dsz (l.getD j insZ).f4 ≤ 300 ∧ (l.getD j insZ).f3.size ≤ 200) := by
  by_cases h4 : (l.length : Int) > 400
  · refine ⟨0, false, ?_, fun h => by cases h⟩
    unfold PCodeSafe.spindlelaw16_small.f
    rw [if_pos h4]
  · have loop : ∀ d i, i + d = l.length → (∀ j, j < i → dsz (l.getD j insZ).f4 ≤ 300 ∧ (l.getD j insZ).f3.size ≤ 200) → ∃ K b, (∀ k, K ≤ k → PCodeSafe.spindlelaw16_small.l0 k l (l.length : Int) (i : Int) = some b) ∧ (b = true → ∀ j, j < l.length → dsz (l.getD j insZ).f4 ≤ 300 ∧ (l.getD j insZ).f3.size ≤ 200) := by
      intro d
      induction d with
      | zero =>
        intro i hi hj
        refine ⟨1, true, fun k hk => ?_, fun _ j h => hj j (by omega)⟩
        obtain ⟨k, rfl⟩ : ∃ q, k = q + 1 := ⟨k - 1, by omega⟩
        simp only [PCodeSafe.spindlelaw16_small.l0]
        rw [if_neg (by omega)]
      | succ d ihd =>
        intro i hi hj
        by_cases h2 : (((l.getD i insZ).f3.size : Nat) : Int) > 200
        · refine ⟨1, false, fun k hk => ?_, fun h => by cases h⟩
          obtain ⟨k, rfl⟩ : ∃ q, k = q + 1 := ⟨k - 1, by omega⟩
          simp only [PCodeSafe.spindlelaw16_small.l0]
          rw [if_pos (by omega), if_pos (by omega), if_pos (by omega), rdI_at, if_pos h2]
        · obtain ⟨K1, b1, s1, s2⟩ := small08 (l.getD i insZ).f4
          obtain ⟨K2, p1⟩ := parts08 (l.getD i insZ).f4
          cases b1 with
          | false =>
            refine ⟨K1 + 1, false, fun k hk => ?_, fun h => by cases h⟩
            obtain ⟨k, rfl⟩ : ∃ q, k = q + 1 := ⟨k - 1, by omega⟩
            simp only [PCodeSafe.spindlelaw16_small.l0]
            rw [if_pos (by omega), if_pos (by omega), if_pos (by omega), rdI_at, if_neg h2, s1 k (by omega)]
            rfl
          | true =>
            have s3 := s2 rfl
            by_cases h3 : dsz (l.getD i insZ).f4 > 300
            · refine ⟨K1 + K2 + 1, false, fun k hk => ?_, fun h => by cases h⟩
              obtain ⟨k, rfl⟩ : ∃ q, k = q + 1 := ⟨k - 1, by omega⟩
              simp only [PCodeSafe.spindlelaw16_small.l0]
              rw [if_pos (by omega), if_pos (by omega), if_pos (by omega), rdI_at, if_neg h2, s1 k (by omega)]
              simp only [Option.bind_some, if_true]
              rw [p1 k (by omega), Option.bind_some, cap_lt (by omega), if_pos (by omega)]
            · obtain ⟨K3, b3, r1, r2⟩ := ihd (i + 1) (by omega) (fun j hj2 => by
                by_cases e : j = i
                · rw [e]; exact ⟨by omega, by omega⟩
                · exact hj j (by omega))
              refine ⟨K1 + K2 + K3 + 1, b3, fun k hk => ?_, r2⟩
              obtain ⟨k, rfl⟩ : ∃ q, k = q + 1 := ⟨k - 1, by omega⟩
              simp only [PCodeSafe.spindlelaw16_small.l0]
              rw [if_pos (by omega), if_pos (by omega), if_pos (by omega), rdI_at, if_neg h2, s1 k (by omega)]
              simp only [Option.bind_some, if_true]
              rw [p1 k (by omega), Option.bind_some, cap_lt (by omega), if_neg (by omega), wrap_nat i (by omega)]
              exact r1 k (by omega)
    obtain ⟨K, b, h1, h2⟩ := loop l.length 0 (by omega) (fun j hj => absurd hj (Nat.not_lt_zero _))
    refine ⟨K, b, ?_, fun h => ⟨by omega, h2 h⟩⟩
    unfold PCodeSafe.spindlelaw16_small.f
    rw [if_neg h4]
    exact h1 K (Nat.le_refl _)

end Go.Proofs.YtiimojpaeccajaaGreatDoor
