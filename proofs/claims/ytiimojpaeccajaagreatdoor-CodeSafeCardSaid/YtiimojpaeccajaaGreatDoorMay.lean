/- read.Parts, read.Check, code.constant, code.empty, code.may by their contracts. -/
import Derived.Test.YtiimojpaeccajaaGreatDoorFits
import Derived.Test.YtiimojpaeccajaaGreatDoorCd
namespace Go.Proofs.YtiimojpaeccajaaGreatDoor
set_option linter.unusedVariables false
set_option linter.unusedSimpArgs false
open Go.RowKit Go.Proofs.YtiimojpaeccajaaGreatDoorW.PrintWords Go.Proofs.YtiimojpaeccajaaGreatDoorW.PrintLast Go.Proofs.YtiimojpaeccajaaGreatDoorW.PrintMore

theorem natbeq (n : Nat) : ((n : Int) == 0) = (n == 0) := Bool.eq_iff_iff.2 (by simp)
/-- A datum, as a value. -/
structure VD (w : World) (v : Value) (x : Dat) : Prop where
  ex : ∃ A c, v = .agg #[.int .i64 x.f0, .int .i64 x.f1, .string x.f2, .slice A x.f3.length c] ∧ x.f3.length ≤ c ∧ Kd.C datK w A x.f3.length x.f3
theorem IsD.made {w : World} {v : Value} {x : Dat} {A : Option Addr} {c : Nat} (hc : x.f3.length ≤ c) (h : Kd.C datK w A x.f3.length x.f3) :
    IsD (w.alloc (.cells #[.int .i64 x.f0, .int .i64 x.f1, .string x.f2, .slice A x.f3.length c] 45)) w.heap.size 0 x := by
  have hk : Below w.heap.size w (w.alloc (.cells #[.int .i64 x.f0, .int .i64 x.f1, .string x.f2, .slice A x.f3.length c] 45)) := (Below.refl _ w).alloc (Nat.le_refl _) _
  have hb := heap_alloc_new w (.cells #[.int .i64 x.f0, .int .i64 x.f1, .string x.f2, .slice A x.f3.length c] 45)
  refine ⟨A, c, ?_, ?_, ?_, ?_, hc, Kd.C_below h hk⟩
  · rw [cell_of_heap hb]; rfl
  · rw [cell_of_heap hb]; rfl
  · rw [cell_of_heap hb]; rfl
  · rw [cell_of_heap hb]; rfl
theorem VD.below {w w' : World} {v : Value} {x : Dat} (h : VD w v x) (k : Below w.heap.size w w') : VD w' v x := by
  obtain ⟨A, c, h1, h2, h3⟩ := h.ex
  exact ⟨A, c, h1, h2, Kd.C_below h3 k⟩

set_option maxRecDepth 100000 in
theorem parts_is {w : World} {v : Value} {x : Dat} (hv : VD w v x) (hs : dsz x ≤ 5000) :
    Calls Tryz.prog 132 #[v] w fun e w' => e = .returned (.int .i64 (dsz x : Nat)) ∧ Below w.heap.size w w' := by
  obtain ⟨A, c, rfl, hc, hC⟩ := hv.ex
  have HD := Box.mk (IsD.made (v := .tuple #[]) hc hC)
  have HK := Box.mk ((Below.refl _ w).alloc (Nat.le_refl _) (.cells #[.int .i64 x.f0, .int .i64 x.f1, .string x.f2, .slice A x.f3.length c] 45))
  clear hC hc hv
  have HC := Box.mk (counted_is (dsz x) x 0 _ _ _ HD.out (Nat.le_refl _) (by omega))
  rw [Nat.zero_add] at HC
  go_enter Tryz.func132, Tryz.ntmps132
  go_wp2_with fail
  refine HC.out.mono ?_
  rintro e w1 ⟨rfl, k1⟩
  have K1 := Box.mk (HK.out.trans (k1.mono HK.out.size))
  clear k1
  go_wp2_with fail
  go_ret
  exact ⟨rfl, K1.out⟩

set_option maxRecDepth 100000 in
theorem rcheck_is {w : World} {v : Value} {x : Dat} (hv : VD w v x) (hs : dsz x ≤ 4000) :
    Calls Tryz.prog 95 #[v] w fun e w' => e = .returned (errV (if fitB 64 x = true then 0 else 7)) ∧ Below w.heap.size w w' := by
  obtain ⟨A, c, rfl, hc, hC⟩ := hv.ex
  have HD := Box.mk (IsD.made (v := .tuple #[]) hc hC)
  have HK := Box.mk ((Below.refl _ w).alloc (Nat.le_refl _) (.cells #[.int .i64 x.f0, .int .i64 x.f1, .string x.f2, .slice A x.f3.length c] 45))
  have HV : Box (VD (w.alloc (.cells #[.int .i64 x.f0, .int .i64 x.f1, .string x.f2, .slice A x.f3.length c] 45)) (.agg #[.int .i64 x.f0, .int .i64 x.f1, .string x.f2, .slice A x.f3.length c]) x) := ⟨⟨A, c, rfl, hc, Kd.C_below hC HK.out⟩⟩
  clear hC hc hv
  obtain ⟨v, hv⟩ : ∃ v, fitB 64 x = v := ⟨_, rfl⟩
  have Hs := Box.mk hs
  obtain ⟨z, hz⟩ : ∃ z, dsz x = z := ⟨_, rfl⟩
  have HP := Box.mk (parts_is HV.out (by omega))
  rw [hz] at HP hs
  have HF := fun w1 k => fits_is 64 x 0 w1 w.heap.size 0 (HD.out.below k) (by omega) (by have := Hs.out; omega)
  rw [hv] at HF
  have HF := Box.mk HF
  rw [hv]
  clear hz hv
  go_enter Tryz.func95, Tryz.ntmps95
  go_wp2_with fail
  refine HP.out.mono ?_
  rintro e w1 ⟨rfl, k1⟩
  have HF1 := Box.mk (HF.out w1 k1)
  have K1 := Box.mk (HK.out.trans (k1.mono HK.out.size))
  clear k1
  go_wp2_with fail
  refine HF1.out.mono ?_
  rintro e w2 ⟨rfl, k2⟩
  have K2 := Box.mk (K1.out.trans (k2.mono K1.out.size))
  clear k2
  cases v
  all_goals
    go_wp2_with fail
    go_ret
    exact ⟨rfl, K2.out⟩

/-- A datum that says nothing. -/
def dEmp (x : Dat) : Bool := (x.f0 == 0) && (x.f1 == 0) && x.f2.toList.isEmpty && (x.f3.length == 0)
/-- A datum that may be a constant. -/
def constB (x : Dat) : Bool := if x.f0 = 0 then (x.f1 / 2 == 0) && x.f2.toList.isEmpty && (x.f3.length == 0) else fitB 64 x

set_option maxRecDepth 100000 in
theorem empty_is (x : Dat) (w : World) (b o : Nat) (hD : IsD w b o x) :
    Calls Tryz.prog 72 #[.pointer (some ⟨b, o, none⟩)] w fun e w' => e = .returned (.bool (dEmp x)) ∧ w' = w := by
  obtain ⟨A, c, h0, h1, h2, h3, h4, h6⟩ := hD.ex
  unfold dEmp
  obtain ⟨k, N, T, xs⟩ := x
  dsimp only at h0 h1 h2 h3 h4 h6 ⊢
  generalize xs.length = n at *
  clear hD h6 h4
  go_enter Tryz.func72, Tryz.ntmps72
  go_wp2_with fail
  all_goals
    go_ret
    refine ⟨?_, rfl⟩
    go_light
    simp_all
    try exact natbeq _

set_option maxRecDepth 100000 in
theorem const_is (x : Dat) (w : World) (b o : Nat) (hD : IsD w b o x) (hs : dsz x ≤ 4000) :
    Calls Tryz.prog 70 #[.pointer (some ⟨b, o, none⟩)] w fun e w' => e = .returned (.bool (constB x)) ∧ Below w.heap.size w w' := by
  obtain ⟨A, c, h0, h1, h2, h3, h4, h6⟩ := hD.ex
  unfold constB
  by_cases hk : x.f0 = 0
  · rw [if_pos hk]
    rw [hk] at h0
    obtain ⟨k, N, T, xs⟩ := x
    dsimp only at h0 h1 h2 h3 h4 h6 ⊢
    generalize xs.length = n at *
    clear hD h6 h4
    go_enter Tryz.func70, Tryz.ntmps70
    go_wp2_with fail
    all_goals
      go_ret
      refine ⟨?_, Below.refl _ _⟩
      go_light
      simp_all
      try exact natbeq _
  · rw [if_neg hk]
    have hk2 : (x.f0 == 0) = false := by simpa using hk
    have HC := rcheck_is (w := w) (v := .agg #[.int .i64 x.f0, .int .i64 x.f1, .string x.f2, .slice A x.f3.length c]) (x := x) ⟨A, c, rfl, h4, h6⟩ hs
    obtain ⟨v, hv⟩ : ∃ v, fitB 64 x = v := ⟨_, rfl⟩
    rw [hv] at HC ⊢
    have HC := Box.mk HC
    obtain ⟨k, N, T, xs⟩ := x
    dsimp only at h0 h1 h2 h3 h4 h6 hk2 HC ⊢
    generalize xs.length = n at *
    clear hD h6 h4 hs hk hv
    go_enter Tryz.func70, Tryz.ntmps70
    go_wp2_with fail
    refine HC.out.mono ?_
    rintro e w1 ⟨rfl, k1⟩
    have hn := run_eql_iface_nil_left (P := Tryz.prog) w1 34 (.int .i64 7) Tryz.underlying26
    have K1 := Box.mk k1
    clear k1
    unfold errV
    cases v
    · simp only [Bool.false_eq_true, if_false, show ((7 : Int) = 0) = False from by decide]
      go_wp2_with fail
      go_ret
      exact ⟨rfl, K1.out⟩
    · simp only [if_true]
      go_wp2_with fail
      go_ret
      exact ⟨rfl, K1.out⟩

theorem below_drewN (w : World) (n : Nat) : Below w.heap.size w (w.drewN n) := (Keeps.refl (fun _ => False) w).drewN n |>.below (Nat.le_refl _) (fun _ h => h.elim)
/-- May it be an instruction, among n? -/
def insB (n : Nat) (x : Ins) : Bool :=
  if x.f0 = 1 then (x.f1 == 0) && (x.f2 == 0) && x.f3.toList.isEmpty && constB x.f4
  else if x.f0 = 2 ∨ x.f0 = 4 then decide (0 ≤ x.f1) && decide (x.f1 ≤ 200) && decide (0 ≤ x.f2) && decide (x.f2 ≤ 23) && x.f3.toList.isEmpty && dEmp x.f4
  else if x.f0 = 3 ∨ x.f0 = 5 ∨ x.f0 = 6 then (x.f1 == 0) && (x.f2 == 0) && symS x.f3.toList && dEmp x.f4
  else if x.f0 = 9 then decide (0 ≤ x.f1) && decide (x.f1 < n) && decide (0 ≤ x.f2) && decide (x.f2 ≤ 49) && (x.f2 != 1) && x.f3.toList.isEmpty && dEmp x.f4
  else if x.f0 = 7 ∨ x.f0 = 8 ∨ x.f0 = 10 then decide (0 ≤ x.f1) && decide (x.f1 < n) && (x.f2 == 0) && x.f3.toList.isEmpty && dEmp x.f4
  else if x.f0 = 12 ∨ x.f0 = 13 then decide (0 ≤ x.f1) && decide (x.f1 ≤ 28) && (x.f2 == 0) && x.f3.toList.isEmpty && dEmp x.f4
  else if x.f0 = 11 ∨ x.f0 = 14 then (x.f1 == 0) && (x.f2 == 0) && x.f3.toList.isEmpty && dEmp x.f4
  else false

set_option maxHeartbeats 2000000 in
set_option maxRecDepth 100000 in
theorem may_1 (x : Ins) (n : Nat) (w : World) (b o : Nat) (hI : IsI w b o x) (hs : dsz x.f4 ≤ 4000) (hn : n ≤ 8000) (hk : x.f0 = 1) :
    Calls Tryz.prog 40 #[.pointer (some ⟨b, o, none⟩), .int .i64 n] w fun e w' => e = .returned (.bool (insB n x)) ∧ Below w.heap.size w w' := by
  obtain ⟨h0, h1, h2, h3⟩ := hI.ex
  have HD := Box.mk hI.dat
  have Hs := Box.mk hs
  unfold insB
  rw [hk] at h0 ⊢
  rw [if_pos (show (1 : Int) = 1 by decide)]
  have HE := Box.mk (fun (W : World) (k : Below w.heap.size w W) => empty_is x.f4 W b (o + 4) (HD.out.below k))
  have HC := Box.mk (fun (W : World) (k : Below w.heap.size w W) => const_is x.f4 W b (o + 4) (HD.out.below k) Hs.out)
  clear hk hI hs
  obtain ⟨op, A, B, T, d⟩ := x
  dsimp only at h0 h1 h2 h3 HD Hs HE HC ⊢
  obtain ⟨de, hde⟩ : ∃ de, constB d = de := ⟨_, rfl⟩
  rw [hde] at HC ⊢
  clear hde
  go_enter Tryz.func40, Tryz.ntmps40
  go_wp2_with fail
  go_quiet (fail)
  obtain ⟨W, hW⟩ : ∃ W, w.drewN nq = W := ⟨_, rfl⟩
  have g0 : W.cell? ⟨b, o, none⟩ = some (.int .i64 1) := by rw [← hW]; exact h0
  have g1 : W.cell? ⟨b, o + 1, none⟩ = some (.int .i64 A) := by rw [← hW]; exact h1
  have g2 : W.cell? ⟨b, o + 2, none⟩ = some (.int .i64 B) := by rw [← hW]; exact h2
  have g3 : W.cell? ⟨b, o + 3, none⟩ = some (.string T) := by rw [← hW]; exact h3
  have kW : Below w.heap.size w W := by rw [← hW]; exact below_drewN w nq
  rw [hW]
  clear h0 h1 h2 h3 hW
  have HC2 := Box.mk (HC.out W kW)
  go_wp2_with (go_at_call 70; refine HC2.out.mono ?_; rintro e w' ⟨rfl, k2⟩)
  all_goals
    go_ret
    refine ⟨?_, by first | exact kW | exact kW.trans (Below.mono (by assumption) kW.size)⟩
    go_light
    clear HE HC HC2
    simp_all

set_option maxHeartbeats 2000000 in
set_option maxRecDepth 100000 in
theorem may_2 (x : Ins) (n : Nat) (w : World) (b o : Nat) (hI : IsI w b o x) (hs : dsz x.f4 ≤ 4000) (hn : n ≤ 8000) (hk : x.f0 = 2) :
    Calls Tryz.prog 40 #[.pointer (some ⟨b, o, none⟩), .int .i64 n] w fun e w' => e = .returned (.bool (insB n x)) ∧ Below w.heap.size w w' := by
  obtain ⟨h0, h1, h2, h3⟩ := hI.ex
  have HD := Box.mk hI.dat
  have Hs := Box.mk hs
  unfold insB
  rw [hk] at h0 ⊢
  rw [if_neg (show ¬ ((2 : Int) = 1) by decide), if_pos (show (2 : Int) = 2 ∨ (2 : Int) = 4 by decide)]
  have HE := Box.mk (fun (W : World) (k : Below w.heap.size w W) => empty_is x.f4 W b (o + 4) (HD.out.below k))
  clear hk hI hs
  obtain ⟨op, A, B, T, d⟩ := x
  dsimp only at h0 h1 h2 h3 HD Hs HE ⊢
  obtain ⟨de, hde⟩ : ∃ de, dEmp d = de := ⟨_, rfl⟩
  rw [hde] at HE ⊢
  clear hde
  go_enter Tryz.func40, Tryz.ntmps40
  go_wp2_with fail
  go_quiet (fail)
  obtain ⟨W, hW⟩ : ∃ W, w.drewN nq = W := ⟨_, rfl⟩
  have g0 : W.cell? ⟨b, o, none⟩ = some (.int .i64 2) := by rw [← hW]; exact h0
  have g1 : W.cell? ⟨b, o + 1, none⟩ = some (.int .i64 A) := by rw [← hW]; exact h1
  have g2 : W.cell? ⟨b, o + 2, none⟩ = some (.int .i64 B) := by rw [← hW]; exact h2
  have g3 : W.cell? ⟨b, o + 3, none⟩ = some (.string T) := by rw [← hW]; exact h3
  have kW : Below w.heap.size w W := by rw [← hW]; exact below_drewN w nq
  rw [hW]
  clear h0 h1 h2 h3 hW
  go_wp2_with fail
  have hA : decide (0 ≤ A) = false ∨ (0 ≤ A ∧ A ≤ 200) ∨ (0 ≤ A ∧ decide (A ≤ 200) = false) := by by_cases h1 : 0 ≤ A <;> by_cases h2 : A ≤ 200 <;> simp [h1, h2]
  have hB : decide (0 ≤ B) = false ∨ (0 ≤ B ∧ B ≤ 23) ∨ (0 ≤ B ∧ decide (B ≤ 23) = false) := by by_cases h1 : 0 ≤ B <;> by_cases h2 : B ≤ 23 <;> simp [h1, h2]
  rcases hA with hA | ⟨hA, hA2⟩ | ⟨hA, hA2⟩ <;> rcases hB with hB | ⟨hB, hB2⟩ | ⟨hB, hB2⟩
  all_goals
    go_quiet (fail)
  all_goals
    obtain ⟨W2, hW2⟩ : ∃ W2, W.drewN nq = W2 := ⟨_, rfl⟩
    have kW2 : Below w.heap.size w W2 := by rw [← hW2]; exact kW.trans ((below_drewN W nq).mono kW.size)
    have HE2 := Box.mk (HE.out W2 kW2)
    rw [hW2]
    clear hW2
    go_wp2_with (go_at_call 72; refine HE2.out.mono ?_; rintro e w' ⟨rfl, rfl⟩)
  all_goals
    go_ret
    refine ⟨?_, kW2⟩
    go_light
    clear HE HE2
    simp_all
    try (intros; omega)

set_option maxHeartbeats 2000000 in
set_option maxRecDepth 100000 in
theorem may_3 (x : Ins) (n : Nat) (w : World) (b o : Nat) (hI : IsI w b o x) (hs : dsz x.f4 ≤ 4000) (hn : n ≤ 8000) (hk : x.f0 = 3) :
    Calls Tryz.prog 40 #[.pointer (some ⟨b, o, none⟩), .int .i64 n] w fun e w' => e = .returned (.bool (insB n x)) ∧ Below w.heap.size w w' := by
  obtain ⟨h0, h1, h2, h3⟩ := hI.ex
  have HD := Box.mk hI.dat
  have Hs := Box.mk hs
  unfold insB
  rw [hk] at h0 ⊢
  rw [if_neg (show ¬ ((3 : Int) = 1) by decide), if_neg (show ¬ ((3 : Int) = 2 ∨ (3 : Int) = 4) by decide), if_pos (show (3 : Int) = 3 ∨ (3 : Int) = 5 ∨ (3 : Int) = 6 by decide)]
  have HE := Box.mk (fun (W : World) (k : Below w.heap.size w W) => empty_is x.f4 W b (o + 4) (HD.out.below k))
  clear hk hI hs
  obtain ⟨op, A, B, T, d⟩ := x
  dsimp only at h0 h1 h2 h3 HD Hs HE ⊢
  obtain ⟨de, hde⟩ : ∃ de, dEmp d = de := ⟨_, rfl⟩
  rw [hde] at HE ⊢
  clear hde
  obtain ⟨sy, hsy⟩ : ∃ sy, symS T.toList = sy := ⟨_, rfl⟩
  have Hsy : Box (symS T.data.toList = sy) := ⟨by rw [← ByteArray.toList_eq]; exact hsy⟩
  rw [hsy]
  clear hsy
  go_enter Tryz.func40, Tryz.ntmps40
  go_wp2_with fail
  go_quiet (fail)
  obtain ⟨W, hW⟩ : ∃ W, w.drewN nq = W := ⟨_, rfl⟩
  have g0 : W.cell? ⟨b, o, none⟩ = some (.int .i64 3) := by rw [← hW]; exact h0
  have g1 : W.cell? ⟨b, o + 1, none⟩ = some (.int .i64 A) := by rw [← hW]; exact h1
  have g2 : W.cell? ⟨b, o + 2, none⟩ = some (.int .i64 B) := by rw [← hW]; exact h2
  have g3 : W.cell? ⟨b, o + 3, none⟩ = some (.string T) := by rw [← hW]; exact h3
  have kW : Below w.heap.size w W := by rw [← hW]; exact below_drewN w nq
  rw [hW]
  clear h0 h1 h2 h3 hW
  go_wp2_with fail
  refine (symbol_is _ _).mono ?_
  rw [Hsy.out]
  rintro e w1 ⟨rfl, k1⟩
  have K1 := Box.mk (kW.trans (k1.mono kW.size))
  have HE2 := Box.mk (HE.out w1 K1.out)
  clear k1
  go_wp2_with (go_at_call 72; refine HE2.out.mono ?_; rintro e w' ⟨rfl, rfl⟩)
  all_goals
    go_ret
    refine ⟨?_, K1.out⟩
    go_light
    clear HE HE2 Hsy
    simp_all

set_option maxHeartbeats 2000000 in
set_option maxRecDepth 100000 in
theorem may_4 (x : Ins) (n : Nat) (w : World) (b o : Nat) (hI : IsI w b o x) (hs : dsz x.f4 ≤ 4000) (hn : n ≤ 8000) (hk : x.f0 = 4) :
    Calls Tryz.prog 40 #[.pointer (some ⟨b, o, none⟩), .int .i64 n] w fun e w' => e = .returned (.bool (insB n x)) ∧ Below w.heap.size w w' := by
  obtain ⟨h0, h1, h2, h3⟩ := hI.ex
  have HD := Box.mk hI.dat
  have Hs := Box.mk hs
  unfold insB
  rw [hk] at h0 ⊢
  rw [if_neg (show ¬ ((4 : Int) = 1) by decide), if_pos (show (4 : Int) = 2 ∨ (4 : Int) = 4 by decide)]
  have HE := Box.mk (fun (W : World) (k : Below w.heap.size w W) => empty_is x.f4 W b (o + 4) (HD.out.below k))
  clear hk hI hs
  obtain ⟨op, A, B, T, d⟩ := x
  dsimp only at h0 h1 h2 h3 HD Hs HE ⊢
  obtain ⟨de, hde⟩ : ∃ de, dEmp d = de := ⟨_, rfl⟩
  rw [hde] at HE ⊢
  clear hde
  go_enter Tryz.func40, Tryz.ntmps40
  go_wp2_with fail
  go_quiet (fail)
  obtain ⟨W, hW⟩ : ∃ W, w.drewN nq = W := ⟨_, rfl⟩
  have g0 : W.cell? ⟨b, o, none⟩ = some (.int .i64 4) := by rw [← hW]; exact h0
  have g1 : W.cell? ⟨b, o + 1, none⟩ = some (.int .i64 A) := by rw [← hW]; exact h1
  have g2 : W.cell? ⟨b, o + 2, none⟩ = some (.int .i64 B) := by rw [← hW]; exact h2
  have g3 : W.cell? ⟨b, o + 3, none⟩ = some (.string T) := by rw [← hW]; exact h3
  have kW : Below w.heap.size w W := by rw [← hW]; exact below_drewN w nq
  rw [hW]
  clear h0 h1 h2 h3 hW
  go_wp2_with fail
  have hA : decide (0 ≤ A) = false ∨ (0 ≤ A ∧ A ≤ 200) ∨ (0 ≤ A ∧ decide (A ≤ 200) = false) := by by_cases h1 : 0 ≤ A <;> by_cases h2 : A ≤ 200 <;> simp [h1, h2]
  have hB : decide (0 ≤ B) = false ∨ (0 ≤ B ∧ B ≤ 23) ∨ (0 ≤ B ∧ decide (B ≤ 23) = false) := by by_cases h1 : 0 ≤ B <;> by_cases h2 : B ≤ 23 <;> simp [h1, h2]
  rcases hA with hA | ⟨hA, hA2⟩ | ⟨hA, hA2⟩ <;> rcases hB with hB | ⟨hB, hB2⟩ | ⟨hB, hB2⟩
  all_goals
    go_quiet (fail)
  all_goals
    obtain ⟨W2, hW2⟩ : ∃ W2, W.drewN nq = W2 := ⟨_, rfl⟩
    have kW2 : Below w.heap.size w W2 := by rw [← hW2]; exact kW.trans ((below_drewN W nq).mono kW.size)
    have HE2 := Box.mk (HE.out W2 kW2)
    rw [hW2]
    clear hW2
    go_wp2_with (go_at_call 72; refine HE2.out.mono ?_; rintro e w' ⟨rfl, rfl⟩)
  all_goals
    go_ret
    refine ⟨?_, kW2⟩
    go_light
    clear HE HE2
    simp_all
    try (intros; omega)

set_option maxHeartbeats 2000000 in
set_option maxRecDepth 100000 in
theorem may_5 (x : Ins) (n : Nat) (w : World) (b o : Nat) (hI : IsI w b o x) (hs : dsz x.f4 ≤ 4000) (hn : n ≤ 8000) (hk : x.f0 = 5) :
    Calls Tryz.prog 40 #[.pointer (some ⟨b, o, none⟩), .int .i64 n] w fun e w' => e = .returned (.bool (insB n x)) ∧ Below w.heap.size w w' := by
  obtain ⟨h0, h1, h2, h3⟩ := hI.ex
  have HD := Box.mk hI.dat
  have Hs := Box.mk hs
  unfold insB
  rw [hk] at h0 ⊢
  rw [if_neg (show ¬ ((5 : Int) = 1) by decide), if_neg (show ¬ ((5 : Int) = 2 ∨ (5 : Int) = 4) by decide), if_pos (show (5 : Int) = 3 ∨ (5 : Int) = 5 ∨ (5 : Int) = 6 by decide)]
  have HE := Box.mk (fun (W : World) (k : Below w.heap.size w W) => empty_is x.f4 W b (o + 4) (HD.out.below k))
  clear hk hI hs
  obtain ⟨op, A, B, T, d⟩ := x
  dsimp only at h0 h1 h2 h3 HD Hs HE ⊢
  obtain ⟨de, hde⟩ : ∃ de, dEmp d = de := ⟨_, rfl⟩
  rw [hde] at HE ⊢
  clear hde
  obtain ⟨sy, hsy⟩ : ∃ sy, symS T.toList = sy := ⟨_, rfl⟩
  have Hsy : Box (symS T.data.toList = sy) := ⟨by rw [← ByteArray.toList_eq]; exact hsy⟩
  rw [hsy]
  clear hsy
  go_enter Tryz.func40, Tryz.ntmps40
  go_wp2_with fail
  go_quiet (fail)
  obtain ⟨W, hW⟩ : ∃ W, w.drewN nq = W := ⟨_, rfl⟩
  have g0 : W.cell? ⟨b, o, none⟩ = some (.int .i64 5) := by rw [← hW]; exact h0
  have g1 : W.cell? ⟨b, o + 1, none⟩ = some (.int .i64 A) := by rw [← hW]; exact h1
  have g2 : W.cell? ⟨b, o + 2, none⟩ = some (.int .i64 B) := by rw [← hW]; exact h2
  have g3 : W.cell? ⟨b, o + 3, none⟩ = some (.string T) := by rw [← hW]; exact h3
  have kW : Below w.heap.size w W := by rw [← hW]; exact below_drewN w nq
  rw [hW]
  clear h0 h1 h2 h3 hW
  go_wp2_with fail
  refine (symbol_is _ _).mono ?_
  rw [Hsy.out]
  rintro e w1 ⟨rfl, k1⟩
  have K1 := Box.mk (kW.trans (k1.mono kW.size))
  have HE2 := Box.mk (HE.out w1 K1.out)
  clear k1
  go_wp2_with (go_at_call 72; refine HE2.out.mono ?_; rintro e w' ⟨rfl, rfl⟩)
  all_goals
    go_ret
    refine ⟨?_, K1.out⟩
    go_light
    clear HE HE2 Hsy
    simp_all

set_option maxHeartbeats 2000000 in
set_option maxRecDepth 100000 in
theorem may_6 (x : Ins) (n : Nat) (w : World) (b o : Nat) (hI : IsI w b o x) (hs : dsz x.f4 ≤ 4000) (hn : n ≤ 8000) (hk : x.f0 = 6) :
    Calls Tryz.prog 40 #[.pointer (some ⟨b, o, none⟩), .int .i64 n] w fun e w' => e = .returned (.bool (insB n x)) ∧ Below w.heap.size w w' := by
  obtain ⟨h0, h1, h2, h3⟩ := hI.ex
  have HD := Box.mk hI.dat
  have Hs := Box.mk hs
  unfold insB
  rw [hk] at h0 ⊢
  rw [if_neg (show ¬ ((6 : Int) = 1) by decide), if_neg (show ¬ ((6 : Int) = 2 ∨ (6 : Int) = 4) by decide), if_pos (show (6 : Int) = 3 ∨ (6 : Int) = 5 ∨ (6 : Int) = 6 by decide)]
  have HE := Box.mk (fun (W : World) (k : Below w.heap.size w W) => empty_is x.f4 W b (o + 4) (HD.out.below k))
  clear hk hI hs
  obtain ⟨op, A, B, T, d⟩ := x
  dsimp only at h0 h1 h2 h3 HD Hs HE ⊢
  obtain ⟨de, hde⟩ : ∃ de, dEmp d = de := ⟨_, rfl⟩
  rw [hde] at HE ⊢
  clear hde
  obtain ⟨sy, hsy⟩ : ∃ sy, symS T.toList = sy := ⟨_, rfl⟩
  have Hsy : Box (symS T.data.toList = sy) := ⟨by rw [← ByteArray.toList_eq]; exact hsy⟩
  rw [hsy]
  clear hsy
  go_enter Tryz.func40, Tryz.ntmps40
  go_wp2_with fail
  go_quiet (fail)
  obtain ⟨W, hW⟩ : ∃ W, w.drewN nq = W := ⟨_, rfl⟩
  have g0 : W.cell? ⟨b, o, none⟩ = some (.int .i64 6) := by rw [← hW]; exact h0
  have g1 : W.cell? ⟨b, o + 1, none⟩ = some (.int .i64 A) := by rw [← hW]; exact h1
  have g2 : W.cell? ⟨b, o + 2, none⟩ = some (.int .i64 B) := by rw [← hW]; exact h2
  have g3 : W.cell? ⟨b, o + 3, none⟩ = some (.string T) := by rw [← hW]; exact h3
  have kW : Below w.heap.size w W := by rw [← hW]; exact below_drewN w nq
  rw [hW]
  clear h0 h1 h2 h3 hW
  go_wp2_with fail
  refine (symbol_is _ _).mono ?_
  rw [Hsy.out]
  rintro e w1 ⟨rfl, k1⟩
  have K1 := Box.mk (kW.trans (k1.mono kW.size))
  have HE2 := Box.mk (HE.out w1 K1.out)
  clear k1
  go_wp2_with (go_at_call 72; refine HE2.out.mono ?_; rintro e w' ⟨rfl, rfl⟩)
  all_goals
    go_ret
    refine ⟨?_, K1.out⟩
    go_light
    clear HE HE2 Hsy
    simp_all

set_option maxHeartbeats 2000000 in
set_option maxRecDepth 100000 in
theorem may_7 (x : Ins) (n : Nat) (w : World) (b o : Nat) (hI : IsI w b o x) (hs : dsz x.f4 ≤ 4000) (hn : n ≤ 8000) (hk : x.f0 = 7) :
    Calls Tryz.prog 40 #[.pointer (some ⟨b, o, none⟩), .int .i64 n] w fun e w' => e = .returned (.bool (insB n x)) ∧ Below w.heap.size w w' := by
  obtain ⟨h0, h1, h2, h3⟩ := hI.ex
  have HD := Box.mk hI.dat
  have Hs := Box.mk hs
  unfold insB
  rw [hk] at h0 ⊢
  rw [if_neg (show ¬ ((7 : Int) = 1) by decide), if_neg (show ¬ ((7 : Int) = 2 ∨ (7 : Int) = 4) by decide), if_neg (show ¬ ((7 : Int) = 3 ∨ (7 : Int) = 5 ∨ (7 : Int) = 6) by decide), if_neg (show ¬ ((7 : Int) = 9) by decide), if_pos (show (7 : Int) = 7 ∨ (7 : Int) = 8 ∨ (7 : Int) = 10 by decide)]
  have HE := Box.mk (fun (W : World) (k : Below w.heap.size w W) => empty_is x.f4 W b (o + 4) (HD.out.below k))
  clear hk hI hs
  obtain ⟨op, A, B, T, d⟩ := x
  dsimp only at h0 h1 h2 h3 HD Hs HE ⊢
  obtain ⟨de, hde⟩ : ∃ de, dEmp d = de := ⟨_, rfl⟩
  rw [hde] at HE ⊢
  clear hde
  go_enter Tryz.func40, Tryz.ntmps40
  go_wp2_with fail
  go_quiet (fail)
  obtain ⟨W, hW⟩ : ∃ W, w.drewN nq = W := ⟨_, rfl⟩
  have g0 : W.cell? ⟨b, o, none⟩ = some (.int .i64 7) := by rw [← hW]; exact h0
  have g1 : W.cell? ⟨b, o + 1, none⟩ = some (.int .i64 A) := by rw [← hW]; exact h1
  have g2 : W.cell? ⟨b, o + 2, none⟩ = some (.int .i64 B) := by rw [← hW]; exact h2
  have g3 : W.cell? ⟨b, o + 3, none⟩ = some (.string T) := by rw [← hW]; exact h3
  have kW : Below w.heap.size w W := by rw [← hW]; exact below_drewN w nq
  rw [hW]
  clear h0 h1 h2 h3 hW
  have HE2 := Box.mk (HE.out W kW)
  go_wp2_with (go_at_call 72; refine HE2.out.mono ?_; rintro e w' ⟨rfl, rfl⟩)
  all_goals
    go_ret
    refine ⟨?_, kW⟩
    go_light
    clear HE HE2
    simp_all
    try omega

set_option maxHeartbeats 2000000 in
set_option maxRecDepth 100000 in
theorem may_8 (x : Ins) (n : Nat) (w : World) (b o : Nat) (hI : IsI w b o x) (hs : dsz x.f4 ≤ 4000) (hn : n ≤ 8000) (hk : x.f0 = 8) :
    Calls Tryz.prog 40 #[.pointer (some ⟨b, o, none⟩), .int .i64 n] w fun e w' => e = .returned (.bool (insB n x)) ∧ Below w.heap.size w w' := by
  obtain ⟨h0, h1, h2, h3⟩ := hI.ex
  have HD := Box.mk hI.dat
  have Hs := Box.mk hs
  unfold insB
  rw [hk] at h0 ⊢
  rw [if_neg (show ¬ ((8 : Int) = 1) by decide), if_neg (show ¬ ((8 : Int) = 2 ∨ (8 : Int) = 4) by decide), if_neg (show ¬ ((8 : Int) = 3 ∨ (8 : Int) = 5 ∨ (8 : Int) = 6) by decide), if_neg (show ¬ ((8 : Int) = 9) by decide), if_pos (show (8 : Int) = 7 ∨ (8 : Int) = 8 ∨ (8 : Int) = 10 by decide)]
  have HE := Box.mk (fun (W : World) (k : Below w.heap.size w W) => empty_is x.f4 W b (o + 4) (HD.out.below k))
  clear hk hI hs
  obtain ⟨op, A, B, T, d⟩ := x
  dsimp only at h0 h1 h2 h3 HD Hs HE ⊢
  obtain ⟨de, hde⟩ : ∃ de, dEmp d = de := ⟨_, rfl⟩
  rw [hde] at HE ⊢
  clear hde
  go_enter Tryz.func40, Tryz.ntmps40
  go_wp2_with fail
  go_quiet (fail)
  obtain ⟨W, hW⟩ : ∃ W, w.drewN nq = W := ⟨_, rfl⟩
  have g0 : W.cell? ⟨b, o, none⟩ = some (.int .i64 8) := by rw [← hW]; exact h0
  have g1 : W.cell? ⟨b, o + 1, none⟩ = some (.int .i64 A) := by rw [← hW]; exact h1
  have g2 : W.cell? ⟨b, o + 2, none⟩ = some (.int .i64 B) := by rw [← hW]; exact h2
  have g3 : W.cell? ⟨b, o + 3, none⟩ = some (.string T) := by rw [← hW]; exact h3
  have kW : Below w.heap.size w W := by rw [← hW]; exact below_drewN w nq
  rw [hW]
  clear h0 h1 h2 h3 hW
  have HE2 := Box.mk (HE.out W kW)
  go_wp2_with (go_at_call 72; refine HE2.out.mono ?_; rintro e w' ⟨rfl, rfl⟩)
  all_goals
    go_ret
    refine ⟨?_, kW⟩
    go_light
    clear HE HE2
    simp_all
    try omega

set_option maxHeartbeats 2000000 in
set_option maxRecDepth 100000 in
theorem may_9 (x : Ins) (n : Nat) (w : World) (b o : Nat) (hI : IsI w b o x) (hs : dsz x.f4 ≤ 4000) (hn : n ≤ 8000) (hk : x.f0 = 9) :
    Calls Tryz.prog 40 #[.pointer (some ⟨b, o, none⟩), .int .i64 n] w fun e w' => e = .returned (.bool (insB n x)) ∧ Below w.heap.size w w' := by
  obtain ⟨h0, h1, h2, h3⟩ := hI.ex
  have HD := Box.mk hI.dat
  have Hs := Box.mk hs
  unfold insB
  rw [hk] at h0 ⊢
  rw [if_neg (show ¬ ((9 : Int) = 1) by decide), if_neg (show ¬ ((9 : Int) = 2 ∨ (9 : Int) = 4) by decide), if_neg (show ¬ ((9 : Int) = 3 ∨ (9 : Int) = 5 ∨ (9 : Int) = 6) by decide), if_pos (show (9 : Int) = 9 by decide)]
  have HE := Box.mk (fun (W : World) (k : Below w.heap.size w W) => empty_is x.f4 W b (o + 4) (HD.out.below k))
  clear hk hI hs
  obtain ⟨op, A, B, T, d⟩ := x
  dsimp only at h0 h1 h2 h3 HD Hs HE ⊢
  obtain ⟨de, hde⟩ : ∃ de, dEmp d = de := ⟨_, rfl⟩
  rw [hde] at HE ⊢
  clear hde
  go_enter Tryz.func40, Tryz.ntmps40
  go_wp2_with fail
  go_quiet (fail)
  obtain ⟨W, hW⟩ : ∃ W, w.drewN nq = W := ⟨_, rfl⟩
  have g0 : W.cell? ⟨b, o, none⟩ = some (.int .i64 9) := by rw [← hW]; exact h0
  have g1 : W.cell? ⟨b, o + 1, none⟩ = some (.int .i64 A) := by rw [← hW]; exact h1
  have g2 : W.cell? ⟨b, o + 2, none⟩ = some (.int .i64 B) := by rw [← hW]; exact h2
  have g3 : W.cell? ⟨b, o + 3, none⟩ = some (.string T) := by rw [← hW]; exact h3
  have kW : Below w.heap.size w W := by rw [← hW]; exact below_drewN w nq
  rw [hW]
  clear h0 h1 h2 h3 hW
  have HE2 := Box.mk (HE.out W kW)
  go_wp2_with (go_at_call 72; refine HE2.out.mono ?_; rintro e w' ⟨rfl, rfl⟩)
  all_goals
    go_ret
    refine ⟨?_, kW⟩
    go_light
    clear HE HE2
    simp_all
    try omega

set_option maxHeartbeats 2000000 in
set_option maxRecDepth 100000 in
theorem may_10 (x : Ins) (n : Nat) (w : World) (b o : Nat) (hI : IsI w b o x) (hs : dsz x.f4 ≤ 4000) (hn : n ≤ 8000) (hk : x.f0 = 10) :
    Calls Tryz.prog 40 #[.pointer (some ⟨b, o, none⟩), .int .i64 n] w fun e w' => e = .returned (.bool (insB n x)) ∧ Below w.heap.size w w' := by
  obtain ⟨h0, h1, h2, h3⟩ := hI.ex
  have HD := Box.mk hI.dat
  have Hs := Box.mk hs
  unfold insB
  rw [hk] at h0 ⊢
  rw [if_neg (show ¬ ((10 : Int) = 1) by decide), if_neg (show ¬ ((10 : Int) = 2 ∨ (10 : Int) = 4) by decide), if_neg (show ¬ ((10 : Int) = 3 ∨ (10 : Int) = 5 ∨ (10 : Int) = 6) by decide), if_neg (show ¬ ((10 : Int) = 9) by decide), if_pos (show (10 : Int) = 7 ∨ (10 : Int) = 8 ∨ (10 : Int) = 10 by decide)]
  have HE := Box.mk (fun (W : World) (k : Below w.heap.size w W) => empty_is x.f4 W b (o + 4) (HD.out.below k))
  clear hk hI hs
  obtain ⟨op, A, B, T, d⟩ := x
  dsimp only at h0 h1 h2 h3 HD Hs HE ⊢
  obtain ⟨de, hde⟩ : ∃ de, dEmp d = de := ⟨_, rfl⟩
  rw [hde] at HE ⊢
  clear hde
  go_enter Tryz.func40, Tryz.ntmps40
  go_wp2_with fail
  go_quiet (fail)
  obtain ⟨W, hW⟩ : ∃ W, w.drewN nq = W := ⟨_, rfl⟩
  have g0 : W.cell? ⟨b, o, none⟩ = some (.int .i64 10) := by rw [← hW]; exact h0
  have g1 : W.cell? ⟨b, o + 1, none⟩ = some (.int .i64 A) := by rw [← hW]; exact h1
  have g2 : W.cell? ⟨b, o + 2, none⟩ = some (.int .i64 B) := by rw [← hW]; exact h2
  have g3 : W.cell? ⟨b, o + 3, none⟩ = some (.string T) := by rw [← hW]; exact h3
  have kW : Below w.heap.size w W := by rw [← hW]; exact below_drewN w nq
  rw [hW]
  clear h0 h1 h2 h3 hW
  have HE2 := Box.mk (HE.out W kW)
  go_wp2_with (go_at_call 72; refine HE2.out.mono ?_; rintro e w' ⟨rfl, rfl⟩)
  all_goals
    go_ret
    refine ⟨?_, kW⟩
    go_light
    clear HE HE2
    simp_all
    try omega

set_option maxHeartbeats 2000000 in
set_option maxRecDepth 100000 in
theorem may_11 (x : Ins) (n : Nat) (w : World) (b o : Nat) (hI : IsI w b o x) (hs : dsz x.f4 ≤ 4000) (hn : n ≤ 8000) (hk : x.f0 = 11) :
    Calls Tryz.prog 40 #[.pointer (some ⟨b, o, none⟩), .int .i64 n] w fun e w' => e = .returned (.bool (insB n x)) ∧ Below w.heap.size w w' := by
  obtain ⟨h0, h1, h2, h3⟩ := hI.ex
  have HD := Box.mk hI.dat
  have Hs := Box.mk hs
  unfold insB
  rw [hk] at h0 ⊢
  rw [if_neg (show ¬ ((11 : Int) = 1) by decide), if_neg (show ¬ ((11 : Int) = 2 ∨ (11 : Int) = 4) by decide), if_neg (show ¬ ((11 : Int) = 3 ∨ (11 : Int) = 5 ∨ (11 : Int) = 6) by decide), if_neg (show ¬ ((11 : Int) = 9) by decide), if_neg (show ¬ ((11 : Int) = 7 ∨ (11 : Int) = 8 ∨ (11 : Int) = 10) by decide), if_neg (show ¬ ((11 : Int) = 12 ∨ (11 : Int) = 13) by decide), if_pos (show (11 : Int) = 11 ∨ (11 : Int) = 14 by decide)]
  have HE := Box.mk (fun (W : World) (k : Below w.heap.size w W) => empty_is x.f4 W b (o + 4) (HD.out.below k))
  clear hk hI hs
  obtain ⟨op, A, B, T, d⟩ := x
  dsimp only at h0 h1 h2 h3 HD Hs HE ⊢
  obtain ⟨de, hde⟩ : ∃ de, dEmp d = de := ⟨_, rfl⟩
  rw [hde] at HE ⊢
  clear hde
  go_enter Tryz.func40, Tryz.ntmps40
  go_wp2_with fail
  go_quiet (fail)
  obtain ⟨W, hW⟩ : ∃ W, w.drewN nq = W := ⟨_, rfl⟩
  have g0 : W.cell? ⟨b, o, none⟩ = some (.int .i64 11) := by rw [← hW]; exact h0
  have g1 : W.cell? ⟨b, o + 1, none⟩ = some (.int .i64 A) := by rw [← hW]; exact h1
  have g2 : W.cell? ⟨b, o + 2, none⟩ = some (.int .i64 B) := by rw [← hW]; exact h2
  have g3 : W.cell? ⟨b, o + 3, none⟩ = some (.string T) := by rw [← hW]; exact h3
  have kW : Below w.heap.size w W := by rw [← hW]; exact below_drewN w nq
  rw [hW]
  clear h0 h1 h2 h3 hW
  have HE2 := Box.mk (HE.out W kW)
  go_wp2_with (go_at_call 72; refine HE2.out.mono ?_; rintro e w' ⟨rfl, rfl⟩)
  all_goals
    go_ret
    refine ⟨?_, kW⟩
    go_light
    clear HE HE2
    simp_all
    try omega

set_option maxHeartbeats 2000000 in
set_option maxRecDepth 100000 in
theorem may_12 (x : Ins) (n : Nat) (w : World) (b o : Nat) (hI : IsI w b o x) (hs : dsz x.f4 ≤ 4000) (hn : n ≤ 8000) (hk : x.f0 = 12) :
    Calls Tryz.prog 40 #[.pointer (some ⟨b, o, none⟩), .int .i64 n] w fun e w' => e = .returned (.bool (insB n x)) ∧ Below w.heap.size w w' := by
  obtain ⟨h0, h1, h2, h3⟩ := hI.ex
  have HD := Box.mk hI.dat
  have Hs := Box.mk hs
  unfold insB
  rw [hk] at h0 ⊢
  rw [if_neg (show ¬ ((12 : Int) = 1) by decide), if_neg (show ¬ ((12 : Int) = 2 ∨ (12 : Int) = 4) by decide), if_neg (show ¬ ((12 : Int) = 3 ∨ (12 : Int) = 5 ∨ (12 : Int) = 6) by decide), if_neg (show ¬ ((12 : Int) = 9) by decide), if_neg (show ¬ ((12 : Int) = 7 ∨ (12 : Int) = 8 ∨ (12 : Int) = 10) by decide), if_pos (show (12 : Int) = 12 ∨ (12 : Int) = 13 by decide)]
  have HE := Box.mk (fun (W : World) (k : Below w.heap.size w W) => empty_is x.f4 W b (o + 4) (HD.out.below k))
  clear hk hI hs
  obtain ⟨op, A, B, T, d⟩ := x
  dsimp only at h0 h1 h2 h3 HD Hs HE ⊢
  obtain ⟨de, hde⟩ : ∃ de, dEmp d = de := ⟨_, rfl⟩
  rw [hde] at HE ⊢
  clear hde
  go_enter Tryz.func40, Tryz.ntmps40
  go_wp2_with fail
  go_quiet (fail)
  obtain ⟨W, hW⟩ : ∃ W, w.drewN nq = W := ⟨_, rfl⟩
  have g0 : W.cell? ⟨b, o, none⟩ = some (.int .i64 12) := by rw [← hW]; exact h0
  have g1 : W.cell? ⟨b, o + 1, none⟩ = some (.int .i64 A) := by rw [← hW]; exact h1
  have g2 : W.cell? ⟨b, o + 2, none⟩ = some (.int .i64 B) := by rw [← hW]; exact h2
  have g3 : W.cell? ⟨b, o + 3, none⟩ = some (.string T) := by rw [← hW]; exact h3
  have kW : Below w.heap.size w W := by rw [← hW]; exact below_drewN w nq
  rw [hW]
  clear h0 h1 h2 h3 hW
  have HE2 := Box.mk (HE.out W kW)
  go_wp2_with (go_at_call 72; refine HE2.out.mono ?_; rintro e w' ⟨rfl, rfl⟩)
  all_goals
    go_ret
    refine ⟨?_, kW⟩
    go_light
    clear HE HE2
    simp_all
    try omega

set_option maxHeartbeats 2000000 in
set_option maxRecDepth 100000 in
theorem may_13 (x : Ins) (n : Nat) (w : World) (b o : Nat) (hI : IsI w b o x) (hs : dsz x.f4 ≤ 4000) (hn : n ≤ 8000) (hk : x.f0 = 13) :
    Calls Tryz.prog 40 #[.pointer (some ⟨b, o, none⟩), .int .i64 n] w fun e w' => e = .returned (.bool (insB n x)) ∧ Below w.heap.size w w' := by
  obtain ⟨h0, h1, h2, h3⟩ := hI.ex
  have HD := Box.mk hI.dat
  have Hs := Box.mk hs
  unfold insB
  rw [hk] at h0 ⊢
  rw [if_neg (show ¬ ((13 : Int) = 1) by decide), if_neg (show ¬ ((13 : Int) = 2 ∨ (13 : Int) = 4) by decide), if_neg (show ¬ ((13 : Int) = 3 ∨ (13 : Int) = 5 ∨ (13 : Int) = 6) by decide), if_neg (show ¬ ((13 : Int) = 9) by decide), if_neg (show ¬ ((13 : Int) = 7 ∨ (13 : Int) = 8 ∨ (13 : Int) = 10) by decide), if_pos (show (13 : Int) = 12 ∨ (13 : Int) = 13 by decide)]
  have HE := Box.mk (fun (W : World) (k : Below w.heap.size w W) => empty_is x.f4 W b (o + 4) (HD.out.below k))
  clear hk hI hs
  obtain ⟨op, A, B, T, d⟩ := x
  dsimp only at h0 h1 h2 h3 HD Hs HE ⊢
  obtain ⟨de, hde⟩ : ∃ de, dEmp d = de := ⟨_, rfl⟩
  rw [hde] at HE ⊢
  clear hde
  go_enter Tryz.func40, Tryz.ntmps40
  go_wp2_with fail
  go_quiet (fail)
  obtain ⟨W, hW⟩ : ∃ W, w.drewN nq = W := ⟨_, rfl⟩
  have g0 : W.cell? ⟨b, o, none⟩ = some (.int .i64 13) := by rw [← hW]; exact h0
  have g1 : W.cell? ⟨b, o + 1, none⟩ = some (.int .i64 A) := by rw [← hW]; exact h1
  have g2 : W.cell? ⟨b, o + 2, none⟩ = some (.int .i64 B) := by rw [← hW]; exact h2
  have g3 : W.cell? ⟨b, o + 3, none⟩ = some (.string T) := by rw [← hW]; exact h3
  have kW : Below w.heap.size w W := by rw [← hW]; exact below_drewN w nq
  rw [hW]
  clear h0 h1 h2 h3 hW
  have HE2 := Box.mk (HE.out W kW)
  go_wp2_with (go_at_call 72; refine HE2.out.mono ?_; rintro e w' ⟨rfl, rfl⟩)
  all_goals
    go_ret
    refine ⟨?_, kW⟩
    go_light
    clear HE HE2
    simp_all
    try omega

set_option maxHeartbeats 2000000 in
set_option maxRecDepth 100000 in
theorem may_14 (x : Ins) (n : Nat) (w : World) (b o : Nat) (hI : IsI w b o x) (hs : dsz x.f4 ≤ 4000) (hn : n ≤ 8000) (hk : x.f0 = 14) :
    Calls Tryz.prog 40 #[.pointer (some ⟨b, o, none⟩), .int .i64 n] w fun e w' => e = .returned (.bool (insB n x)) ∧ Below w.heap.size w w' := by
  obtain ⟨h0, h1, h2, h3⟩ := hI.ex
  have HD := Box.mk hI.dat
  have Hs := Box.mk hs
  unfold insB
  rw [hk] at h0 ⊢
  rw [if_neg (show ¬ ((14 : Int) = 1) by decide), if_neg (show ¬ ((14 : Int) = 2 ∨ (14 : Int) = 4) by decide), if_neg (show ¬ ((14 : Int) = 3 ∨ (14 : Int) = 5 ∨ (14 : Int) = 6) by decide), if_neg (show ¬ ((14 : Int) = 9) by decide), if_neg (show ¬ ((14 : Int) = 7 ∨ (14 : Int) = 8 ∨ (14 : Int) = 10) by decide), if_neg (show ¬ ((14 : Int) = 12 ∨ (14 : Int) = 13) by decide), if_pos (show (14 : Int) = 11 ∨ (14 : Int) = 14 by decide)]
  have HE := Box.mk (fun (W : World) (k : Below w.heap.size w W) => empty_is x.f4 W b (o + 4) (HD.out.below k))
  clear hk hI hs
  obtain ⟨op, A, B, T, d⟩ := x
  dsimp only at h0 h1 h2 h3 HD Hs HE ⊢
  obtain ⟨de, hde⟩ : ∃ de, dEmp d = de := ⟨_, rfl⟩
  rw [hde] at HE ⊢
  clear hde
  go_enter Tryz.func40, Tryz.ntmps40
  go_wp2_with fail
  go_quiet (fail)
  obtain ⟨W, hW⟩ : ∃ W, w.drewN nq = W := ⟨_, rfl⟩
  have g0 : W.cell? ⟨b, o, none⟩ = some (.int .i64 14) := by rw [← hW]; exact h0
  have g1 : W.cell? ⟨b, o + 1, none⟩ = some (.int .i64 A) := by rw [← hW]; exact h1
  have g2 : W.cell? ⟨b, o + 2, none⟩ = some (.int .i64 B) := by rw [← hW]; exact h2
  have g3 : W.cell? ⟨b, o + 3, none⟩ = some (.string T) := by rw [← hW]; exact h3
  have kW : Below w.heap.size w W := by rw [← hW]; exact below_drewN w nq
  rw [hW]
  clear h0 h1 h2 h3 hW
  have HE2 := Box.mk (HE.out W kW)
  go_wp2_with (go_at_call 72; refine HE2.out.mono ?_; rintro e w' ⟨rfl, rfl⟩)
  all_goals
    go_ret
    refine ⟨?_, kW⟩
    go_light
    clear HE HE2
    simp_all
    try omega


end Go.Proofs.YtiimojpaeccajaaGreatDoor
