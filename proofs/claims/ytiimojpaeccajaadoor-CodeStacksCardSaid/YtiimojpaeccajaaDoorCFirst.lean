/- CodeFirst's walk: the stacks begin as [0], at each place a closure leads to as well. -/
import Derived.Test.YtiimojpaeccajaaDoorPr2
import Derived.Test.YtiimojpaeccajaaDoorAwk16
import Derived.Test.YtiimojpaeccajaaDoorCRead
import Derived.Test.YtiimojpaeccajaaDoorStacks
namespace Go.Proofs.YtiimojpaeccajaaDoor
set_option linter.unusedVariables false
set_option linter.unusedSimpArgs false
open Go.RowKit Go.Proofs.YtiimojpaeccajaaDoorW.PrintWords Go.Proofs.YtiimojpaeccajaaDoorW.PrintLast Go.Proofs.YtiimojpaeccajaaDoorW.PrintMore

/-- What Stacks leaves, as it is asked for. -/
structure StOut (w : World) (sb n : Nat) (S : Nat → Option (List Int)) (R : Nat → Nat × Nat) : Prop where
  lt : sb < w.heap.size
  slot : ∀ i, i < n → w.cell? ⟨sb, i, none⟩ = some (match S i with | none => .slice none 0 0 | some s => .slice (some ⟨(R i).1, 0, none⟩) s.length (R i).2)
  row : ∀ i s, S i = some s → s.length ≤ (R i).2 ∧ ∀ j, j < s.length → w.cell? ⟨(R i).1, 0 + j, none⟩ = some (.int .i64 (s.getD j 0))
theorem StOut.below {w w' : World} {sb n : Nat} {S : Nat → Option (List Int)} {R : Nat → Nat × Nat} (h : StOut w sb n S R) (k : Below w.heap.size w w') : StOut w' sb n S R :=
  ⟨Nat.lt_of_lt_of_le h.lt k.size, fun i hi => cell_below (h.slot i hi) k, fun i s hs => ⟨(h.row i s hs).1, fun j hj => cell_below ((h.row i s hs).2 j hj) k⟩⟩
theorem LkM.out {T : TypeId} {w : World} {B kb sb n : Nat} {lv : Value} {S : Nat → Option (List Int)} {R : Nat → Nat × Nat} {td : List Nat} {tv : Value} {bad : Bool} (h : LkM T w B kb sb lv n S R td tv bad) : StOut w sb n S R := by
  obtain ⟨cs, h1, _⟩ := h.stk
  exact ⟨lt_of_heap h1, fun i hi => h.slot hi, fun i s hs => ⟨own_cap (h.row i s hs).1, fun j hj => by rw [Nat.zero_add]; exact ownI_cell (h.row i s hs).1 hj⟩⟩

/-- [0], freshly laid. -/
theorem lit0_cell (w : World) (T : TypeId) (j : Nat) (hj : j < [(0 : Int)].length) : (w.alloc (.cells #[.int .i64 0] T)).cell? ⟨w.heap.size, 0 + j, none⟩ = some (.int .i64 ([(0 : Int)].getD j 0)) := by
  rw [Nat.zero_add, cell_of_heap (heap_alloc_new w _)]
  have : j = 0 := by simp at hj; omega
  subst this; rfl
/-- A stack [0] held against [0]. -/
theorem same0 {w : World} {b1 c1 a : Nat} (ha : a = w.heap.size) (h : [(0 : Int)].length ≤ c1 ∧ ∀ j, j < [(0 : Int)].length → w.cell? ⟨b1, 0 + j, none⟩ = some (.int .i64 ([(0 : Int)].getD j 0))) :
    Calls Tryd.prog 12 #[.slice (some ⟨b1, 0, none⟩) 1 c1, .slice (some ⟨a, 0, none⟩) 1 1] (w.alloc (.cells #[.int .i64 0] 3)) fun e w' => e = .returned (.bool true) ∧ Below w.heap.size w w' := by
  subst ha
  have hA : Below w.heap.size w (w.alloc (.cells #[.int .i64 0] 3)) := (Below.refl _ w).alloc (Nat.le_refl _) _
  refine (same_is [0] [0] (by decide) (by decide) (fun j hj => cell_below (h.2 j hj) hA) (lit0_cell w _) h.1 (by decide)).mono ?_
  rintro e w' ⟨rfl, k⟩
  exact ⟨by rw [decide_eq_true (rfl : [(0 : Int)] = [0])], hA.trans (k.mono hA.size)⟩

set_option maxHeartbeats 4000000 in
set_option maxRecDepth 100000 in
theorem cfirst_is (l : List Ins) (A : Option Addr) (c : Nat) (w : World) (hC : Kd.C insK w A l.length l) (hc : l.length ≤ c) (hb : l.length ≤ 9223372036854775807) :
    Calls Tryd.prog 5 #[.slice A l.length c] w fun e w' => e = .returned (.bool true) ∧ Below w.heap.size w w' := by
  have HA := Box.mk (awake16 w)
  have HC := Box.mk hC
  go_enter Tryd.func5, Tryd.ntmps5
  go_wp2_with fail
  refine HA.out.mono ?_
  rintro e w1 ⟨rfl, k1⟩
  have K1 := Box.mk k1
  have HC1 := Box.mk (Kd.C_below HC.out k1)
  obtain ⟨b, hsm, hS⟩ := small_is l HC1.out hc
  have HS := Box.mk hS
  have HSm := Box.mk hsm
  clear HA k1 hS hsm
  go_wp2_with fail
  refine HS.out.mono ?_
  rintro e w2 ⟨rfl, k2⟩
  have K2 : Box (Below w.heap.size w w2) := ⟨K1.out.trans (Below.mono k2 K1.out.size)⟩
  have HC2 := Box.mk (Kd.C_below HC1.out k2)
  clear k2 HS HC1 K1
  cases b with
  | false =>
    have HA := Box.mk (awake16 w2)
    go_wp2_with fail
    refine HA.out.mono ?_
    rintro e w3 ⟨rfl, k3⟩
    have K3 : Box (Below w.heap.size w w3) := ⟨K2.out.trans (Below.mono k3 K2.out.size)⟩
    clear HA k3
    go_wp2_with fail
    go_ret
    exact ⟨rfl, K3.out⟩
  | true =>
    obtain ⟨hl4, hsm⟩ := HSm.out rfl
    clear HSm
    have HSm := Box.mk hsm
    have HO := Box.mk (own_is l HC2.out hc (by omega) (fun j hj => by have := (hsm j hj).1; omega))
    clear hsm
    go_wp2_with fail
    refine HO.out.mono ?_
    rintro e w3 ⟨A', c', rfl, hC3, hc3, k3⟩
    have K3 : Box (Below w.heap.size w w3) := ⟨K2.out.trans (Below.mono k3 K2.out.size)⟩
    have HC3 := Box.mk hC3
    have HCx := Box.mk (Kd.C_below HC2.out k3)
    have HT := Box.mk (stacks_is l A' c' w3 hC3 hc3 (fun j hj => by have := (HSm.out j hj).1; omega) hb)
    clear k3 hC3 HO K2 HC2
    go_wp2_with fail
    refine HT.out.mono ?_
    rintro e w4 H4
    have K4 : Box (Below w.heap.size w w4) := ⟨K3.out.trans (Below.mono H4.keeps K3.out.size)⟩
    have HC4 := Box.mk (Kd.C_below HCx.out H4.keeps)
    by_cases hgo : chkB l = true ∧ StW (sL l)
    · obtain ⟨B, kb, sb, lv, S, R, td, tv, rfl, hM, hBz, hSO, hSt⟩ := H4.ok hgo.1 hgo.2
      have HM := Box.mk hM.out
      have HR := Box.mk hSt
      have HG := Box.mk hgo
      clear H4 hM hBz hSO hSt hgo HT K3 HC3 HCx
      have hn1 : 1 ≤ l.length := by
        have := HG.out.1
        unfold chkB at this
        simp only [Bool.and_eq_true, decide_eq_true_eq] at this
        exact this.1.1
      have hS0 := (HR.out 0 [0]).2 .zero
      have g0 := HM.out.slot 0 (by omega)
      rw [hS0] at g0
      simp only at g0
      obtain ⟨r0, hr0⟩ : ∃ r, R 0 = r := ⟨_, rfl⟩
      have hrow := HM.out.row 0 [0] hS0
      rw [hr0] at g0 hrow
      have g0' : w4.cell? ⟨sb, 0, none⟩ = some (.slice (some ⟨r0.1, 0, none⟩) 1 r0.2) := g0
      clear g0 hr0
      have HRow := Box.mk hrow
      clear hrow
      go_wp2_with fail
      refine (same0 rfl HRow.out).mono ?_
      rintro e w5 ⟨rfl, k5⟩
      have K5 : Box (Below w.heap.size w w5) := ⟨K4.out.trans (k5.mono K4.out.size)⟩
      have HC5 := Box.mk (Kd.C_below HC4.out k5)
      have HM5 := Box.mk (HM.out.below k5)
      clear k5 K4 HC4 HM HRow g0' hS0
      obtain ⟨n, hn⟩ : ∃ n, l.length = n := ⟨_, rfl⟩
      have Hn := Box.mk hn
      rw [hn] at hl4 hb hn1 hc hc3 HM5 ⊢
      clear hn
      go_wp2_with fail
      go_loopw [34] (fun i wr => ∃ (j : Nat), j ≤ n ∧ i = .int .i64 j ∧ Box (Below w5.heap.size w5 wr)) (fun i _ => n - (intOf i).toNat)
      case atStart => exact ⟨0, Nat.zero_le _, rfl, ⟨Below.refl _ _⟩⟩
      case round =>
        obtain ⟨j, hj, rfl, K⟩ := hrel
        by_cases hjn : j < n
        · have hj0 : (0 : Int) ≤ (j : Int) := by omega
          obtain ⟨b, o, hA, hbl, hI⟩ := isI_elem HC5.out (i := j) (by rw [Hn.out]; exact hjn)
          subst hA
          have hx : (sL l)[j]? = some (sIns (l.getD j insZ)) := sL_get l (by rw [Hn.out]; exact hjn)
          obtain ⟨y, hy⟩ : ∃ y, l.getD j insZ = y := ⟨_, rfl⟩
          rw [hy] at hI hx
          have hI' := hI.below K.out
          obtain ⟨c0, c1, c2, c3⟩ := hI'.ex
          obtain ⟨DA, dc, c4, c5, c6, c7, -⟩ := hI'.dat.ex
          rw [Nat.add_assoc] at c5 c6 c7
          have HX := Box.mk hx
          have HI : Box (insB n y = true) := ⟨by
            have h3 := HG.out.1
            unfold chkB at h3
            simp only [Bool.and_eq_true] at h3
            have := (all_getDI _ _).1 h3.2 j (by rw [Hn.out]; exact hjn)
            rw [hy, Hn.out] at this
            exact this⟩
          have g := (HM5.out.below K.out).slot j hjn
          have hsb := (HM5.out.below K.out).lt
          clear hI hI' hx hbl hy
          by_cases h9 : y.f0 = 9
          · have h1 : ∃ q, q < n ∧ y.f1 = (q : Int) := by
              have := HI.out
              unfold insB at this
              simp [h9] at this
              exact ⟨y.f1.toNat, by omega, by omega⟩
            obtain ⟨q, hq, hyq⟩ := h1
            cases hS : S j with
            | none =>
              rw [hS] at g
              simp only at g
              go_wp2_with fail
              go_roundw
              case rel => exact ⟨j + 1, by omega, by go_num, ⟨K.out.alloc K.out.size _⟩⟩
              case measure => simp [intOf]; omega
            | some s =>
              rw [hS] at g
              simp only at g
              have hst := (HR.out j s).1 hS
              have hm0 : 0 < s.length := by
                cases hs : s with
                | nil => exact absurd hs (stR_ne hst)
                | cons a l => simp
              have hw := HG.out.2 j s hst
              obtain ⟨m, hm⟩ : ∃ m, s.length = m := ⟨_, rfl⟩
              rw [hm] at g hm0
              have hSq := (HR.out q [0]).2 (.next hst HX.out (by
                unfold stNext sIns
                simp [h9, hyq]))
              have gq := (HM5.out.below K.out).slot q hq
              rw [hSq] at gq
              simp only at gq
              have gq' : wr.cell? ⟨sb, q, none⟩ = some (.slice (some ⟨(R q).1, 0, none⟩) 1 (R q).2) := gq
              obtain ⟨W, hW⟩ : ∃ W : World → World, W = fun u => u.alloc (.cells #[.int .i64 9, .int .i64 y.f1, .int .i64 y.f2, .string y.f3, .int .i64 y.f4.f0, .int .i64 y.f4.f1, .string y.f4.f2, .slice DA y.f4.f3.length dc] 44) := ⟨_, rfl⟩
              have hrow := (HM5.out.below K.out).row q [0] hSq
              have hWk : Below w5.heap.size w5 (W wr) := by rw [hW]; exact K.out.alloc K.out.size _
              have hWr : Below wr.heap.size wr (W wr) := by rw [hW]; exact (Below.refl _ _).alloc (Nat.le_refl _) _
              have HWk := Box.mk hWk
              have HSm2 := Box.mk (same0 (a := wr.heap.size + 1) (w := W wr) (by rw [hW]; simp) (b1 := (R q).1) (c1 := (R q).2) ⟨hrow.1, fun i hi => cell_below (hrow.2 i hi) hWr⟩)
              rw [hW] at HSm2 HWk
              rw [h9] at c0
              rw [hyq] at c1 HSm2 HWk
              clear hrow hWk hWr gq hSq hst hw hS HX HI hm hW hyq h9
              generalize y.f2 = z2, y.f3 = z3, y.f4.f0 = z4, y.f4.f1 = z5, y.f4.f2 = z6, y.f4.f3.length = z7 at *
              go_wp2_with fail
              refine HSm2.out.mono ?_
              rintro e w6 ⟨rfl, k6⟩
              have K6 := Box.mk (HWk.out.trans (k6.mono HWk.out.size))
              clear k6 HSm2 HWk c0 c1 c2 c3 c4 c5 c6 c7 g gq'
              go_wp2_with fail
              go_roundw
              case rel => exact ⟨j + 1, by omega, by go_num, K6⟩
              case measure => simp [intOf]; omega
          · have h9' : decide (y.f0 = 9) = false := decide_eq_false h9
            go_wp2_with fail
            go_roundw
            case rel => exact ⟨j + 1, by omega, by go_num, ⟨K.out.alloc K.out.size _⟩⟩
            case measure => simp [intOf]; omega
        · have hjn2 : j = n := by omega
          go_wp2_with fail
          go_ret
          exact ⟨rfl, K5.out.trans (Below.mono K.out K5.out.size)⟩
    · have he := H4.no hgo
      subst he
      clear H4 HT K3 HC3 HCx hgo
      go_wp2_with fail
      go_ret
      exact ⟨rfl, K4.out⟩

theorem CodeFirst_walk (v : Value) (w : World) (h : Reads Tryd.prog w 22 v) : Calls Tryd.prog 5 #[v] w fun e w' => e = .returned (.bool true) ∧ Below w.heap.size w w' := by
  obtain ⟨A, l, c, rfl, hc, hb, hC⟩ := code_reads h
  exact cfirst_is l A c w hC hc hb

end Go.Proofs.YtiimojpaeccajaaDoor
