/- The heap's class, place, at, by contracts. -/
import Derived.Test.YtbjlapfcnldpoaaTHead
namespace Go.Proofs.Ytbjlapfcnldpoaa
set_option linter.unusedVariables false
set_option linter.unusedSimpArgs false
open Go.RowKit

/-- A size as Go says it: -1: none. -/
def sizeI (c : Option Nat) : Int := match c with
  | some c => c
  | none => -1

theorem szAt0 (w : World) : (Instr.index 28 (.agg #[.int .i64 3, .int .i64 7, .int .i64 31, .int .i64 127]) (.int .i64 0)).run Try.prog w = .ok (.int .i64 3) w := by kernel_rfl
theorem szAt1 (w : World) : (Instr.index 28 (.agg #[.int .i64 3, .int .i64 7, .int .i64 31, .int .i64 127]) (.int .i64 1)).run Try.prog w = .ok (.int .i64 7) w := by kernel_rfl
theorem szAt2 (w : World) : (Instr.index 28 (.agg #[.int .i64 3, .int .i64 7, .int .i64 31, .int .i64 127]) (.int .i64 2)).run Try.prog w = .ok (.int .i64 31) w := by kernel_rfl
theorem szAt3 (w : World) : (Instr.index 28 (.agg #[.int .i64 3, .int .i64 7, .int .i64 31, .int .i64 127]) (.int .i64 3)).run Try.prog w = .ok (.int .i64 127) w := by kernel_rfl

set_option maxRecDepth 100000 in
set_option maxHeartbeats 2000000 in
theorem class_is {hb b g : Nat} {s : TH} {w : World} (x : Nat) (h : IsTH w hb b g s) (hx : x ≤ 1099511627776) :
    Calls Try.prog 101 #[.pointer (some ⟨hb, 0, none⟩), .int .i64 x] w fun e w' => e = .returned (.int .i64 (sizeI (tclass s x))) ∧ Keeps (fun _ => False) w w' := by
  have H := Box.mk h
  obtain ⟨r, hr⟩ : ∃ r, sizeI (tclass s x) = r := ⟨_, rfl⟩
  rw [hr]
  unfold tclass tclassAt at hr
  obtain ⟨s0, hs0⟩ : ∃ s0, s.start.getD 0 0 = s0 := ⟨_, rfl⟩
  obtain ⟨s1, hs1⟩ : ∃ s1, s.start.getD 1 0 = s1 := ⟨_, rfl⟩
  obtain ⟨s2, hs2⟩ : ∃ s2, s.start.getD 2 0 = s2 := ⟨_, rfl⟩
  obtain ⟨s3, hs3⟩ : ∃ s3, s.start.getD 3 0 = s3 := ⟨_, rfl⟩
  obtain ⟨s4, hs4⟩ : ∃ s4, s.start.getD 4 0 = s4 := ⟨_, rfl⟩
  simp only [Nat.zero_add, Nat.reduceAdd] at hr
  rw [hs0, hs1, hs2, hs3, hs4] at hr
  have Hr := Box.mk hr
  have Hs := Box.mk (And.intro hs0 (And.intro hs1 (And.intro hs2 (And.intro hs3 hs4))))
  clear h hr hs0 hs1 hs2 hs3 hs4
  have z0 := szAt0
  have z1 := szAt1
  have z2 := szAt2
  have z3 := szAt3
  go_enter Try.func101, Try.ntmps101
  go_wp2_with fail
  refine (sizes_is _).mono ?_
  rintro e w1 ⟨rfl, k1⟩
  have H1 := Box.mk (H.out.keeps0 k1)
  have K1 := Box.mk k1
  clear k1 H
  have c0 := H1.out.start (i := 0) (by decide)
  rw [Hs.out.1] at c0
  have c1 := H1.out.start (i := 1) (by decide)
  rw [Hs.out.2.1] at c1
  have c2 := H1.out.start (i := 2) (by decide)
  rw [Hs.out.2.2.1] at c2
  have c3 := H1.out.start (i := 3) (by decide)
  rw [Hs.out.2.2.2.1] at c3
  have c4 := H1.out.start (i := 4) (by decide)
  rw [Hs.out.2.2.2.2] at c4
  simp only [Nat.reduceAdd] at c0 c1 c2 c3 c4
  clear H1 Hs
  go_wp2_with fail
  refine wp_loop_rounds 5 ?_
  rw [rounds_succ]
  by_cases lo0 : s0 ≤ x
  · have lo0' : (s0 : Int) ≤ (x : Int) := by omega
    by_cases hi0 : x < s1
    · have hi0' : (x : Int) < (s1 : Int) := by omega
      have in0 : s0 ≤ x ∧ x < s1 := ⟨lo0, hi0⟩
      obtain ⟨q, hq⟩ : ∃ q : Nat, x - s0 = q := ⟨_, rfl⟩
      have hq2 : (x : Int) - (s0 : Int) = (q : Int) := by omega
      have hq3 : (q : Int).tmod 6 = ((q % 6 : Nat) : Int) := by rw [Int.tmod_eq_emod_of_nonneg (by omega)]; omega
      have hqb : q ≤ 1099511627776 := by omega
      have e := Hr.out
      simp only [in0, szs, hq, if_true, if_false, and_self] at e
      by_cases hm : q % 6 = 0
      · rw [hm] at hq3
        have e2 : (((0 : Nat) : Int)) = r := by rw [← e]; simp [hm, sizeI]
        clear e Hr hq hm in0
        go_wp2_with fail
        go_ret
        exact ⟨by rw [← e2]; rfl, K1.out⟩
      · have hm2 : (((q % 6 : Nat) : Int) != 0) = true := by rw [bne_iff_ne]; omega
        have e2 : (-1 : Int) = r := by rw [← e]; simp [hm, sizeI]
        clear e Hr hq in0
        generalize ((q % 6 : Nat) : Int) = z at *
        go_wp2_with fail
        go_ret
        exact ⟨by rw [← e2]; rfl, K1.out⟩
    · have hi0' : ¬ (x : Int) < (s1 : Int) := by omega
      have nin0 : ¬ (s0 ≤ x ∧ x < s1) := fun h => hi0 h.2
      go_wp2_with fail
      rw [rounds_succ]
      have lo1 : s1 ≤ x := by omega
      clear hi0'
      have lo1' : (s1 : Int) ≤ (x : Int) := by omega
      by_cases hi1 : x < s2
      · have hi1' : (x : Int) < (s2 : Int) := by omega
        have in1 : s1 ≤ x ∧ x < s2 := ⟨lo1, hi1⟩
        obtain ⟨q, hq⟩ : ∃ q : Nat, x - s1 = q := ⟨_, rfl⟩
        have hq2 : (x : Int) - (s1 : Int) = (q : Int) := by omega
        have hq3 : (q : Int).tmod 10 = ((q % 10 : Nat) : Int) := by rw [Int.tmod_eq_emod_of_nonneg (by omega)]; omega
        have hqb : q ≤ 1099511627776 := by omega
        have e := Hr.out
        simp only [nin0, in1, szs, hq, if_true, if_false, and_self] at e
        by_cases hm : q % 10 = 0
        · rw [hm] at hq3
          have e2 : (((1 : Nat) : Int)) = r := by rw [← e]; simp [hm, sizeI]
          clear e Hr hq hm in1
          go_wp2_with fail
          go_ret
          exact ⟨by rw [← e2]; rfl, K1.out⟩
        · have hm2 : (((q % 10 : Nat) : Int) != 0) = true := by rw [bne_iff_ne]; omega
          have e2 : (-1 : Int) = r := by rw [← e]; simp [hm, sizeI]
          clear e Hr hq in1
          generalize ((q % 10 : Nat) : Int) = z at *
          go_wp2_with fail
          go_ret
          exact ⟨by rw [← e2]; rfl, K1.out⟩
      · have hi1' : ¬ (x : Int) < (s2 : Int) := by omega
        have nin1 : ¬ (s1 ≤ x ∧ x < s2) := fun h => hi1 h.2
        go_wp2_with fail
        rw [rounds_succ]
        have lo2 : s2 ≤ x := by omega
        clear hi1'
        have lo2' : (s2 : Int) ≤ (x : Int) := by omega
        by_cases hi2 : x < s3
        · have hi2' : (x : Int) < (s3 : Int) := by omega
          have in2 : s2 ≤ x ∧ x < s3 := ⟨lo2, hi2⟩
          obtain ⟨q, hq⟩ : ∃ q : Nat, x - s2 = q := ⟨_, rfl⟩
          have hq2 : (x : Int) - (s2 : Int) = (q : Int) := by omega
          have hq3 : (q : Int).tmod 34 = ((q % 34 : Nat) : Int) := by rw [Int.tmod_eq_emod_of_nonneg (by omega)]; omega
          have hqb : q ≤ 1099511627776 := by omega
          have e := Hr.out
          simp only [nin0, nin1, in2, szs, hq, if_true, if_false, and_self] at e
          by_cases hm : q % 34 = 0
          · rw [hm] at hq3
            have e2 : (((2 : Nat) : Int)) = r := by rw [← e]; simp [hm, sizeI]
            clear e Hr hq hm in2
            go_wp2_with fail
            go_ret
            exact ⟨by rw [← e2]; rfl, K1.out⟩
          · have hm2 : (((q % 34 : Nat) : Int) != 0) = true := by rw [bne_iff_ne]; omega
            have e2 : (-1 : Int) = r := by rw [← e]; simp [hm, sizeI]
            clear e Hr hq in2
            generalize ((q % 34 : Nat) : Int) = z at *
            go_wp2_with fail
            go_ret
            exact ⟨by rw [← e2]; rfl, K1.out⟩
        · have hi2' : ¬ (x : Int) < (s3 : Int) := by omega
          have nin2 : ¬ (s2 ≤ x ∧ x < s3) := fun h => hi2 h.2
          go_wp2_with fail
          rw [rounds_succ]
          have lo3 : s3 ≤ x := by omega
          clear hi2'
          have lo3' : (s3 : Int) ≤ (x : Int) := by omega
          by_cases hi3 : x < s4
          · have hi3' : (x : Int) < (s4 : Int) := by omega
            have in3 : s3 ≤ x ∧ x < s4 := ⟨lo3, hi3⟩
            obtain ⟨q, hq⟩ : ∃ q : Nat, x - s3 = q := ⟨_, rfl⟩
            have hq2 : (x : Int) - (s3 : Int) = (q : Int) := by omega
            have hq3 : (q : Int).tmod 130 = ((q % 130 : Nat) : Int) := by rw [Int.tmod_eq_emod_of_nonneg (by omega)]; omega
            have hqb : q ≤ 1099511627776 := by omega
            have e := Hr.out
            simp only [nin0, nin1, nin2, in3, szs, hq, if_true, if_false, and_self] at e
            by_cases hm : q % 130 = 0
            · rw [hm] at hq3
              have e2 : (((3 : Nat) : Int)) = r := by rw [← e]; simp [hm, sizeI]
              clear e Hr hq hm in3
              go_wp2_with fail
              go_ret
              exact ⟨by rw [← e2]; rfl, K1.out⟩
            · have hm2 : (((q % 130 : Nat) : Int) != 0) = true := by rw [bne_iff_ne]; omega
              have e2 : (-1 : Int) = r := by rw [← e]; simp [hm, sizeI]
              clear e Hr hq in3
              generalize ((q % 130 : Nat) : Int) = z at *
              go_wp2_with fail
              go_ret
              exact ⟨by rw [← e2]; rfl, K1.out⟩
          · have hi3' : ¬ (x : Int) < (s4 : Int) := by omega
            have nin3 : ¬ (s3 ≤ x ∧ x < s4) := fun h => hi3 h.2
            go_wp2_with fail
            rw [rounds_succ]
            go_wp2_with fail
            go_ret
            have e := Hr.out
            simp only [nin0, nin1, nin2, nin3, if_false] at e
            exact ⟨by rw [← e]; rfl, K1.out⟩
  · have lo0' : ¬ (s0 : Int) ≤ (x : Int) := by omega
    have nin0 : ¬ (s0 ≤ x ∧ x < s1) := fun h => lo0 h.1
    go_wp2_with fail
    rw [rounds_succ]
    by_cases lo1 : s1 ≤ x
    · have lo1' : (s1 : Int) ≤ (x : Int) := by omega
      by_cases hi1 : x < s2
      · have hi1' : (x : Int) < (s2 : Int) := by omega
        have in1 : s1 ≤ x ∧ x < s2 := ⟨lo1, hi1⟩
        obtain ⟨q, hq⟩ : ∃ q : Nat, x - s1 = q := ⟨_, rfl⟩
        have hq2 : (x : Int) - (s1 : Int) = (q : Int) := by omega
        have hq3 : (q : Int).tmod 10 = ((q % 10 : Nat) : Int) := by rw [Int.tmod_eq_emod_of_nonneg (by omega)]; omega
        have hqb : q ≤ 1099511627776 := by omega
        have e := Hr.out
        simp only [nin0, in1, szs, hq, if_true, if_false, and_self] at e
        by_cases hm : q % 10 = 0
        · rw [hm] at hq3
          have e2 : (((1 : Nat) : Int)) = r := by rw [← e]; simp [hm, sizeI]
          clear e Hr hq hm in1
          go_wp2_with fail
          go_ret
          exact ⟨by rw [← e2]; rfl, K1.out⟩
        · have hm2 : (((q % 10 : Nat) : Int) != 0) = true := by rw [bne_iff_ne]; omega
          have e2 : (-1 : Int) = r := by rw [← e]; simp [hm, sizeI]
          clear e Hr hq in1
          generalize ((q % 10 : Nat) : Int) = z at *
          go_wp2_with fail
          go_ret
          exact ⟨by rw [← e2]; rfl, K1.out⟩
      · have hi1' : ¬ (x : Int) < (s2 : Int) := by omega
        have nin1 : ¬ (s1 ≤ x ∧ x < s2) := fun h => hi1 h.2
        go_wp2_with fail
        rw [rounds_succ]
        have lo2 : s2 ≤ x := by omega
        clear hi1'
        have lo2' : (s2 : Int) ≤ (x : Int) := by omega
        by_cases hi2 : x < s3
        · have hi2' : (x : Int) < (s3 : Int) := by omega
          have in2 : s2 ≤ x ∧ x < s3 := ⟨lo2, hi2⟩
          obtain ⟨q, hq⟩ : ∃ q : Nat, x - s2 = q := ⟨_, rfl⟩
          have hq2 : (x : Int) - (s2 : Int) = (q : Int) := by omega
          have hq3 : (q : Int).tmod 34 = ((q % 34 : Nat) : Int) := by rw [Int.tmod_eq_emod_of_nonneg (by omega)]; omega
          have hqb : q ≤ 1099511627776 := by omega
          have e := Hr.out
          simp only [nin0, nin1, in2, szs, hq, if_true, if_false, and_self] at e
          by_cases hm : q % 34 = 0
          · rw [hm] at hq3
            have e2 : (((2 : Nat) : Int)) = r := by rw [← e]; simp [hm, sizeI]
            clear e Hr hq hm in2
            go_wp2_with fail
            go_ret
            exact ⟨by rw [← e2]; rfl, K1.out⟩
          · have hm2 : (((q % 34 : Nat) : Int) != 0) = true := by rw [bne_iff_ne]; omega
            have e2 : (-1 : Int) = r := by rw [← e]; simp [hm, sizeI]
            clear e Hr hq in2
            generalize ((q % 34 : Nat) : Int) = z at *
            go_wp2_with fail
            go_ret
            exact ⟨by rw [← e2]; rfl, K1.out⟩
        · have hi2' : ¬ (x : Int) < (s3 : Int) := by omega
          have nin2 : ¬ (s2 ≤ x ∧ x < s3) := fun h => hi2 h.2
          go_wp2_with fail
          rw [rounds_succ]
          have lo3 : s3 ≤ x := by omega
          clear hi2'
          have lo3' : (s3 : Int) ≤ (x : Int) := by omega
          by_cases hi3 : x < s4
          · have hi3' : (x : Int) < (s4 : Int) := by omega
            have in3 : s3 ≤ x ∧ x < s4 := ⟨lo3, hi3⟩
            obtain ⟨q, hq⟩ : ∃ q : Nat, x - s3 = q := ⟨_, rfl⟩
            have hq2 : (x : Int) - (s3 : Int) = (q : Int) := by omega
            have hq3 : (q : Int).tmod 130 = ((q % 130 : Nat) : Int) := by rw [Int.tmod_eq_emod_of_nonneg (by omega)]; omega
            have hqb : q ≤ 1099511627776 := by omega
            have e := Hr.out
            simp only [nin0, nin1, nin2, in3, szs, hq, if_true, if_false, and_self] at e
            by_cases hm : q % 130 = 0
            · rw [hm] at hq3
              have e2 : (((3 : Nat) : Int)) = r := by rw [← e]; simp [hm, sizeI]
              clear e Hr hq hm in3
              go_wp2_with fail
              go_ret
              exact ⟨by rw [← e2]; rfl, K1.out⟩
            · have hm2 : (((q % 130 : Nat) : Int) != 0) = true := by rw [bne_iff_ne]; omega
              have e2 : (-1 : Int) = r := by rw [← e]; simp [hm, sizeI]
              clear e Hr hq in3
              generalize ((q % 130 : Nat) : Int) = z at *
              go_wp2_with fail
              go_ret
              exact ⟨by rw [← e2]; rfl, K1.out⟩
          · have hi3' : ¬ (x : Int) < (s4 : Int) := by omega
            have nin3 : ¬ (s3 ≤ x ∧ x < s4) := fun h => hi3 h.2
            go_wp2_with fail
            rw [rounds_succ]
            go_wp2_with fail
            go_ret
            have e := Hr.out
            simp only [nin0, nin1, nin2, nin3, if_false] at e
            exact ⟨by rw [← e]; rfl, K1.out⟩
    · have lo1' : ¬ (s1 : Int) ≤ (x : Int) := by omega
      have nin1 : ¬ (s1 ≤ x ∧ x < s2) := fun h => lo1 h.1
      go_wp2_with fail
      rw [rounds_succ]
      by_cases lo2 : s2 ≤ x
      · have lo2' : (s2 : Int) ≤ (x : Int) := by omega
        by_cases hi2 : x < s3
        · have hi2' : (x : Int) < (s3 : Int) := by omega
          have in2 : s2 ≤ x ∧ x < s3 := ⟨lo2, hi2⟩
          obtain ⟨q, hq⟩ : ∃ q : Nat, x - s2 = q := ⟨_, rfl⟩
          have hq2 : (x : Int) - (s2 : Int) = (q : Int) := by omega
          have hq3 : (q : Int).tmod 34 = ((q % 34 : Nat) : Int) := by rw [Int.tmod_eq_emod_of_nonneg (by omega)]; omega
          have hqb : q ≤ 1099511627776 := by omega
          have e := Hr.out
          simp only [nin0, nin1, in2, szs, hq, if_true, if_false, and_self] at e
          by_cases hm : q % 34 = 0
          · rw [hm] at hq3
            have e2 : (((2 : Nat) : Int)) = r := by rw [← e]; simp [hm, sizeI]
            clear e Hr hq hm in2
            go_wp2_with fail
            go_ret
            exact ⟨by rw [← e2]; rfl, K1.out⟩
          · have hm2 : (((q % 34 : Nat) : Int) != 0) = true := by rw [bne_iff_ne]; omega
            have e2 : (-1 : Int) = r := by rw [← e]; simp [hm, sizeI]
            clear e Hr hq in2
            generalize ((q % 34 : Nat) : Int) = z at *
            go_wp2_with fail
            go_ret
            exact ⟨by rw [← e2]; rfl, K1.out⟩
        · have hi2' : ¬ (x : Int) < (s3 : Int) := by omega
          have nin2 : ¬ (s2 ≤ x ∧ x < s3) := fun h => hi2 h.2
          go_wp2_with fail
          rw [rounds_succ]
          have lo3 : s3 ≤ x := by omega
          clear hi2'
          have lo3' : (s3 : Int) ≤ (x : Int) := by omega
          by_cases hi3 : x < s4
          · have hi3' : (x : Int) < (s4 : Int) := by omega
            have in3 : s3 ≤ x ∧ x < s4 := ⟨lo3, hi3⟩
            obtain ⟨q, hq⟩ : ∃ q : Nat, x - s3 = q := ⟨_, rfl⟩
            have hq2 : (x : Int) - (s3 : Int) = (q : Int) := by omega
            have hq3 : (q : Int).tmod 130 = ((q % 130 : Nat) : Int) := by rw [Int.tmod_eq_emod_of_nonneg (by omega)]; omega
            have hqb : q ≤ 1099511627776 := by omega
            have e := Hr.out
            simp only [nin0, nin1, nin2, in3, szs, hq, if_true, if_false, and_self] at e
            by_cases hm : q % 130 = 0
            · rw [hm] at hq3
              have e2 : (((3 : Nat) : Int)) = r := by rw [← e]; simp [hm, sizeI]
              clear e Hr hq hm in3
              go_wp2_with fail
              go_ret
              exact ⟨by rw [← e2]; rfl, K1.out⟩
            · have hm2 : (((q % 130 : Nat) : Int) != 0) = true := by rw [bne_iff_ne]; omega
              have e2 : (-1 : Int) = r := by rw [← e]; simp [hm, sizeI]
              clear e Hr hq in3
              generalize ((q % 130 : Nat) : Int) = z at *
              go_wp2_with fail
              go_ret
              exact ⟨by rw [← e2]; rfl, K1.out⟩
          · have hi3' : ¬ (x : Int) < (s4 : Int) := by omega
            have nin3 : ¬ (s3 ≤ x ∧ x < s4) := fun h => hi3 h.2
            go_wp2_with fail
            rw [rounds_succ]
            go_wp2_with fail
            go_ret
            have e := Hr.out
            simp only [nin0, nin1, nin2, nin3, if_false] at e
            exact ⟨by rw [← e]; rfl, K1.out⟩
      · have lo2' : ¬ (s2 : Int) ≤ (x : Int) := by omega
        have nin2 : ¬ (s2 ≤ x ∧ x < s3) := fun h => lo2 h.1
        go_wp2_with fail
        rw [rounds_succ]
        by_cases lo3 : s3 ≤ x
        · have lo3' : (s3 : Int) ≤ (x : Int) := by omega
          by_cases hi3 : x < s4
          · have hi3' : (x : Int) < (s4 : Int) := by omega
            have in3 : s3 ≤ x ∧ x < s4 := ⟨lo3, hi3⟩
            obtain ⟨q, hq⟩ : ∃ q : Nat, x - s3 = q := ⟨_, rfl⟩
            have hq2 : (x : Int) - (s3 : Int) = (q : Int) := by omega
            have hq3 : (q : Int).tmod 130 = ((q % 130 : Nat) : Int) := by rw [Int.tmod_eq_emod_of_nonneg (by omega)]; omega
            have hqb : q ≤ 1099511627776 := by omega
            have e := Hr.out
            simp only [nin0, nin1, nin2, in3, szs, hq, if_true, if_false, and_self] at e
            by_cases hm : q % 130 = 0
            · rw [hm] at hq3
              have e2 : (((3 : Nat) : Int)) = r := by rw [← e]; simp [hm, sizeI]
              clear e Hr hq hm in3
              go_wp2_with fail
              go_ret
              exact ⟨by rw [← e2]; rfl, K1.out⟩
            · have hm2 : (((q % 130 : Nat) : Int) != 0) = true := by rw [bne_iff_ne]; omega
              have e2 : (-1 : Int) = r := by rw [← e]; simp [hm, sizeI]
              clear e Hr hq in3
              generalize ((q % 130 : Nat) : Int) = z at *
              go_wp2_with fail
              go_ret
              exact ⟨by rw [← e2]; rfl, K1.out⟩
          · have hi3' : ¬ (x : Int) < (s4 : Int) := by omega
            have nin3 : ¬ (s3 ≤ x ∧ x < s4) := fun h => hi3 h.2
            go_wp2_with fail
            rw [rounds_succ]
            go_wp2_with fail
            go_ret
            have e := Hr.out
            simp only [nin0, nin1, nin2, nin3, if_false] at e
            exact ⟨by rw [← e]; rfl, K1.out⟩
        · have lo3' : ¬ (s3 : Int) ≤ (x : Int) := by omega
          have nin3 : ¬ (s3 ≤ x ∧ x < s4) := fun h => lo3 h.1
          go_wp2_with fail
          rw [rounds_succ]
          go_wp2_with fail
          go_ret
          have e := Hr.out
          simp only [nin0, nin1, nin2, nin3, if_false] at e
          exact ⟨by rw [← e]; rfl, K1.out⟩

/-- What place answers. -/
structure PlaceSaid (s : TH) (x : Nat) (w : World) (e : Ending) (w' : World) : Prop where
  said : ∃ p c ok, e = .returned (.tuple #[.int .i64 p, .int .i64 c, .bool ok]) ∧ ok = (tplace s x).isSome ∧ ∀ q k, tplace s x = some (q, k) → p = (q : Int) ∧ c = (k : Int)
  keeps : Keeps (fun _ => False) w w'

theorem wkind_cell (x : Nat) (hx : x < 18446744073709551616) : (wkind (x : Int) = 2 ↔ tcell x = true) ∧ (tcell x = true → wvalue (x : Int) = ((x / 8 : Nat) : Int)) := by
  unfold tcell wvalue wkind wmost wtag wnum wrap64
  constructor
  · simp only [Bool.and_eq_true, beq_iff_eq, decide_eq_true_eq]
    constructor
    · intro h
      repeat' split at h
      all_goals omega
    · rintro ⟨h1, h2⟩
      repeat' split
      all_goals omega
  · simp only [Bool.and_eq_true, beq_iff_eq, decide_eq_true_eq]
    rintro ⟨h1, h2⟩
    repeat' split
    all_goals omega

set_option maxRecDepth 100000 in
set_option maxHeartbeats 1000000 in
theorem place_is {hb b g : Nat} {s : TH} {w : World} (x : Nat) (h : IsTH w hb b g s) (hx : x < 18446744073709551616) :
    Calls Try.prog 76 #[.pointer (some ⟨hb, 0, none⟩), .int .u64 x] w fun e w' => PlaceSaid s x w e w' := by
  have H := Box.mk h
  obtain ⟨hk1, hk2⟩ := wkind_cell x hx
  clear h
  by_cases hc : tcell x = true
  · have hk := hk1.2 hc
    have hv := hk2 hc
    have hle : x / 8 ≤ 1099511627776 := by
      unfold tcell at hc
      simp only [Bool.and_eq_true, beq_iff_eq, decide_eq_true_eq] at hc
      exact hc.2
    obtain ⟨q, hq⟩ : ∃ q, x / 8 = q := ⟨_, rfl⟩
    rw [hq] at hv hle
    have HP : Box (tplace s x = (tclass s q).map (fun c => (q, c))) := ⟨by unfold tplace; rw [if_pos hc, hq]⟩
    clear hk1 hk2 hc hq
    have HX := Box.mk (show IsWd (x : Int) from ⟨by omega, by omega⟩)
    have Hk := Box.mk hk
    have Hv := Box.mk hv
    clear hk hv hx
    go_enter Try.func76, Try.ntmps76
    go_wp2_with fail
    refine (wkind_is _ _ HX.out).mono ?_
    rintro e w1 ⟨rfl, rfl⟩
    rw [Hk.out]
    go_wp2_with fail
    refine (wvalue_is _ _ HX.out).mono ?_
    rintro e w1 ⟨rfl, rfl⟩
    rw [Hv.out]
    go_wp2_with fail
    refine (class_is q H.out hle).mono ?_
    rintro e w1 ⟨rfl, k1⟩
    have K1 := Box.mk k1
    clear k1
    cases hcl : tclass s q with
    | none =>
      have HP2 : Box (tplace s x = none) := ⟨by rw [HP.out, hcl]; rfl⟩
      clear HP hcl
      show _
      simp only [sizeI]
      go_wp2_with fail
      exact bodyPost_ret (v := .tuple #[.int .i64 (q : Int), .int .i64 (-1), .bool false]) (by simp [results, Try.results76, go_sem]) rfl ⟨⟨_, _, _, rfl, by rw [HP2.out]; rfl, fun q k h => by rw [HP2.out] at h; cases h⟩, K1.out⟩
    | some c =>
      have HP2 : Box (tplace s x = some (q, c)) := ⟨by rw [HP.out, hcl]; rfl⟩
      clear HP hcl
      simp only [sizeI]
      go_wp2_with fail
      exact bodyPost_ret (v := .tuple #[.int .i64 (q : Int), .int .i64 (c : Int), .bool true]) (by simp [results, Try.results76, go_sem]) rfl ⟨⟨_, _, _, rfl, by rw [HP2.out]; rfl, fun q' k' h => by rw [HP2.out] at h; cases h; exact ⟨rfl, rfl⟩⟩, K1.out⟩
  · have hk : ¬ wkind (x : Int) = 2 := fun e => hc (hk1.1 e)
    have HP : Box (tplace s x = none) := ⟨by unfold tplace; rw [if_neg hc]⟩
    have hk2' : (wkind (x : Int) != 2) = true := by rw [bne_iff_ne]; exact hk
    have HX := Box.mk (show IsWd (x : Int) from ⟨by omega, by omega⟩)
    clear hk1 hk2 hc hk hx
    go_enter Try.func76, Try.ntmps76
    go_wp2_with fail
    refine (wkind_is _ _ HX.out).mono ?_
    rintro e w1 ⟨rfl, rfl⟩
    generalize wkind (x : Int) = kk at *
    go_wp2_with fail
    exact bodyPost_ret (v := .tuple #[.int .i64 0, .int .i64 0, .bool false]) (by simp [results, Try.results76, go_sem]) rfl ⟨⟨_, _, _, rfl, by rw [HP.out]; rfl, fun q k h => by rw [HP.out] at h; cases h⟩, Keeps.refl _ _⟩

set_option maxRecDepth 100000 in
set_option maxHeartbeats 1000000 in
theorem at_is {hb b g : Nat} {s : TH} {w : World} (x : Nat) {h : Nat} (hI : IsTH w hb b g s) (hr : rdh s.W x = some h) :
    Calls Try.prog 77 #[.pointer (some ⟨hb, 0, none⟩), .int .i64 x] w fun e w' => e = .returned (hval (hform h) (htag h) (hmark h) (hn h)) ∧ IsTH w' hb b g s ∧ Keeps (foot3 hb b g) w w' := by
  unfold rdh at hr
  split at hr
  · rename_i hc
    injection hr with hr
    obtain ⟨hx, hlt⟩ := hc
    rw [hr] at hlt
    have Hr := Box.mk hr
    clear hr
    have ka := (Keeps.refl (fun _ => False) w).alloc (.cells #[.int .i64 0, .int .i64 0, .int .i64 0, .int .i64 0] 110)
    have H := Box.mk (hI.keeps0 ka)
    have hs := H.out.store
    have KA := Box.mk ka
    have hh := heap_alloc_new w (.cells #[.int .i64 0, .int .i64 0, .int .i64 0, .int .i64 0] 110)
    obtain ⟨a, ha⟩ : ∃ a, w.heap.size = a := ⟨_, rfl⟩
    have hlts := hI.lt
    rw [ha] at hlts hh
    have Ha := Box.mk ha
    clear hI ka ha
    go_enter Try.func77, Try.ntmps77
    go_wp2_with fail
    refine (wget_is H.out.iw hx).mono ?_
    rw [Hr.out]
    rintro e w1 ⟨rfl, hI1, k1⟩
    have H1 := Box.mk (H.out.ring k1 hI1)
    have hh1 := k1.heap hh (by unfold foot; omega)
    have K1 := Box.mk ((KA.out.mono (S' := foot3 hb b g) (fun _ _ h => h.elim)).trans (k1.mono (S' := foot3 hb b g) (fun i _ h => Or.inr h)))
    clear k1 hI1 hh H KA hs
    go_wp2_with fail
    refine (opened_is h _ hlt).mono ?_
    rintro e w2 ⟨rfl, k2⟩
    rw [Ha.out]
    have hh2 := k2.heap hh1 (fun h => h)
    have H2 := Box.mk (H1.out.keeps0 k2)
    have K2 := Box.mk (K1.out.trans (k2.mono (S' := foot3 hb b g) (fun _ _ h => h.elim)))
    have c0 := cell_of_heap hh2 0
    have c1 := cell_of_heap hh2 1
    have c2 := cell_of_heap hh2 2
    have c3 := cell_of_heap hh2 3
    have f0 := frozen_of_heap hh2 0
    have f1 := frozen_of_heap hh2 1
    have f2 := frozen_of_heap hh2 2
    have f3 := frozen_of_heap hh2 3
    simp only [List.getElem?_toArray, List.getElem?_cons_zero, List.getElem?_cons_succ] at c0 c1 c2 c3
    have hlt2 := k2.size
    clear k2 hh1 hh2 H1 K1
    unfold hval
    obtain ⟨vf, hvf⟩ : ∃ vf, hform h = vf := ⟨_, rfl⟩
    obtain ⟨vt, hvt⟩ : ∃ vt, htag h = vt := ⟨_, rfl⟩
    obtain ⟨vm, hvm⟩ : ∃ vm, hmark h = vm := ⟨_, rfl⟩
    obtain ⟨vn, hvn⟩ : ∃ vn, hn h = vn := ⟨_, rfl⟩
    rw [hvf, hvt, hvm, hvn]
    have Hv := Box.mk (And.intro hvf (And.intro hvt (And.intro hvm hvn)))
    clear hvf hvt hvm hvn
    go_wp2_with fail
    have kz : Keeps (fun z => z = a) w2 ((((w2.setCell ⟨a, 0, none⟩ (.int .i64 vf)).setCell ⟨a, 1, none⟩ (.int .i64 vt)).setCell ⟨a, 2, none⟩ (.int .i64 vm)).setCell ⟨a, 3, none⟩ (.int .i64 vn)) :=
      ((((Keeps.refl (fun z => z = a) w2).setCell (p := ⟨a, 0, none⟩) (fun _ => rfl) _).setCell (p := ⟨a, 1, none⟩) (fun _ => rfl) _).setCell (p := ⟨a, 2, none⟩) (fun _ => rfl) _).setCell (p := ⟨a, 3, none⟩) (fun _ => rfl) _
    exact bodyPost_ret (v := .agg #[.int .i64 (vf : Int), .int .i64 (vt : Int), .int .i64 (vm : Int), .int .i64 (vn : Int)]) (by simp [results, Try.results77, go_sem, c0, c1, c2, c3]) rfl ⟨by rw [Hv.out.1, Hv.out.2.1, Hv.out.2.2.1, Hv.out.2.2.2]; rfl, H2.out.keeps kz (by omega) (by omega) (by omega), K2.out.trans' kz (fun i hi h => by have := Ha.out; omega)⟩
  · cases hr

end Go.Proofs.Ytbjlapfcnldpoaa
