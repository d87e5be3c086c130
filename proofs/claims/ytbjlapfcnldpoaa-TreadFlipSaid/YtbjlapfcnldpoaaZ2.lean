/- Part 2 of 11 of this proof's own texts, joined in build order by a program. -/
import Derived.Test.YtbjlapfcnldpoaaZ1
import Derived.Deep.RegionHeld3
/- The heap's class, place, at, by contracts. -/
namespace Go.Proofs.Ytbjlapfcnldpoaa
set_option linter.unusedVariables false
set_option linter.unusedSimpArgs false
open Go.RowKit

/-- A size as Go says it: -1: none. -/
def sizeI (c : Option Nat) : Int := match c with
  | some c => c
  | none => -1

theorem szAt0 (w : World) : (Instr.index 28 (.agg #[.int .i64 3, .int .i64 7, .int .i64 31, .int .i64 127]) (.int .i64 0)).run Try.prog w = .ok (.int .i64 3) w := by kernel_rfl
theorem szAt1 (w : World) : (Instr.index 28 (.agg #[.int .i64 3, .int .i64 7, .int .i64 31, .int .i64 127]) (.int .i64 1)).run Try.prog w = .ok (.int .i64 7) w := by kernel_rfl
theorem szAt2 (w : World) : (Instr.index 28 (.agg #[.int .i64 3, .int .i64 7, .int .i64 31, .int .i64 127]) (.int .i64 2)).run Try.prog w = .ok (.int .i64 31) w := by kernel_rfl
theorem szAt3 (w : World) : (Instr.index 28 (.agg #[.int .i64 3, .int .i64 7, .int .i64 31, .int .i64 127]) (.int .i64 3)).run Try.prog w = .ok (.int .i64 127) w := by kernel_rfl

set_option maxRecDepth 100000 in
set_option maxHeartbeats 2000000 in
theorem class_is {hb b g : Nat} {s : TH} {w : World} (x : Nat) (h : IsTH w hb b g s) (hx : x ≤ 1099511627776) :
    Calls Try.prog 101 #[.pointer (some ⟨hb, 0, none⟩), .int .i64 x] w fun e w' => e = .returned (.int .i64 (sizeI (tclass s x))) ∧ Keeps (fun _ => False) w w' := by
  have H := Box.mk h
  obtain ⟨r, hr⟩ : ∃ r, sizeI (tclass s x) = r := ⟨_, rfl⟩
  rw [hr]
  unfold tclass tclassAt at hr
  obtain ⟨s0, hs0⟩ : ∃ s0, s.start.getD 0 0 = s0 := ⟨_, rfl⟩
  obtain ⟨s1, hs1⟩ : ∃ s1, s.start.getD 1 0 = s1 := ⟨_, rfl⟩
  obtain ⟨s2, hs2⟩ : ∃ s2, s.start.getD 2 0 = s2 := ⟨_, rfl⟩
  obtain ⟨s3, hs3⟩ : ∃ s3, s.start.getD 3 0 = s3 := ⟨_, rfl⟩
  obtain ⟨s4, hs4⟩ : ∃ s4, s.start.getD 4 0 = s4 := ⟨_, rfl⟩
  simp only [Nat.zero_add, Nat.reduceAdd] at hr
  rw [hs0, hs1, hs2, hs3, hs4] at hr
  have Hr := Box.mk hr
  have Hs := Box.mk (And.intro hs0 (And.intro hs1 (And.intro hs2 (And.intro hs3 hs4))))
  clear h hr hs0 hs1 hs2 hs3 hs4
  have z0 := szAt0
  have z1 := szAt1
  have z2 := szAt2
  have z3 := szAt3
  go_enter Try.func101, Try.ntmps101
  go_wp2_with fail
  refine (sizes_is _).mono ?_
  rintro e w1 ⟨rfl, k1⟩
  have H1 := Box.mk (H.out.keeps0 k1)
  have K1 := Box.mk k1
  clear k1 H
  have c0 := H1.out.start (i := 0) (by decide)
  rw [Hs.out.1] at c0
  have c1 := H1.out.start (i := 1) (by decide)
  rw [Hs.out.2.1] at c1
  have c2 := H1.out.start (i := 2) (by decide)
  rw [Hs.out.2.2.1] at c2
  have c3 := H1.out.start (i := 3) (by decide)
  rw [Hs.out.2.2.2.1] at c3
  have c4 := H1.out.start (i := 4) (by decide)
  rw [Hs.out.2.2.2.2] at c4
  simp only [Nat.reduceAdd] at c0 c1 c2 c3 c4
  clear H1 Hs
  go_wp2_with fail
  refine wp_loop_rounds 5 ?_
  rw [rounds_succ]
  by_cases lo0 : s0 ≤ x
  · have lo0' : (s0 : Int) ≤ (x : Int) := by omega
    by_cases hi0 : x < s1
    · have hi0' : (x : Int) < (s1 : Int) := by omega
      have in0 : s0 ≤ x ∧ x < s1 := ⟨lo0, hi0⟩
      obtain ⟨q, hq⟩ : ∃ q : Nat, x - s0 = q := ⟨_, rfl⟩
      have hq2 : (x : Int) - (s0 : Int) = (q : Int) := by omega
      have hq3 : (q : Int).tmod 6 = ((q % 6 : Nat) : Int) := by rw [Int.tmod_eq_emod_of_nonneg (by omega)]; omega
      have hqb : q ≤ 1099511627776 := by omega
      have e := Hr.out
      simp only [in0, szs, hq, if_true, if_false, and_self] at e
      by_cases hm : q % 6 = 0
      · rw [hm] at hq3
        have e2 : (((0 : Nat) : Int)) = r := by rw [← e]; simp [hm, sizeI]
        clear e Hr hq hm in0
        go_wp2_with fail
        go_ret
        exact ⟨by rw [← e2]; rfl, K1.out⟩
      · have hm2 : (((q % 6 : Nat) : Int) != 0) = true := by rw [bne_iff_ne]; omega
        have e2 : (-1 : Int) = r := by rw [← e]; simp [hm, sizeI]
        clear e Hr hq in0
        generalize ((q % 6 : Nat) : Int) = z at *
        go_wp2_with fail
        go_ret
        exact ⟨by rw [← e2]; rfl, K1.out⟩
    · have hi0' : ¬ (x : Int) < (s1 : Int) := by omega
      have nin0 : ¬ (s0 ≤ x ∧ x < s1) := fun h => hi0 h.2
      go_wp2_with fail
      rw [rounds_succ]
      have lo1 : s1 ≤ x := by omega
      clear hi0'
      have lo1' : (s1 : Int) ≤ (x : Int) := by omega
      by_cases hi1 : x < s2
      · have hi1' : (x : Int) < (s2 : Int) := by omega
        have in1 : s1 ≤ x ∧ x < s2 := ⟨lo1, hi1⟩
        obtain ⟨q, hq⟩ : ∃ q : Nat, x - s1 = q := ⟨_, rfl⟩
        have hq2 : (x : Int) - (s1 : Int) = (q : Int) := by omega
        have hq3 : (q : Int).tmod 10 = ((q % 10 : Nat) : Int) := by rw [Int.tmod_eq_emod_of_nonneg (by omega)]; omega
        have hqb : q ≤ 1099511627776 := by omega
        have e := Hr.out
        simp only [nin0, in1, szs, hq, if_true, if_false, and_self] at e
        by_cases hm : q % 10 = 0
        · rw [hm] at hq3
          have e2 : (((1 : Nat) : Int)) = r := by rw [← e]; simp [hm, sizeI]
          clear e Hr hq hm in1
          go_wp2_with fail
          go_ret
          exact ⟨by rw [← e2]; rfl, K1.out⟩
        · have hm2 : (((q % 10 : Nat) : Int) != 0) = true := by rw [bne_iff_ne]; omega
          have e2 : (-1 : Int) = r := by rw [← e]; simp [hm, sizeI]
          clear e Hr hq in1
          generalize ((q % 10 : Nat) : Int) = z at *
          go_wp2_with fail
          go_ret
          exact ⟨by rw [← e2]; rfl, K1.out⟩
      · have hi1' : ¬ (x : Int) < (s2 : Int) := by omega
        have nin1 : ¬ (s1 ≤ x ∧ x < s2) := fun h => hi1 h.2
        go_wp2_with fail
        rw [rounds_succ]
        have lo2 : s2 ≤ x := by omega
        clear hi1'
        have lo2' : (s2 : Int) ≤ (x : Int) := by omega
        by_cases hi2 : x < s3
        · have hi2' : (x : Int) < (s3 : Int) := by omega
          have in2 : s2 ≤ x ∧ x < s3 := ⟨lo2, hi2⟩
          obtain ⟨q, hq⟩ : ∃ q : Nat, x - s2 = q := ⟨_, rfl⟩
          have hq2 : (x : Int) - (s2 : Int) = (q : Int) := by omega
          have hq3 : (q : Int).tmod 34 = ((q % 34 : Nat) : Int) := by rw [Int.tmod_eq_emod_of_nonneg (by omega)]; omega
          have hqb : q ≤ 1099511627776 := by omega
          have e := Hr.out
          simp only [nin0, nin1, in2, szs, hq, if_true, if_false, and_self] at e
          by_cases hm : q % 34 = 0
          · rw [hm] at hq3
            have e2 : (((2 : Nat) : Int)) = r := by rw [← e]; simp [hm, sizeI]
            clear e Hr hq hm in2
            go_wp2_with fail
            go_ret
            exact ⟨by rw [← e2]; rfl, K1.out⟩
          · have hm2 : (((q % 34 : Nat) : Int) != 0) = true := by rw [bne_iff_ne]; omega
            have e2 : (-1 : Int) = r := by rw [← e]; simp [hm, sizeI]
            clear e Hr hq in2
            generalize ((q % 34 : Nat) : Int) = z at *
            go_wp2_with fail
            go_ret
            exact ⟨by rw [← e2]; rfl, K1.out⟩
        · have hi2' : ¬ (x : Int) < (s3 : Int) := by omega
          have nin2 : ¬ (s2 ≤ x ∧ x < s3) := fun h => hi2 h.2
          go_wp2_with fail
          rw [rounds_succ]
          have lo3 : s3 ≤ x := by omega
          clear hi2'
          have lo3' : (s3 : Int) ≤ (x : Int) := by omega
          by_cases hi3 : x < s4
          · have hi3' : (x : Int) < (s4 : Int) := by omega
            have in3 : s3 ≤ x ∧ x < s4 := ⟨lo3, hi3⟩
            obtain ⟨q, hq⟩ : ∃ q : Nat, x - s3 = q := ⟨_, rfl⟩
            have hq2 : (x : Int) - (s3 : Int) = (q : Int) := by omega
            have hq3 : (q : Int).tmod 130 = ((q % 130 : Nat) : Int) := by rw [Int.tmod_eq_emod_of_nonneg (by omega)]; omega
            have hqb : q ≤ 1099511627776 := by omega
            have e := Hr.out
            simp only [nin0, nin1, nin2, in3, szs, hq, if_true, if_false, and_self] at e
            by_cases hm : q % 130 = 0
            · rw [hm] at hq3
              have e2 : (((3 : Nat) : Int)) = r := by rw [← e]; simp [hm, sizeI]
              clear e Hr hq hm in3
              go_wp2_with fail
              go_ret
              exact ⟨by rw [← e2]; rfl, K1.out⟩
            · have hm2 : (((q % 130 : Nat) : Int) != 0) = true := by rw [bne_iff_ne]; omega
              have e2 : (-1 : Int) = r := by rw [← e]; simp [hm, sizeI]
              clear e Hr hq in3
              generalize ((q % 130 : Nat) : Int) = z at *
              go_wp2_with fail
              go_ret
              exact ⟨by rw [← e2]; rfl, K1.out⟩
          · have hi3' : ¬ (x : Int) < (s4 : Int) := by omega
            have nin3 : ¬ (s3 ≤ x ∧ x < s4) := fun h => hi3 h.2
            go_wp2_with fail
            rw [rounds_succ]
            go_wp2_with fail
            go_ret
            have e := Hr.out
            simp only [nin0, nin1, nin2, nin3, if_false] at e
            exact ⟨by rw [← e]; rfl, K1.out⟩
  · have lo0' : ¬ (s0 : Int) ≤ (x : Int) := by omega
    have nin0 : ¬ (s0 ≤ x ∧ x < s1) := fun h => lo0 h.1
    go_wp2_with fail
    rw [rounds_succ]
    by_cases lo1 : s1 ≤ x
    · have lo1' : (s1 : Int) ≤ (x : Int) := by omega
      by_cases hi1 : x < s2
      · have hi1' : (x : Int) < (s2 : Int) := by omega
        have in1 : s1 ≤ x ∧ x < s2 := ⟨lo1, hi1⟩
        obtain ⟨q, hq⟩ : ∃ q : Nat, x - s1 = q := ⟨_, rfl⟩
        have hq2 : (x : Int) - (s1 : Int) = (q : Int) := by omega
        have hq3 : (q : Int).tmod 10 = ((q % 10 : Nat) : Int) := by rw [Int.tmod_eq_emod_of_nonneg (by omega)]; omega
        have hqb : q ≤ 1099511627776 := by omega
        have e := Hr.out
        simp only [nin0, in1, szs, hq, if_true, if_false, and_self] at e
        by_cases hm : q % 10 = 0
        · rw [hm] at hq3
          have e2 : (((1 : Nat) : Int)) = r := by rw [← e]; simp [hm, sizeI]
          clear e Hr hq hm in1
          go_wp2_with fail
          go_ret
          exact ⟨by rw [← e2]; rfl, K1.out⟩
        · have hm2 : (((q % 10 : Nat) : Int) != 0) = true := by rw [bne_iff_ne]; omega
          have e2 : (-1 : Int) = r := by rw [← e]; simp [hm, sizeI]
          clear e Hr hq in1
          generalize ((q % 10 : Nat) : Int) = z at *
          go_wp2_with fail
          go_ret
          exact ⟨by rw [← e2]; rfl, K1.out⟩
      · have hi1' : ¬ (x : Int) < (s2 : Int) := by omega
        have nin1 : ¬ (s1 ≤ x ∧ x < s2) := fun h => hi1 h.2
        go_wp2_with fail
        rw [rounds_succ]
        have lo2 : s2 ≤ x := by omega
        clear hi1'
        have lo2' : (s2 : Int) ≤ (x : Int) := by omega
        by_cases hi2 : x < s3
        · have hi2' : (x : Int) < (s3 : Int) := by omega
          have in2 : s2 ≤ x ∧ x < s3 := ⟨lo2, hi2⟩
          obtain ⟨q, hq⟩ : ∃ q : Nat, x - s2 = q := ⟨_, rfl⟩
          have hq2 : (x : Int) - (s2 : Int) = (q : Int) := by omega
          have hq3 : (q : Int).tmod 34 = ((q % 34 : Nat) : Int) := by rw [Int.tmod_eq_emod_of_nonneg (by omega)]; omega
          have hqb : q ≤ 1099511627776 := by omega
          have e := Hr.out
          simp only [nin0, nin1, in2, szs, hq, if_true, if_false, and_self] at e
          by_cases hm : q % 34 = 0
          · rw [hm] at hq3
            have e2 : (((2 : Nat) : Int)) = r := by rw [← e]; simp [hm, sizeI]
            clear e Hr hq hm in2
            go_wp2_with fail
            go_ret
            exact ⟨by rw [← e2]; rfl, K1.out⟩
          · have hm2 : (((q % 34 : Nat) : Int) != 0) = true := by rw [bne_iff_ne]; omega
            have e2 : (-1 : Int) = r := by rw [← e]; simp [hm, sizeI]
            clear e Hr hq in2
            generalize ((q % 34 : Nat) : Int) = z at *
            go_wp2_with fail
            go_ret
            exact ⟨by rw [← e2]; rfl, K1.out⟩
        · have hi2' : ¬ (x : Int) < (s3 : Int) := by omega
          have nin2 : ¬ (s2 ≤ x ∧ x < s3) := fun h => hi2 h.2
          go_wp2_with fail
          rw [rounds_succ]
          have lo3 : s3 ≤ x := by omega
          clear hi2'
          have lo3' : (s3 : Int) ≤ (x : Int) := by omega
          by_cases hi3 : x < s4
          · have hi3' : (x : Int) < (s4 : Int) := by omega
            have in3 : s3 ≤ x ∧ x < s4 := ⟨lo3, hi3⟩
            obtain ⟨q, hq⟩ : ∃ q : Nat, x - s3 = q := ⟨_, rfl⟩
            have hq2 : (x : Int) - (s3 : Int) = (q : Int) := by omega
            have hq3 : (q : Int).tmod 130 = ((q % 130 : Nat) : Int) := by rw [Int.tmod_eq_emod_of_nonneg (by omega)]; omega
            have hqb : q ≤ 1099511627776 := by omega
            have e := Hr.out
            simp only [nin0, nin1, nin2, in3, szs, hq, if_true, if_false, and_self] at e
            by_cases hm : q % 130 = 0
            · rw [hm] at hq3
              have e2 : (((3 : Nat) : Int)) = r := by rw [← e]; simp [hm, sizeI]
              clear e Hr hq hm in3
              go_wp2_with fail
              go_ret
              exact ⟨by rw [← e2]; rfl, K1.out⟩
            · have hm2 : (((q % 130 : Nat) : Int) != 0) = true := by rw [bne_iff_ne]; omega
              have e2 : (-1 : Int) = r := by rw [← e]; simp [hm, sizeI]
              clear e Hr hq in3
              generalize ((q % 130 : Nat) : Int) = z at *
              go_wp2_with fail
              go_ret
              exact ⟨by rw [← e2]; rfl, K1.out⟩
          · have hi3' : ¬ (x : Int) < (s4 : Int) := by omega
            have nin3 : ¬ (s3 ≤ x ∧ x < s4) := fun h => hi3 h.2
            go_wp2_with fail
            rw [rounds_succ]
            go_wp2_with fail
            go_ret
            have e := Hr.out
            simp only [nin0, nin1, nin2, nin3, if_false] at e
            exact ⟨by rw [← e]; rfl, K1.out⟩
    · have lo1' : ¬ (s1 : Int) ≤ (x : Int) := by omega
      have nin1 : ¬ (s1 ≤ x ∧ x < s2) := fun h => lo1 h.1
      go_wp2_with fail
      rw [rounds_succ]
      by_cases lo2 : s2 ≤ x
      · have lo2' : (s2 : Int) ≤ (x : Int) := by omega
        by_cases hi2 : x < s3
        · have hi2' : (x : Int) < (s3 : Int) := by omega
          have in2 : s2 ≤ x ∧ x < s3 := ⟨lo2, hi2⟩
          obtain ⟨q, hq⟩ : ∃ q : Nat, x - s2 = q := ⟨_, rfl⟩
          have hq2 : (x : Int) - (s2 : Int) = (q : Int) := by omega
          have hq3 : (q : Int).tmod 34 = ((q % 34 : Nat) : Int) := by rw [Int.tmod_eq_emod_of_nonneg (by omega)]; omega
          have hqb : q ≤ 1099511627776 := by omega
          have e := Hr.out
          simp only [nin0, nin1, in2, szs, hq, if_true, if_false, and_self] at e
          by_cases hm : q % 34 = 0
          · rw [hm] at hq3
            have e2 : (((2 : Nat) : Int)) = r := by rw [← e]; simp [hm, sizeI]
            clear e Hr hq hm in2
            go_wp2_with fail
            go_ret
            exact ⟨by rw [← e2]; rfl, K1.out⟩
          · have hm2 : (((q % 34 : Nat) : Int) != 0) = true := by rw [bne_iff_ne]; omega
            have e2 : (-1 : Int) = r := by rw [← e]; simp [hm, sizeI]
            clear e Hr hq in2
            generalize ((q % 34 : Nat) : Int) = z at *
            go_wp2_with fail
            go_ret
            exact ⟨by rw [← e2]; rfl, K1.out⟩
        · have hi2' : ¬ (x : Int) < (s3 : Int) := by omega
          have nin2 : ¬ (s2 ≤ x ∧ x < s3) := fun h => hi2 h.2
          go_wp2_with fail
          rw [rounds_succ]
          have lo3 : s3 ≤ x := by omega
          clear hi2'
          have lo3' : (s3 : Int) ≤ (x : Int) := by omega
          by_cases hi3 : x < s4
          · have hi3' : (x : Int) < (s4 : Int) := by omega
            have in3 : s3 ≤ x ∧ x < s4 := ⟨lo3, hi3⟩
            obtain ⟨q, hq⟩ : ∃ q : Nat, x - s3 = q := ⟨_, rfl⟩
            have hq2 : (x : Int) - (s3 : Int) = (q : Int) := by omega
            have hq3 : (q : Int).tmod 130 = ((q % 130 : Nat) : Int) := by rw [Int.tmod_eq_emod_of_nonneg (by omega)]; omega
            have hqb : q ≤ 1099511627776 := by omega
            have e := Hr.out
            simp only [nin0, nin1, nin2, in3, szs, hq, if_true, if_false, and_self] at e
            by_cases hm : q % 130 = 0
            · rw [hm] at hq3
              have e2 : (((3 : Nat) : Int)) = r := by rw [← e]; simp [hm, sizeI]
              clear e Hr hq hm in3
              go_wp2_with fail
              go_ret
              exact ⟨by rw [← e2]; rfl, K1.out⟩
            · have hm2 : (((q % 130 : Nat) : Int) != 0) = true := by rw [bne_iff_ne]; omega
              have e2 : (-1 : Int) = r := by rw [← e]; simp [hm, sizeI]
              clear e Hr hq in3
              generalize ((q % 130 : Nat) : Int) = z at *
              go_wp2_with fail
              go_ret
              exact ⟨by rw [← e2]; rfl, K1.out⟩
          · have hi3' : ¬ (x : Int) < (s4 : Int) := by omega
            have nin3 : ¬ (s3 ≤ x ∧ x < s4) := fun h => hi3 h.2
            go_wp2_with fail
            rw [rounds_succ]
            go_wp2_with fail
            go_ret
            have e := Hr.out
            simp only [nin0, nin1, nin2, nin3, if_false] at e
            exact ⟨by rw [← e]; rfl, K1.out⟩
      · have lo2' : ¬ (s2 : Int) ≤ (x : Int) := by omega
        have nin2 : ¬ (s2 ≤ x ∧ x < s3) := fun h => lo2 h.1
        go_wp2_with fail
        rw [rounds_succ]
        by_cases lo3 : s3 ≤ x
        · have lo3' : (s3 : Int) ≤ (x : Int) := by omega
          by_cases hi3 : x < s4
          · have hi3' : (x : Int) < (s4 : Int) := by omega
            have in3 : s3 ≤ x ∧ x < s4 := ⟨lo3, hi3⟩
            obtain ⟨q, hq⟩ : ∃ q : Nat, x - s3 = q := ⟨_, rfl⟩
            have hq2 : (x : Int) - (s3 : Int) = (q : Int) := by omega
            have hq3 : (q : Int).tmod 130 = ((q % 130 : Nat) : Int) := by rw [Int.tmod_eq_emod_of_nonneg (by omega)]; omega
            have hqb : q ≤ 1099511627776 := by omega
            have e := Hr.out
            simp only [nin0, nin1, nin2, in3, szs, hq, if_true, if_false, and_self] at e
            by_cases hm : q % 130 = 0
            · rw [hm] at hq3
              have e2 : (((3 : Nat) : Int)) = r := by rw [← e]; simp [hm, sizeI]
              clear e Hr hq hm in3
              go_wp2_with fail
              go_ret
              exact ⟨by rw [← e2]; rfl, K1.out⟩
            · have hm2 : (((q % 130 : Nat) : Int) != 0) = true := by rw [bne_iff_ne]; omega
              have e2 : (-1 : Int) = r := by rw [← e]; simp [hm, sizeI]
              clear e Hr hq in3
              generalize ((q % 130 : Nat) : Int) = z at *
              go_wp2_with fail
              go_ret
              exact ⟨by rw [← e2]; rfl, K1.out⟩
          · have hi3' : ¬ (x : Int) < (s4 : Int) := by omega
            have nin3 : ¬ (s3 ≤ x ∧ x < s4) := fun h => hi3 h.2
            go_wp2_with fail
            rw [rounds_succ]
            go_wp2_with fail
            go_ret
            have e := Hr.out
            simp only [nin0, nin1, nin2, nin3, if_false] at e
            exact ⟨by rw [← e]; rfl, K1.out⟩
        · have lo3' : ¬ (s3 : Int) ≤ (x : Int) := by omega
          have nin3 : ¬ (s3 ≤ x ∧ x < s4) := fun h => lo3 h.1
          go_wp2_with fail
          rw [rounds_succ]
          go_wp2_with fail
          go_ret
          have e := Hr.out
          simp only [nin0, nin1, nin2, nin3, if_false] at e
          exact ⟨by rw [← e]; rfl, K1.out⟩

/-- What place answers. -/
structure PlaceSaid (s : TH) (x : Nat) (w : World) (e : Ending) (w' : World) : Prop where
  said : ∃ p c ok, e = .returned (.tuple #[.int .i64 p, .int .i64 c, .bool ok]) ∧ ok = (tplace s x).isSome ∧ ∀ q k, tplace s x = some (q, k) → p = (q : Int) ∧ c = (k : Int)
  keeps : Keeps (fun _ => False) w w'

theorem wkind_cell (x : Nat) (hx : x < 18446744073709551616) : (wkind (x : Int) = 2 ↔ tcell x = true) ∧ (tcell x = true → wvalue (x : Int) = ((x / 8 : Nat) : Int)) := by
  unfold tcell wvalue wkind wmost wtag wnum wrap64
  constructor
  · simp only [Bool.and_eq_true, beq_iff_eq, decide_eq_true_eq]
    constructor
    · intro h
      repeat' split at h
      all_goals omega
    · rintro ⟨h1, h2⟩
      repeat' split
      all_goals omega
  · simp only [Bool.and_eq_true, beq_iff_eq, decide_eq_true_eq]
    rintro ⟨h1, h2⟩
    repeat' split
    all_goals omega

set_option maxRecDepth 100000 in
set_option maxHeartbeats 1000000 in
theorem place_is {hb b g : Nat} {s : TH} {w : World} (x : Nat) (h : IsTH w hb b g s) (hx : x < 18446744073709551616) :
    Calls Try.prog 76 #[.pointer (some ⟨hb, 0, none⟩), .int .u64 x] w fun e w' => PlaceSaid s x w e w' := by
  have H := Box.mk h
  obtain ⟨hk1, hk2⟩ := wkind_cell x hx
  clear h
  by_cases hc : tcell x = true
  · have hk := hk1.2 hc
    have hv := hk2 hc
    have hle : x / 8 ≤ 1099511627776 := by
      unfold tcell at hc
      simp only [Bool.and_eq_true, beq_iff_eq, decide_eq_true_eq] at hc
      exact hc.2
    obtain ⟨q, hq⟩ : ∃ q, x / 8 = q := ⟨_, rfl⟩
    rw [hq] at hv hle
    have HP : Box (tplace s x = (tclass s q).map (fun c => (q, c))) := ⟨by unfold tplace; rw [if_pos hc, hq]⟩
    clear hk1 hk2 hc hq
    have HX := Box.mk (show IsWd (x : Int) from ⟨by omega, by omega⟩)
    have Hk := Box.mk hk
    have Hv := Box.mk hv
    clear hk hv hx
    go_enter Try.func76, Try.ntmps76
    go_wp2_with fail
    refine (wkind_is _ _ HX.out).mono ?_
    rintro e w1 ⟨rfl, rfl⟩
    rw [Hk.out]
    go_wp2_with fail
    refine (wvalue_is _ _ HX.out).mono ?_
    rintro e w1 ⟨rfl, rfl⟩
    rw [Hv.out]
    go_wp2_with fail
    refine (class_is q H.out hle).mono ?_
    rintro e w1 ⟨rfl, k1⟩
    have K1 := Box.mk k1
    clear k1
    cases hcl : tclass s q with
    | none =>
      have HP2 : Box (tplace s x = none) := ⟨by rw [HP.out, hcl]; rfl⟩
      clear HP hcl
      show _
      simp only [sizeI]
      go_wp2_with fail
      exact bodyPost_ret (v := .tuple #[.int .i64 (q : Int), .int .i64 (-1), .bool false]) (by simp [results, Try.results76, go_sem]) rfl ⟨⟨_, _, _, rfl, by rw [HP2.out]; rfl, fun q k h => by rw [HP2.out] at h; cases h⟩, K1.out⟩
    | some c =>
      have HP2 : Box (tplace s x = some (q, c)) := ⟨by rw [HP.out, hcl]; rfl⟩
      clear HP hcl
      simp only [sizeI]
      go_wp2_with fail
      exact bodyPost_ret (v := .tuple #[.int .i64 (q : Int), .int .i64 (c : Int), .bool true]) (by simp [results, Try.results76, go_sem]) rfl ⟨⟨_, _, _, rfl, by rw [HP2.out]; rfl, fun q' k' h => by rw [HP2.out] at h; cases h; exact ⟨rfl, rfl⟩⟩, K1.out⟩
  · have hk : ¬ wkind (x : Int) = 2 := fun e => hc (hk1.1 e)
    have HP : Box (tplace s x = none) := ⟨by unfold tplace; rw [if_neg hc]⟩
    have hk2' : (wkind (x : Int) != 2) = true := by rw [bne_iff_ne]; exact hk
    have HX := Box.mk (show IsWd (x : Int) from ⟨by omega, by omega⟩)
    clear hk1 hk2 hc hk hx
    go_enter Try.func76, Try.ntmps76
    go_wp2_with fail
    refine (wkind_is _ _ HX.out).mono ?_
    rintro e w1 ⟨rfl, rfl⟩
    generalize wkind (x : Int) = kk at *
    go_wp2_with fail
    exact bodyPost_ret (v := .tuple #[.int .i64 0, .int .i64 0, .bool false]) (by simp [results, Try.results76, go_sem]) rfl ⟨⟨_, _, _, rfl, by rw [HP.out]; rfl, fun q k h => by rw [HP.out] at h; cases h⟩, Keeps.refl _ _⟩

set_option maxRecDepth 100000 in
set_option maxHeartbeats 1000000 in
theorem at_is {hb b g : Nat} {s : TH} {w : World} (x : Nat) {h : Nat} (hI : IsTH w hb b g s) (hr : rdh s.W x = some h) :
    Calls Try.prog 77 #[.pointer (some ⟨hb, 0, none⟩), .int .i64 x] w fun e w' => e = .returned (hval (hform h) (htag h) (hmark h) (hn h)) ∧ IsTH w' hb b g s ∧ Keeps (foot3 hb b g) w w' := by
  unfold rdh at hr
  split at hr
  · rename_i hc
    injection hr with hr
    obtain ⟨hx, hlt⟩ := hc
    rw [hr] at hlt
    have Hr := Box.mk hr
    clear hr
    have ka := (Keeps.refl (fun _ => False) w).alloc (.cells #[.int .i64 0, .int .i64 0, .int .i64 0, .int .i64 0] 110)
    have H := Box.mk (hI.keeps0 ka)
    have hs := H.out.store
    have KA := Box.mk ka
    have hh := heap_alloc_new w (.cells #[.int .i64 0, .int .i64 0, .int .i64 0, .int .i64 0] 110)
    obtain ⟨a, ha⟩ : ∃ a, w.heap.size = a := ⟨_, rfl⟩
    have hlts := hI.lt
    rw [ha] at hlts hh
    have Ha := Box.mk ha
    clear hI ka ha
    go_enter Try.func77, Try.ntmps77
    go_wp2_with fail
    refine (wget_is H.out.iw hx).mono ?_
    rw [Hr.out]
    rintro e w1 ⟨rfl, hI1, k1⟩
    have H1 := Box.mk (H.out.ring k1 hI1)
    have hh1 := k1.heap hh (by unfold foot; omega)
    have K1 := Box.mk ((KA.out.mono (S' := foot3 hb b g) (fun _ _ h => h.elim)).trans (k1.mono (S' := foot3 hb b g) (fun i _ h => Or.inr h)))
    clear k1 hI1 hh H KA hs
    go_wp2_with fail
    refine (opened_is h _ hlt).mono ?_
    rintro e w2 ⟨rfl, k2⟩
    rw [Ha.out]
    have hh2 := k2.heap hh1 (fun h => h)
    have H2 := Box.mk (H1.out.keeps0 k2)
    have K2 := Box.mk (K1.out.trans (k2.mono (S' := foot3 hb b g) (fun _ _ h => h.elim)))
    have c0 := cell_of_heap hh2 0
    have c1 := cell_of_heap hh2 1
    have c2 := cell_of_heap hh2 2
    have c3 := cell_of_heap hh2 3
    have f0 := frozen_of_heap hh2 0
    have f1 := frozen_of_heap hh2 1
    have f2 := frozen_of_heap hh2 2
    have f3 := frozen_of_heap hh2 3
    simp only [List.getElem?_toArray, List.getElem?_cons_zero, List.getElem?_cons_succ] at c0 c1 c2 c3
    have hlt2 := k2.size
    clear k2 hh1 hh2 H1 K1
    unfold hval
    obtain ⟨vf, hvf⟩ : ∃ vf, hform h = vf := ⟨_, rfl⟩
    obtain ⟨vt, hvt⟩ : ∃ vt, htag h = vt := ⟨_, rfl⟩
    obtain ⟨vm, hvm⟩ : ∃ vm, hmark h = vm := ⟨_, rfl⟩
    obtain ⟨vn, hvn⟩ : ∃ vn, hn h = vn := ⟨_, rfl⟩
    rw [hvf, hvt, hvm, hvn]
    have Hv := Box.mk (And.intro hvf (And.intro hvt (And.intro hvm hvn)))
    clear hvf hvt hvm hvn
    go_wp2_with fail
    have kz : Keeps (fun z => z = a) w2 ((((w2.setCell ⟨a, 0, none⟩ (.int .i64 vf)).setCell ⟨a, 1, none⟩ (.int .i64 vt)).setCell ⟨a, 2, none⟩ (.int .i64 vm)).setCell ⟨a, 3, none⟩ (.int .i64 vn)) :=
      ((((Keeps.refl (fun z => z = a) w2).setCell (p := ⟨a, 0, none⟩) (fun _ => rfl) _).setCell (p := ⟨a, 1, none⟩) (fun _ => rfl) _).setCell (p := ⟨a, 2, none⟩) (fun _ => rfl) _).setCell (p := ⟨a, 3, none⟩) (fun _ => rfl) _
    exact bodyPost_ret (v := .agg #[.int .i64 (vf : Int), .int .i64 (vt : Int), .int .i64 (vm : Int), .int .i64 (vn : Int)]) (by simp [results, Try.results77, go_sem, c0, c1, c2, c3]) rfl ⟨by rw [Hv.out.1, Hv.out.2.1, Hv.out.2.2.1, Hv.out.2.2.2]; rfl, H2.out.keeps kz (by omega) (by omega) (by omega), K2.out.trans' kz (fun i hi h => by have := Ha.out; omega)⟩
  · cases hr

end Go.Proofs.Ytbjlapfcnldpoaa

/- The heap's move by its contract. -/
namespace Go.Proofs.Ytbjlapfcnldpoaa
set_option linter.unusedVariables false
set_option linter.unusedSimpArgs false
open Go.RowKit

theorem tmove_parts {s s' : TH} {x c t mark l : Nat} (h : tmove s x c t mark l = some s') :
    ∃ hd W1 W2 W3, rdh s.W x = some hd ∧ wrt s.W x (hdr (hform hd) (htag hd) mark (hn hd)) = some W1 ∧ oRemove W1 x = some W2 ∧ oInsert W2 t x = some W3 ∧ lget s c l < 1000000 ∧ s' = { lset s c l (lget s c l + 1) with W := W3 } := by
  unfold tmove at h
  simp only [Option.bind_eq_bind, Option.bind_eq_some_iff] at h
  obtain ⟨hd, h1, W1, h2, W2, h3, W3, h4, u, h5, h6⟩ := h
  refine ⟨hd, W1, W2, W3, h1, h2, h3, h4, ?_, ?_⟩
  · unfold req at h5
    split at h5
    · rename_i h7; simpa using h7
    · cases h5
  · simp only [Option.pure_def, Option.some.injEq] at h6
    exact h6.symm
theorem wrt_parts {W W' : List Nat} {p x : Nat} (h : wrt W p x = some W') : p < W.length ∧ W' = W.set p x := by
  unfold wrt at h
  split at h
  · rename_i h1; injection h with h; exact ⟨h1, h.symm⟩
  · cases h
theorem oRemove_parts {W W' : List Nat} {q : Nat} (h : oRemove W q = some W') : q + 2 < W.length ∧ wat W (q + 1) + 2 < W.length ∧ wat W (q + 2) + 2 < W.length ∧ W' = setAll W [(wat W (q + 1), 2, wat W (q + 2)), (wat W (q + 2), 1, wat W (q + 1)), (q, 1, q), (q, 2, q)] := by
  unfold oRemove isPlace at h
  simp only [Bool.and_eq_true, decide_eq_true_eq] at h
  split at h
  · rename_i h1; injection h with h; exact ⟨h1.1.1, h1.1.2, h1.2, h.symm⟩
  · cases h
theorem oInsert_parts {W W' : List Nat} {p q : Nat} (h : oInsert W p q = some W') : p + 2 < W.length ∧ q + 2 < W.length ∧ wat W (p + 2) + 2 < W.length ∧ W' = setAll W [(q, 1, p), (q, 2, wat W (p + 2)), (p, 2, q), (wat W (p + 2), 1, q)] := by
  unfold oInsert isPlace at h
  simp only [Bool.and_eq_true, decide_eq_true_eq] at h
  split at h
  · rename_i h1; injection h with h; exact ⟨h1.1.1, h1.1.2, h1.2, h.symm⟩
  · cases h

set_option maxRecDepth 100000 in
set_option maxHeartbeats 2000000 in
theorem move_is {hb b g : Nat} {s s' : TH} {w : World} {x c t mark l : Nat} (hI : IsTH w hb b g s) (hm : tmove s x c t mark l = some s') (hc : c < 4) (hl : l < 4) (hmk : mark < 4) :
    Calls Try.prog 94 #[.pointer (some ⟨hb, 0, none⟩), .int .i64 x, .int .i64 c, .int .i64 t, .int .i64 mark, .int .i64 l] w fun e w' => e = .returned (.tuple #[]) ∧ IsTH w' hb b g s' ∧ Keeps (foot3 hb b g) w w' := by
  obtain ⟨hd, W1, W2, W3, h1, h2, h3, h4, h5, rfl⟩ := tmove_parts hm
  obtain ⟨p1, rfl⟩ := wrt_parts h2
  obtain ⟨q1, q2, q3, rfl⟩ := oRemove_parts h3
  obtain ⟨r1, r2, r3, rfl⟩ := oInsert_parts h4
  clear hm h2 h3 h4
  have H := Box.mk hI
  have H1 := Box.mk h1
  have hlt := Box.mk hI.lt
  clear hI h1
  go_enter Try.func94, Try.ntmps94
  go_wp2_with fail
  refine (at_is x H.out H1.out).mono ?_
  rintro e w1 ⟨rfl, hI1, k1⟩
  have b1 : hform hd < 4 := by unfold hform; omega
  have b2 : htag hd < 16 := by unfold htag; omega
  have b4 : hn hd < 256 := by unfold hn; omega
  obtain ⟨vf, hvf⟩ : ∃ vf, hform hd = vf := ⟨_, rfl⟩
  obtain ⟨vt, hvt⟩ : ∃ vt, htag hd = vt := ⟨_, rfl⟩
  obtain ⟨vm, hvm⟩ : ∃ vm, hmark hd = vm := ⟨_, rfl⟩
  obtain ⟨vn, hvn⟩ : ∃ vn, hn hd = vn := ⟨_, rfl⟩
  rw [hvf, hvt, hvm, hvn]
  rw [hvf] at b1
  rw [hvt] at b2
  rw [hvn] at b4
  unfold hval
  go_wp2_with fail
  have hh := heap_alloc_new w1 (.cells #[.int .i64 vf, .int .i64 vt, .int .i64 mark, .int .i64 vn] 110)
  have ka := (Keeps.refl (fun _ => False) w1).alloc (.cells #[.int .i64 vf, .int .i64 vt, .int .i64 mark, .int .i64 vn] 110)
  have H2 := Box.mk (hI1.keeps0 ka)
  have K2 := Box.mk (k1.trans (ka.mono (S' := foot3 hb b g) (fun _ _ h => h.elim)))
  obtain ⟨a, ha⟩ : ∃ a, w1.heap.size = a := ⟨_, rfl⟩
  have hlta : hb < a ∧ b < a ∧ g < a := by have := hI1.lt; omega
  rw [ha] at hh ⊢
  have Hp1 := Box.mk p1
  have Hhd : Box (hdr vf vt mark vn = hdr (hform hd) (htag hd) mark (hn hd)) := ⟨by rw [hvf, hvt, hvn]⟩
  clear ka hI1 k1 ha hvf hvt hvm hvn
  generalize w1.alloc (.cells #[.int .i64 vf, .int .i64 vt, .int .i64 mark, .int .i64 vn] 110) = w2 at *
  have hs := H2.out.store
  have c0 := cell_of_heap hh 0
  have c1 := cell_of_heap hh 1
  have c2 := cell_of_heap hh 2
  have c3 := cell_of_heap hh 3
  simp only [List.getElem?_toArray, List.getElem?_cons_zero, List.getElem?_cons_succ] at c0 c1 c2 c3
  have hna : ¬ foot b g a := by unfold foot; omega
  have hnh : ¬ foot b g hb := by have := H2.out.ne; unfold foot; omega
  clear hh
  go_region_held3 (fun w' => w'.cell? ⟨hb, 0, none⟩ = some (.pointer (some ⟨b, 0, none⟩)) ∧ w'.cell? ⟨a, 0, none⟩ = some (.int .i64 vf) ∧ w'.cell? ⟨a, 1, none⟩ = some (.int .i64 vt) ∧ w'.cell? ⟨a, 2, none⟩ = some (.int .i64 mark) ∧ w'.cell? ⟨a, 3, none⟩ = some (.int .i64 vn)) (first | exact ⟨k4.cell (k3.cell hs (fun h => h)) hnh, k4.cell (k3.cell c0 (fun h => h)) hna, k4.cell (k3.cell c1 (fun h => h)) hna, k4.cell (k3.cell c2 (fun h => h)) hna, k4.cell (k3.cell c3 (fun h => h)) hna⟩ | exact ⟨k3.cell hs (fun h => h), k3.cell c0 (fun h => h), k3.cell c1 (fun h => h), k3.cell c2 (fun h => h), k3.cell c3 (fun h => h)⟩ | go_keep) (first | (go_at_call 74; refine (hword_is vf vt mark vn _ b1 b2 hmk b4).mono ?_; rintro e w3 ⟨rfl, k3⟩) | (go_at_call 73; refine (wset_is _ ((H2.out.keeps0 (show Keeps (fun _ => False) w2 _ from ⟨k3.os, k3.tape, k3.output, k3.size, k3.block⟩)).iw) Hp1.out).mono ?_; rintro e w4 ⟨rfl, hI4, k4⟩))
  have k3' : Keeps (fun _ => False) w2 w3 := ⟨k3.os, k3.tape, k3.output, k3.size, k3.block⟩
  have H4' := (H2.out.keeps0 k3').ring k4 hI4
  rw [Hhd.out] at H4'
  have H4 := Box.mk H4'
  have K4 := Box.mk (K2.out.trans ((k3'.mono (S' := foot3 hb b g) (fun _ _ h => h.elim)).trans (k4.mono (S' := foot3 hb b g) (fun i _ h => Or.inr h))))
  have hs4 := H4.out.store
  clear H4' hI4 k3' k3 k4 H2 K2 hs c0 c1 c2 c3 hna Hhd
  go_wp2_with fail
  refine (rremove_is (q := x) H4.out.iw q1 rfl rfl q2 q3).mono ?_
  rintro e w5 ⟨rfl, hI5, k5⟩
  have H5 := Box.mk (H4.out.ring k5 hI5)
  have K5 := Box.mk (K4.out.trans (k5.mono (S' := foot3 hb b g) (fun i _ h => Or.inr h)))
  have hs5 := H5.out.store
  clear hI5 k5 H4 K4 hs4
  go_wp2_with fail
  refine (rinsert_is (p := t) (q := x) H5.out.iw r1 r2 rfl r3).mono ?_
  rintro e w6 ⟨rfl, hI6, k6⟩
  have H6 := Box.mk (H5.out.ring k6 hI6)
  have K6 := Box.mk (K5.out.trans (k6.mono (S' := foot3 hb b g) (fun i _ h => Or.inr h)))
  clear hI6 k6 H5 K5 hs5
  have hi : 4 * c + l < 16 := by omega
  obtain ⟨n, hn⟩ : ∃ n, lget s c l = n := ⟨_, rfl⟩
  have hn' : s.lists.getD (4 * c + l) 0 = n := hn
  have hcell := H6.out.lists hi
  have hfz := H6.out.frozen (10 + (4 * c + l))
  simp only at hcell
  rw [hn', show 10 + (4 * c + l) = 10 + c * 4 + l by omega] at hcell
  rw [show 10 + (4 * c + l) = 10 + c * 4 + l by omega] at hfz
  rw [hn] at h5
  have Hn2 := Box.mk hn
  have hput := H6.out.putList hi (n + 1)
  rw [show 10 + (4 * c + l) = 10 + c * 4 + l by omega] at hput
  rw [show ((n + 1 : Nat) : Int) = (n : Int) + 1 by omega] at hput
  have HP := Box.mk (hput.keeps0 ((Keeps.refl (fun _ => False) _).drew))
  have hc0 : (0 : Int) ≤ (c : Int) := by omega
  have hc1 : (c : Int) < 4 := by omega
  have hl0 : (0 : Int) ≤ (l : Int) := by omega
  have hl1 : (l : Int) < 4 := by omega
  have KP := Box.mk (K6.out.setCell (p := ⟨hb, 10 + c * 4 + l, none⟩) (fun _ => Or.inl rfl) (.int .i64 ((n : Int) + 1)))
  clear hput H6 K6 hn hn' q1 q2 q3 r1 r2 r3
  go_wp2_with fail
  go_region
  go_wp2_with fail
  go_end0
  exact ⟨rfl, by rw [Hn2.out]; exact HP.out, KP.out.drew⟩

end Go.Proofs.Ytbjlapfcnldpoaa

/- The heap's shade by its contract. -/
namespace Go.Proofs.Ytbjlapfcnldpoaa
set_option linter.unusedVariables false
set_option linter.unusedSimpArgs false
open Go.RowKit

theorem tclass_lt {s : TH} {x k : Nat} (h : tclass s x = some k) : k < 4 := by
  have key : ∀ c r, tclassAt s x c = some r → r = some k → k = c := by
    intro c r h1 h2
    unfold tclassAt at h1
    split at h1
    · injection h1 with h1
      split at h1
      · rw [← h1] at h2; injection h2 with h2; exact h2.symm
      · rw [← h1] at h2; cases h2
    · cases h1
  unfold tclass at h
  split at h
  · rename_i r h1; have := key 0 r h1 h; omega
  · split at h
    · rename_i r h1; have := key 1 r h1 h; omega
    · split at h
      · rename_i r h1; have := key 2 r h1 h; omega
      · split at h
        · rename_i r h1; have := key 3 r h1 h; omega
        · cases h
theorem tplace_lt {s : TH} {x q k : Nat} (h : tplace s x = some (q, k)) : k < 4 := by
  unfold tplace at h
  split at h
  · cases hc : tclass s (x / 8) with
    | none => rw [hc] at h; cases h
    | some c => rw [hc] at h; simp at h; have := tclass_lt hc; omega
  · cases h
theorem tshade_parts {s s' : TH} {x : Nat} (h : tshade s x = some s') : x < 18446744073709551616 ∧ (tplace s x = none ∧ s' = s ∨ ∃ q k hd, tplace s x = some (q, k) ∧ rdh s.W q = some hd ∧
    (hmark hd ≠ 1 - s.now ∧ s' = s ∨ hmark hd = 1 - s.now ∧ 0 < lget s k 2 ∧ lget s k 2 < 1000000 ∧ tmove (lset s k 2 (lget s k 2 - 1)) q k (thead k 3) 2 3 = some s')) := by
  unfold tshade at h
  split at h
  · cases h
  · rename_i hx
    refine ⟨by omega, ?_⟩
    split at h
    · rename_i hp
      injection h with h
      exact Or.inl ⟨hp, h.symm⟩
    · rename_i q k hp
      right
      simp only [Option.bind_eq_bind, Option.bind_eq_some_iff] at h
      obtain ⟨hd, h1, h2⟩ := h
      refine ⟨q, k, hd, hp, h1, ?_⟩
      split at h2
      · rename_i hm
        simp only [Option.pure_def, Option.some.injEq] at h2
        exact Or.inl ⟨hm, h2.symm⟩
      · rename_i hm
        simp only [Option.bind_eq_some_iff] at h2
        obtain ⟨u, h3, u', h3', h4⟩ := h2
        refine Or.inr ⟨by simpa using hm, ?_, ?_, h4⟩
        · unfold req at h3
          split at h3
          · rename_i h5; simpa using h5
          · cases h3
        · unfold req at h3'
          split at h3'
          · rename_i h5; simpa using h5
          · cases h3'

set_option maxRecDepth 100000 in
set_option maxHeartbeats 2000000 in
theorem shade_is {hb b g : Nat} {s s' : TH} {w : World} {x : Nat} (hI : IsTH w hb b g s) (hs : tshade s x = some s') (hnow : s.now ≤ 1) :
    Calls Try.prog 80 #[.pointer (some ⟨hb, 0, none⟩), .int .u64 x] w fun e w' => e = .returned (.tuple #[]) ∧ IsTH w' hb b g s' ∧ Keeps (foot3 hb b g) w w' := by
  obtain ⟨hx, hcase⟩ := tshade_parts hs
  have H := Box.mk hI
  clear hI hs
  rcases hcase with ⟨hp, rfl⟩ | ⟨q, k, hd, hp, hr, hcase⟩
  · have Hp := Box.mk hp
    clear hp
    go_enter Try.func80, Try.ntmps80
    go_wp2_with fail
    refine (place_is x H.out hx).mono ?_
    rintro e w1 ⟨⟨p, c, ok, rfl, hok, -⟩, k1⟩
    rw [Hp.out] at hok
    subst hok
    have H1 := Box.mk (H.out.keeps0 k1)
    have K1 := Box.mk (k1.mono (S' := foot3 hb b g) (fun _ _ h => h.elim))
    clear k1 H
    simp only [Option.isSome_none]
    go_wp2_with fail
    go_quiet (fail)
    go_wp2_with fail
    exact bodyPost_ret (results_none rfl _ _ _) rfl ⟨rfl, H1.out.keeps0 ((Keeps.refl (fun _ => False) w1).drewN _), K1.out.drewN _⟩
  · have hk4 := tplace_lt hp
    obtain ⟨vf, hvf⟩ : ∃ vf, hform hd = vf := ⟨_, rfl⟩
    obtain ⟨vt, hvt⟩ : ∃ vt, htag hd = vt := ⟨_, rfl⟩
    obtain ⟨vm, hvm⟩ : ∃ vm, hmark hd = vm := ⟨_, rfl⟩
    obtain ⟨vn, hvn⟩ : ∃ vn, hn hd = vn := ⟨_, rfl⟩
    have Hat : Box (∀ W, IsTH W hb b g s → Calls Try.prog 77 #[.pointer (some ⟨hb, 0, none⟩), .int .i64 q] W fun e w' => e = .returned (.agg #[.int .i64 (vf : Int), .int .i64 (vt : Int), .int .i64 (vm : Int), .int .i64 (vn : Int)]) ∧ IsTH w' hb b g s ∧ Keeps (foot3 hb b g) W w') := ⟨fun W hW => by
      have := at_is q hW hr
      rw [hvf, hvt, hvm, hvn] at this
      exact this⟩
    rw [hvm] at hcase
    have Hp := Box.mk hp
    clear hp hr hvf hvt hvm hvn
    obtain ⟨nw, hnw⟩ : ∃ nw, s.now = nw := ⟨_, rfl⟩
    have Hnw := Box.mk hnw
    rw [hnw] at hcase hnow
    have Hcn : Box (∀ W, IsTH W hb b g s → W.cell? ⟨hb, 39, none⟩ = some (.int .i64 nw)) := ⟨fun W hW => by have := hW.now; rwa [hnw] at this⟩
    clear hnw
    obtain ⟨z, hz⟩ : ∃ z, 1 - nw = z := ⟨_, rfl⟩
    have hz2 : 1 - (nw : Int) = (z : Int) := by omega
    have hz1 : z ≤ 1 := by omega
    rw [hz] at hcase
    have hwz : IntKind.i64.wrap (z : Int) = (z : Int) := by
      simp only [IntKind.wrap]
      simp [IntKind.bits, IntKind.signed]
      omega
    clear hz
    have hfd : ∀ w : World, (Instr.field 110 (.agg #[.int .i64 (vf : Int), .int .i64 (vt : Int), .int .i64 (vm : Int), .int .i64 (vn : Int)]) 2).run Try.prog w = .ok (.int .i64 (vm : Int)) w := fun _ => by kernel_rfl
    rcases hcase with ⟨hm, rfl⟩ | ⟨hm, hpos, hbig, hmv⟩
    · have hm2 : ((vm : Int) != (z : Int)) = true := by rw [bne_iff_ne]; omega
      clear hm
      go_enter Try.func80, Try.ntmps80
      go_wp2_with fail
      refine (place_is x H.out hx).mono ?_
      rintro e w1 ⟨⟨p, c, ok, rfl, hok, hpc⟩, k1⟩
      obtain ⟨rfl, rfl⟩ := hpc _ _ Hp.out
      rw [Hp.out] at hok
      subst hok
      have H1 := Box.mk (H.out.keeps0 k1)
      have K1 := Box.mk (k1.mono (S' := foot3 hb b g) (fun _ _ h => h.elim))
      clear k1 H hpc
      simp only [Option.isSome_some]
      have hcn := H1.out.now
      rw [Hnw.out] at hcn
      go_wp2_with fail
      go_region_held3 (fun w' => w'.cell? ⟨hb, 39, none⟩ = some (.int .i64 nw)) (first | exact Hcn.out _ hI2 | go_keep) (first | (go_at_call 77; refine (Hat.out w1.drew (H1.out.keeps0 ((Keeps.refl (fun _ => False) w1).drew))).mono ?_; rintro e w2 ⟨rfl, hI2, k2⟩) | fail)
      all_goals
        have H2 := Box.mk hI2
        have K2 := Box.mk (K1.out.trans (show Keeps (foot3 hb b g) w1 _ from ⟨k2.os, k2.tape, k2.output, k2.size, k2.block⟩))
        clear hI2 k2 H1 K1
        go_wp2_with fail
        exact bodyPost_ret (results_none rfl _ _ _) rfl ⟨rfl, H2.out, K2.out⟩
    · have hm2 : ((vm : Int) != (z : Int)) = false := by rw [bne_eq_false_iff_eq]; omega
      obtain ⟨n, hn⟩ : ∃ n, lget s k 2 = n := ⟨_, rfl⟩
      obtain ⟨m, hnm⟩ : ∃ m, n - 1 = m := ⟨_, rfl⟩
      rw [hn] at hpos hbig
      have hmb : m < 1000000 := by omega
      have hn1 : (n : Int) - 1 = (m : Int) := by omega
      rw [hn, hnm] at hmv
      have Hmv := Box.mk hmv
      have Hn := Box.mk hn
      clear hm hmv hnm hn
      go_enter Try.func80, Try.ntmps80
      go_wp2_with fail
      refine (place_is x H.out hx).mono ?_
      rintro e w1 ⟨⟨p, c, ok, rfl, hok, hpc⟩, k1⟩
      obtain ⟨rfl, rfl⟩ := hpc _ _ Hp.out
      rw [Hp.out] at hok
      subst hok
      have H1 := Box.mk (H.out.keeps0 k1)
      have K1 := Box.mk (k1.mono (S' := foot3 hb b g) (fun _ _ h => h.elim))
      clear k1 H hpc
      simp only [Option.isSome_some]
      have hcn := H1.out.now
      rw [Hnw.out] at hcn
      go_wp2_with fail
      go_region_held3 (fun w' => w'.cell? ⟨hb, 39, none⟩ = some (.int .i64 nw)) (first | exact Hcn.out _ hI2 | go_keep) (first | (go_at_call 77; refine (Hat.out w1.drew (H1.out.keeps0 ((Keeps.refl (fun _ => False) w1).drew))).mono ?_; rintro e w2 ⟨rfl, hI2, k2⟩) | fail)
      all_goals
        have H2 := Box.mk hI2
        have K2 := Box.mk (K1.out.trans (show Keeps (foot3 hb b g) w1 _ from ⟨k2.os, k2.tape, k2.output, k2.size, k2.block⟩))
        have hcell := hI2.lists (i := 4 * k + 2) (by omega)
        have hfz := hI2.frozen (10 + (4 * k + 2))
        have hput := hI2.putList (i := 4 * k + 2) (by omega) m
        rw [show s.lists.getD (4 * k + 2) 0 = n from Hn.out, show 10 + (4 * k + 2) = 10 + k * 4 + 2 by omega] at hcell
        rw [show 10 + (4 * k + 2) = 10 + k * 4 + 2 by omega] at hfz hput
        have HP : Box (IsTH (w2.setCell ⟨hb, 10 + k * 4 + 2, none⟩ (.int .i64 m)) hb b g (lset s k 2 m)) := ⟨hput⟩
        have KP := Box.mk (K2.out.setCell (p := ⟨hb, 10 + k * 4 + 2, none⟩) (fun _ => Or.inl rfl) (.int .i64 (m : Int)))
        have hk0 : (0 : Int) ≤ (k : Int) := by omega
        have hk1 : (k : Int) < 4 := by omega
        clear hput hI2 k2 H1 K1 H2 K2
        go_wp2_with fail
        go_region
        go_wp2_with fail
        refine (head_is k 3 _ (by omega) (by omega)).mono ?_
        rintro e w5 ⟨rfl, rfl⟩
        go_wp2_with fail
        refine (move_is (s := lset s k 2 m) (HP.out.keeps0 ((Keeps.refl (fun _ => False) _).drew)) Hmv.out hk4 (by decide) (by decide)).mono ?_
        rintro e w6 ⟨rfl, hI6, k6⟩
        have H6 := Box.mk hI6
        have K6 := Box.mk (KP.out.drew.trans k6)
        clear hI6 k6 HP KP
        go_wp2_with fail
        go_end0
        exact ⟨rfl, H6.out, K6.out⟩

end Go.Proofs.Ytbjlapfcnldpoaa

/- The heap's end of a cycle by its contract; joins. -/
namespace Go.Proofs.Ytbjlapfcnldpoaa
set_option linter.unusedVariables false
set_option linter.unusedSimpArgs false
open Go.RowKit

theorem ojoin_is {b g p q : Nat} {w : World} {W W' : List Nat} (hI : IsW w b g W) (h : oJoin W p q = some W') :
    Calls Try.prog 93 #[.pointer (some ⟨b, 0, none⟩), .int .i64 p, .int .i64 q] w fun e w' => e = .returned .nilIface ∧ IsW w' b g W' ∧ Keeps (foot b g) w w' := by
  unfold oJoin isPlace at h
  simp only [Bool.and_eq_true, decide_eq_true_eq] at h
  split at h
  · rename_i hpq
    split at h
    · rename_i hf
      injection h with h
      subst h
      exact rjoin_none hI hpq.1 hpq.2 hf
    · rename_i hf
      split at h
      · rename_i hh
        injection h with h
        subst h
        exact rjoin_is hI hpq.1 hpq.2 rfl rfl rfl hh.1.1 hh.1.2 hh.2 (by rw [beq_eq_false_iff_ne]; omega)
      · cases h
  · cases h

theorem tend1_parts {s s' : TH} {c : Nat} (h : tend1 s c = some s') : ∃ W, oJoin s.W (thead c 0) (thead c 2) = some W ∧ lget s c 0 + lget s c 2 < 1000000 ∧ s' = lset (lset { s with W := W } c 0 (lget s c 0 + lget s c 2)) c 2 0 := by
  unfold tend1 at h
  simp only [Option.bind_eq_bind, Option.bind_eq_some_iff] at h
  obtain ⟨W, h1, u, h2, h3⟩ := h
  refine ⟨W, h1, ?_, ?_⟩
  · unfold req at h2
    split at h2
    · rename_i h4; simpa using h4
    · cases h2
  · simp only [Option.pure_def, Option.some.injEq] at h3
    exact h3.symm
/-- So many sizes' lists are joined. -/
def tendN : Nat → TH → Option TH
  | 0, s => some s
  | k + 1, s => (tendN k s).bind (fun s => tend1 s k)
theorem tend_parts {s s' : TH} (h : tend s = some s') : ∃ s4, tendN 4 s = some s4 ∧ s4.cycles < 1000000 ∧ s' = { s4 with marking := false, cycles := s4.cycles + 1 } := by
  unfold tend at h
  simp only [Option.bind_eq_bind, Option.bind_eq_some_iff] at h
  obtain ⟨s1, h1, s2, h2, s3, h3, s4, h4, u, h5, h6⟩ := h
  refine ⟨s4, ?_, ?_, ?_⟩
  · simp [tendN, h1, h2, h3, h4]
  · unfold req at h5
    split at h5
    · rename_i h7; simpa using h7
    · cases h5
  · simp only [Option.pure_def, Option.some.injEq] at h6
    exact h6.symm
theorem tendN_step {s s4 : TH} (h : tendN 4 s = some s4) {k : Nat} (hk : k < 4) {sk : TH} (hs : tendN k s = some sk) : ∃ s', tend1 sk k = some s' ∧ tendN (k + 1) s = some s' := by
  have hall : ∀ j, j ≤ 4 → (tendN j s).isSome = true := by
    have h4 : (tendN 4 s).isSome = true := by rw [h]; rfl
    have down : ∀ j, (tendN (j + 1) s).isSome = true → (tendN j s).isSome = true := by
      intro j hj
      cases hn : tendN j s with
      | none => simp [tendN, hn] at hj
      | some x => rfl
    intro j hj
    have h3 := down 3 h4
    have h2 := down 2 h3
    have h1 := down 1 h2
    have h0 := down 0 h1
    match j, hj with
    | 0, _ => exact h0
    | 1, _ => exact h1
    | 2, _ => exact h2
    | 3, _ => exact h3
    | 4, _ => exact h4
  have := hall (k + 1) (by omega)
  simp only [tendN, hs, Option.bind_some] at this ⊢
  cases ht : tend1 sk k with
  | none => rw [ht] at this; cases this
  | some s' => exact ⟨s', rfl, rfl⟩

set_option maxRecDepth 100000 in
set_option maxHeartbeats 2000000 in
theorem end_is {hb b g : Nat} {s s' : TH} {w : World} (hI : IsTH w hb b g s) (hs : tend s = some s') :
    Calls Try.prog 67 #[.pointer (some ⟨hb, 0, none⟩)] w fun e w' => e = .returned (.tuple #[]) ∧ IsTH w' hb b g s' ∧ Keeps (foot3 hb b g) w w' := by
  obtain ⟨s4, h4, hcy, rfl⟩ := tend_parts hs
  have H := Box.mk hI
  have H4 := Box.mk h4
  have K0 := Box.mk (Keeps.refl (foot3 hb b g) w)
  clear hI hs h4
  go_enter Try.func67, Try.ntmps67
  go_wp2_with fail
  go_loopw [3] (fun i wr => ∃ (k : Nat) (sk : TH), k ≤ 4 ∧ i = .int .i64 k ∧ Box (tendN k s = some sk) ∧ Box (IsTH wr hb b g sk) ∧ Box (Keeps (foot3 hb b g) w wr)) (fun i _ => 4 - (intOf i).toNat)
  case atStart => exact ⟨0, s, Nat.zero_le _, rfl, ⟨rfl⟩, H, K0⟩
  case round =>
    clear H K0
    obtain ⟨k, sk, hk, rfl, HN, HS, K⟩ := hrel
    by_cases hk4 : k < 4
    · have hk0 : (0 : Int) ≤ (k : Int) := by omega
      have hk1 : (k : Int) < 4 := by omega
      obtain ⟨s', ht, hN'⟩ := tendN_step H4.out hk4 HN.out
      obtain ⟨W, hj, hsum, rfl⟩ := tend1_parts ht
      obtain ⟨n0, hn0⟩ : ∃ n, lget sk k 0 = n := ⟨_, rfl⟩
      obtain ⟨n2, hn2⟩ : ∃ n, lget sk k 2 = n := ⟨_, rfl⟩
      rw [hn0, hn2] at hN' hsum
      obtain ⟨p0, hp0⟩ : ∃ p, thead k 0 = p := ⟨_, rfl⟩
      obtain ⟨p2, hp2⟩ : ∃ p, thead k 2 = p := ⟨_, rfl⟩
      have hd0 : ∀ W, Calls Try.prog 70 #[.int .i64 k, .int .i64 0] W fun e w' => e = .returned (.int .i64 p0) ∧ w' = W := fun W => by rw [← hp0]; exact head_is k 0 W (by omega) (by omega)
      have hd2 : ∀ W, Calls Try.prog 70 #[.int .i64 k, .int .i64 2] W fun e w' => e = .returned (.int .i64 p2) ∧ w' = W := fun W => by rw [← hp2]; exact head_is k 2 W (by omega) (by omega)
      rw [hp0, hp2] at hj
      have Hd := Box.mk (And.intro hd0 hd2)
      have Hj := Box.mk hj
      have HN' := Box.mk hN'
      have Hn := Box.mk (And.intro hn0 hn2)
      have hst := HS.out.store
      clear hd0 hd2 hj hN' ht hn0 hn2 hp0 hp2 HN
      go_wp2_with fail
      go_region_held3 (fun w' => w'.cell? ⟨hb, 0, none⟩ = some (.pointer (some ⟨b, 0, none⟩))) (first | exact kj.cell hst (by have := HS.out.ne; unfold foot; simp only; omega) | go_keep) (first | (go_at_call 70; refine (Hd.out.1 _).mono ?_; rintro e w2 ⟨rfl, rfl⟩) | (go_at_call 70; refine (Hd.out.2 _).mono ?_; rintro e w2 ⟨rfl, rfl⟩) | (go_at_call 93; refine (ojoin_is (w := wr.drew) (HS.out.keeps0 ((Keeps.refl (fun _ => False) wr).drew)).iw Hj.out).mono ?_; rintro e w3 ⟨rfl, hI3, kj⟩))
      have kj' : Keeps (foot b g) wr w3 := ⟨kj.os, kj.tape, kj.output, kj.size, kj.block⟩
      have H3 := Box.mk (HS.out.ring kj' hI3)
      have K3 := Box.mk (K.out.trans (kj'.mono (S' := foot3 hb b g) (fun i _ h => Or.inr h)))
      obtain ⟨ns, hns⟩ : ∃ ns, n0 + n2 = ns := ⟨_, rfl⟩
      have hns3 : (n0 : Int) + (n2 : Int) = (ns : Int) := by omega
      have hnsb : ns < 1000000 := by omega
      rw [hns] at HN'
      have hc0 := H3.out.lists (i := 4 * k + 0) (by omega)
      have hc2 := H3.out.lists (i := 4 * k + 2) (by omega)
      have hf0 := H3.out.frozen (10 + (4 * k + 0))
      have hput := H3.out.putList (i := 4 * k + 0) (by omega) ns
      rw [show sk.lists.getD (4 * k + 0) 0 = n0 from Hn.out.1, show 10 + (4 * k + 0) = 10 + k * 4 by omega] at hc0
      rw [show sk.lists.getD (4 * k + 2) 0 = n2 from Hn.out.2, show 10 + (4 * k + 2) = 10 + k * 4 + 2 by omega] at hc2
      rw [show 10 + (4 * k + 0) = 10 + k * 4 by omega] at hf0 hput
      have HP := Box.mk (hput.keeps0 ((Keeps.refl (fun _ => False) _).drew))
      have KP := Box.mk (K3.out.setCell (p := ⟨hb, 10 + k * 4, none⟩) (fun _ => Or.inl rfl) (.int .i64 (ns : Int))).drew
      clear hput kj kj' hI3 hst H3 K3 HS K hns hsum
      go_wp2_with fail
      go_region
      generalize (w3.setCell ⟨hb, 10 + k * 4, none⟩ (.int .i64 (ns : Int))).drew = w4 at *
      clear hc0 hc2 hf0
      have hf2 := HP.out.frozen (10 + (4 * k + 2))
      have hc2 := HP.out.lists (i := 4 * k + 2) (by omega)
      have hput := HP.out.putList (i := 4 * k + 2) (by omega) 0
      rw [show 10 + (4 * k + 2) = 10 + k * 4 + 2 by omega] at hf2 hput hc2
      have HP2 := Box.mk hput
      have KP2 := Box.mk (KP.out.setCell (p := ⟨hb, 10 + k * 4 + 2, none⟩) (fun _ => Or.inl rfl) (.int .i64 ((0 : Nat) : Int)))
      clear hput HP KP
      go_wp2_with fail
      go_roundw
      case rel => exact ⟨k + 1, _, by omega, by go_num, HN', HP2, KP2⟩
      case measure => simp [intOf]; omega
    · have hk4' : k = 4 := by omega
      subst hk4'
      have e : sk = s4 := by
        have h := HN.out
        rw [H4.out] at h
        injection h with h
        exact h.symm
      subst e
      have hm := HS.out.marking
      have hc := HS.out.cycles
      have fm := HS.out.frozen 40
      have HP := Box.mk (HS.out.putMarking false)
      have KP := Box.mk (K.out.setCell (p := ⟨hb, 40, none⟩) (fun _ => Or.inl rfl) (.bool false))
      have hc' := HP.out.cycles
      have fc' := HP.out.frozen 41
      have hput := HP.out.putCycles (sk.cycles + 1)
      obtain ⟨cy, hcy2⟩ : ∃ cy, sk.cycles = cy := ⟨_, rfl⟩
      simp only at hc'
      rw [hcy2] at hc hc' hput hcy
      rw [show ((cy + 1 : Nat) : Int) = (cy : Int) + 1 by omega] at hput
      have HP2 := Box.mk hput
      have KP2 := Box.mk (KP.out.setCell (p := ⟨hb, 41, none⟩) (fun _ => Or.inl rfl) (.int .i64 ((cy : Int) + 1)))
      have Hcy := Box.mk hcy2
      clear hput HP KP HS K hcy2 H4 HN
      go_wp2_with fail
      go_end0
      exact ⟨rfl, by rw [Hcy.out]; exact HP2.out, KP2.out⟩

end Go.Proofs.Ytbjlapfcnldpoaa

/- The heap's flip by its contract. -/
namespace Go.Proofs.Ytbjlapfcnldpoaa
set_option linter.unusedVariables false
set_option linter.unusedSimpArgs false
open Go.RowKit

theorem tflip1_parts {s s' : TH} {c : Nat} (h : tflip1 s c = some s') : ∃ W, oJoin s.W (thead c 2) (thead c 1) = some W ∧ s' = lset (lset { s with W := W } c 2 (lget s c 1)) c 1 0 := by
  unfold tflip1 at h
  simp only [Option.bind_eq_bind, Option.bind_eq_some_iff] at h
  obtain ⟨W, h1, h3⟩ := h
  simp only [Option.pure_def, Option.some.injEq] at h3
  exact ⟨W, h1, h3.symm⟩
def tflipN : Nat → TH → Option TH
  | 0, s => some s
  | k + 1, s => (tflipN k s).bind (fun s => tflip1 s k)
theorem tflip_parts {s s' : TH} (h : tflip s = some s') : ∃ s4, tflipN 4 { s with now := 1 - s.now } = some s4 ∧ shadeAll s4.roots { s4 with marking := true, tries := 0 } = some s' := by
  unfold tflip at h
  simp only [Option.bind_eq_bind, Option.bind_eq_some_iff] at h
  obtain ⟨s1, h1, s2, h2, s3, h3, s4, h4, h6⟩ := h
  refine ⟨s4, ?_, h6⟩
  simp [tflipN, h1, h2, h3, h4]
theorem tflipN_step {s s4 : TH} (h : tflipN 4 s = some s4) {k : Nat} (hk : k < 4) {sk : TH} (hs : tflipN k s = some sk) : ∃ s', tflip1 sk k = some s' ∧ tflipN (k + 1) s = some s' := by
  have hall : ∀ j, j ≤ 4 → (tflipN j s).isSome = true := by
    have h4 : (tflipN 4 s).isSome = true := by rw [h]; rfl
    have down : ∀ j, (tflipN (j + 1) s).isSome = true → (tflipN j s).isSome = true := by
      intro j hj
      cases hn : tflipN j s with
      | none => simp [tflipN, hn] at hj
      | some x => rfl
    intro j hj
    have h3 := down 3 h4
    have h2 := down 2 h3
    have h1 := down 1 h2
    have h0 := down 0 h1
    match j, hj with
    | 0, _ => exact h0
    | 1, _ => exact h1
    | 2, _ => exact h2
    | 3, _ => exact h3
    | 4, _ => exact h4
  have := hall (k + 1) (by omega)
  simp only [tflipN, hs, Option.bind_some] at this ⊢
  cases ht : tflip1 sk k with
  | none => rw [ht] at this; cases this
  | some s' => exact ⟨s', rfl, rfl⟩

theorem tmove_same {s s' : TH} {x c t mark l : Nat} (h : tmove s x c t mark l = some s') : s'.now = s.now ∧ s'.roots = s.roots ∧ s'.marking = s.marking ∧ s'.start = s.start ∧ s'.count = s.count ∧ s'.k = s.k ∧ s'.cycles = s.cycles ∧ s'.wait = s.wait ∧ s'.tries = s.tries := by
  obtain ⟨hd, W1, W2, W3, -, -, -, -, -, rfl⟩ := tmove_parts h
  exact ⟨rfl, rfl, rfl, rfl, rfl, rfl, rfl, rfl, rfl⟩
theorem tshade_same {s s' : TH} {x : Nat} (h : tshade s x = some s') : s'.now = s.now ∧ s'.roots = s.roots ∧ s'.marking = s.marking ∧ s'.start = s.start ∧ s'.count = s.count ∧ s'.k = s.k ∧ s'.cycles = s.cycles ∧ s'.wait = s.wait ∧ s'.tries = s.tries := by
  obtain ⟨-, h1⟩ := tshade_parts h
  rcases h1 with ⟨-, rfl⟩ | ⟨q, k, hd, -, -, ⟨-, rfl⟩ | ⟨-, -, -, h2⟩⟩
  · exact ⟨rfl, rfl, rfl, rfl, rfl, rfl, rfl, rfl, rfl⟩
  · exact ⟨rfl, rfl, rfl, rfl, rfl, rfl, rfl, rfl, rfl⟩
  · have h3 := tmove_same h2
    exact h3
theorem shadeAll_step {l : List Nat} {s s' : TH} {k : Nat} (hk : k < l.length) (h : shadeAll (l.drop k) s = some s') : ∃ t, tshade s (l.getD k 0) = some t ∧ shadeAll (l.drop (k + 1)) t = some s' := by
  rw [List.drop_eq_getElem_cons hk] at h
  simp only [shadeAll, Option.bind_eq_some_iff] at h
  obtain ⟨t, h1, h2⟩ := h
  exact ⟨t, by simpa [List.getD, hk] using h1, h2⟩
theorem cut1 {l : List Nat} {n : Nat} (h : l.length = n + 1) : ∃ a t, l = a :: t ∧ t.length = n := by
  cases l with
  | nil => cases h
  | cons a t => exact ⟨a, t, rfl, by simpa using h⟩
theorem twelve {l : List Nat} (h : l.length = 12) : ∃ a0 a1 a2 a3 a4 a5 a6 a7 a8 a9 a10 a11, l = [a0, a1, a2, a3, a4, a5, a6, a7, a8, a9, a10, a11] := by
  obtain ⟨a0, l0, rfl, h0⟩ := cut1 h
  obtain ⟨a1, l1, rfl, h1⟩ := cut1 h0
  obtain ⟨a2, l2, rfl, h2⟩ := cut1 h1
  obtain ⟨a3, l3, rfl, h3⟩ := cut1 h2
  obtain ⟨a4, l4, rfl, h4⟩ := cut1 h3
  obtain ⟨a5, l5, rfl, h5⟩ := cut1 h4
  obtain ⟨a6, l6, rfl, h6⟩ := cut1 h5
  obtain ⟨a7, l7, rfl, h7⟩ := cut1 h6
  obtain ⟨a8, l8, rfl, h8⟩ := cut1 h7
  obtain ⟨a9, l9, rfl, h9⟩ := cut1 h8
  obtain ⟨a10, l10, rfl, h10⟩ := cut1 h9
  obtain ⟨a11, l11, rfl, h11⟩ := cut1 h10
  rw [List.length_eq_zero_iff] at h11
  subst h11
  exact ⟨a0, a1, a2, a3, a4, a5, a6, a7, a8, a9, a10, a11, rfl⟩
section
variable (a0 a1 a2 a3 a4 a5 a6 a7 a8 a9 a10 a11 : Nat) (w : World)
theorem rootAt0 : (Instr.index 93 (.agg #[.int .u64 a0, .int .u64 a1, .int .u64 a2, .int .u64 a3, .int .u64 a4, .int .u64 a5, .int .u64 a6, .int .u64 a7, .int .u64 a8, .int .u64 a9, .int .u64 a10, .int .u64 a11]) (.int .i64 ((0 : Nat) : Int))).run Try.prog w = .ok (.int .u64 ((([a0, a1, a2, a3, a4, a5, a6, a7, a8, a9, a10, a11] : List Nat).getD 0 0 : Nat) : Int)) w := by kernel_rfl
theorem rootAt1 : (Instr.index 93 (.agg #[.int .u64 a0, .int .u64 a1, .int .u64 a2, .int .u64 a3, .int .u64 a4, .int .u64 a5, .int .u64 a6, .int .u64 a7, .int .u64 a8, .int .u64 a9, .int .u64 a10, .int .u64 a11]) (.int .i64 ((1 : Nat) : Int))).run Try.prog w = .ok (.int .u64 ((([a0, a1, a2, a3, a4, a5, a6, a7, a8, a9, a10, a11] : List Nat).getD 1 0 : Nat) : Int)) w := by kernel_rfl
theorem rootAt2 : (Instr.index 93 (.agg #[.int .u64 a0, .int .u64 a1, .int .u64 a2, .int .u64 a3, .int .u64 a4, .int .u64 a5, .int .u64 a6, .int .u64 a7, .int .u64 a8, .int .u64 a9, .int .u64 a10, .int .u64 a11]) (.int .i64 ((2 : Nat) : Int))).run Try.prog w = .ok (.int .u64 ((([a0, a1, a2, a3, a4, a5, a6, a7, a8, a9, a10, a11] : List Nat).getD 2 0 : Nat) : Int)) w := by kernel_rfl
theorem rootAt3 : (Instr.index 93 (.agg #[.int .u64 a0, .int .u64 a1, .int .u64 a2, .int .u64 a3, .int .u64 a4, .int .u64 a5, .int .u64 a6, .int .u64 a7, .int .u64 a8, .int .u64 a9, .int .u64 a10, .int .u64 a11]) (.int .i64 ((3 : Nat) : Int))).run Try.prog w = .ok (.int .u64 ((([a0, a1, a2, a3, a4, a5, a6, a7, a8, a9, a10, a11] : List Nat).getD 3 0 : Nat) : Int)) w := by kernel_rfl
theorem rootAt4 : (Instr.index 93 (.agg #[.int .u64 a0, .int .u64 a1, .int .u64 a2, .int .u64 a3, .int .u64 a4, .int .u64 a5, .int .u64 a6, .int .u64 a7, .int .u64 a8, .int .u64 a9, .int .u64 a10, .int .u64 a11]) (.int .i64 ((4 : Nat) : Int))).run Try.prog w = .ok (.int .u64 ((([a0, a1, a2, a3, a4, a5, a6, a7, a8, a9, a10, a11] : List Nat).getD 4 0 : Nat) : Int)) w := by kernel_rfl
theorem rootAt5 : (Instr.index 93 (.agg #[.int .u64 a0, .int .u64 a1, .int .u64 a2, .int .u64 a3, .int .u64 a4, .int .u64 a5, .int .u64 a6, .int .u64 a7, .int .u64 a8, .int .u64 a9, .int .u64 a10, .int .u64 a11]) (.int .i64 ((5 : Nat) : Int))).run Try.prog w = .ok (.int .u64 ((([a0, a1, a2, a3, a4, a5, a6, a7, a8, a9, a10, a11] : List Nat).getD 5 0 : Nat) : Int)) w := by kernel_rfl
theorem rootAt6 : (Instr.index 93 (.agg #[.int .u64 a0, .int .u64 a1, .int .u64 a2, .int .u64 a3, .int .u64 a4, .int .u64 a5, .int .u64 a6, .int .u64 a7, .int .u64 a8, .int .u64 a9, .int .u64 a10, .int .u64 a11]) (.int .i64 ((6 : Nat) : Int))).run Try.prog w = .ok (.int .u64 ((([a0, a1, a2, a3, a4, a5, a6, a7, a8, a9, a10, a11] : List Nat).getD 6 0 : Nat) : Int)) w := by kernel_rfl
theorem rootAt7 : (Instr.index 93 (.agg #[.int .u64 a0, .int .u64 a1, .int .u64 a2, .int .u64 a3, .int .u64 a4, .int .u64 a5, .int .u64 a6, .int .u64 a7, .int .u64 a8, .int .u64 a9, .int .u64 a10, .int .u64 a11]) (.int .i64 ((7 : Nat) : Int))).run Try.prog w = .ok (.int .u64 ((([a0, a1, a2, a3, a4, a5, a6, a7, a8, a9, a10, a11] : List Nat).getD 7 0 : Nat) : Int)) w := by kernel_rfl
theorem rootAt8 : (Instr.index 93 (.agg #[.int .u64 a0, .int .u64 a1, .int .u64 a2, .int .u64 a3, .int .u64 a4, .int .u64 a5, .int .u64 a6, .int .u64 a7, .int .u64 a8, .int .u64 a9, .int .u64 a10, .int .u64 a11]) (.int .i64 ((8 : Nat) : Int))).run Try.prog w = .ok (.int .u64 ((([a0, a1, a2, a3, a4, a5, a6, a7, a8, a9, a10, a11] : List Nat).getD 8 0 : Nat) : Int)) w := by kernel_rfl
theorem rootAt9 : (Instr.index 93 (.agg #[.int .u64 a0, .int .u64 a1, .int .u64 a2, .int .u64 a3, .int .u64 a4, .int .u64 a5, .int .u64 a6, .int .u64 a7, .int .u64 a8, .int .u64 a9, .int .u64 a10, .int .u64 a11]) (.int .i64 ((9 : Nat) : Int))).run Try.prog w = .ok (.int .u64 ((([a0, a1, a2, a3, a4, a5, a6, a7, a8, a9, a10, a11] : List Nat).getD 9 0 : Nat) : Int)) w := by kernel_rfl
theorem rootAt10 : (Instr.index 93 (.agg #[.int .u64 a0, .int .u64 a1, .int .u64 a2, .int .u64 a3, .int .u64 a4, .int .u64 a5, .int .u64 a6, .int .u64 a7, .int .u64 a8, .int .u64 a9, .int .u64 a10, .int .u64 a11]) (.int .i64 ((10 : Nat) : Int))).run Try.prog w = .ok (.int .u64 ((([a0, a1, a2, a3, a4, a5, a6, a7, a8, a9, a10, a11] : List Nat).getD 10 0 : Nat) : Int)) w := by kernel_rfl
theorem rootAt11 : (Instr.index 93 (.agg #[.int .u64 a0, .int .u64 a1, .int .u64 a2, .int .u64 a3, .int .u64 a4, .int .u64 a5, .int .u64 a6, .int .u64 a7, .int .u64 a8, .int .u64 a9, .int .u64 a10, .int .u64 a11]) (.int .i64 ((11 : Nat) : Int))).run Try.prog w = .ok (.int .u64 ((([a0, a1, a2, a3, a4, a5, a6, a7, a8, a9, a10, a11] : List Nat).getD 11 0 : Nat) : Int)) w := by kernel_rfl
end
theorem rootAt (a0 a1 a2 a3 a4 a5 a6 a7 a8 a9 a10 a11 k : Nat) (hk : k < 12) (w : World) : (Instr.index 93 (.agg #[.int .u64 a0, .int .u64 a1, .int .u64 a2, .int .u64 a3, .int .u64 a4, .int .u64 a5, .int .u64 a6, .int .u64 a7, .int .u64 a8, .int .u64 a9, .int .u64 a10, .int .u64 a11]) (.int .i64 k)).run Try.prog w = .ok (.int .u64 (([a0, a1, a2, a3, a4, a5, a6, a7, a8, a9, a10, a11] : List Nat).getD k 0 : Nat)) w := by
  have : k = 0 ∨ k = 1 ∨ k = 2 ∨ k = 3 ∨ k = 4 ∨ k = 5 ∨ k = 6 ∨ k = 7 ∨ k = 8 ∨ k = 9 ∨ k = 10 ∨ k = 11 := by omega
  rcases this with rfl | rfl | rfl | rfl | rfl | rfl | rfl | rfl | rfl | rfl | rfl | rfl
  · exact rootAt0 a0 a1 a2 a3 a4 a5 a6 a7 a8 a9 a10 a11 w
  · exact rootAt1 a0 a1 a2 a3 a4 a5 a6 a7 a8 a9 a10 a11 w
  · exact rootAt2 a0 a1 a2 a3 a4 a5 a6 a7 a8 a9 a10 a11 w
  · exact rootAt3 a0 a1 a2 a3 a4 a5 a6 a7 a8 a9 a10 a11 w
  · exact rootAt4 a0 a1 a2 a3 a4 a5 a6 a7 a8 a9 a10 a11 w
  · exact rootAt5 a0 a1 a2 a3 a4 a5 a6 a7 a8 a9 a10 a11 w
  · exact rootAt6 a0 a1 a2 a3 a4 a5 a6 a7 a8 a9 a10 a11 w
  · exact rootAt7 a0 a1 a2 a3 a4 a5 a6 a7 a8 a9 a10 a11 w
  · exact rootAt8 a0 a1 a2 a3 a4 a5 a6 a7 a8 a9 a10 a11 w
  · exact rootAt9 a0 a1 a2 a3 a4 a5 a6 a7 a8 a9 a10 a11 w
  · exact rootAt10 a0 a1 a2 a3 a4 a5 a6 a7 a8 a9 a10 a11 w
  · exact rootAt11 a0 a1 a2 a3 a4 a5 a6 a7 a8 a9 a10 a11 w

set_option maxRecDepth 100000 in
set_option maxHeartbeats 2000000 in
theorem flip_is {hb b g : Nat} {s s' : TH} {w : World} (hI : IsTH w hb b g s) (hs : tflip s = some s') (hnow : s.now ≤ 1) :
    Calls Try.prog 64 #[.pointer (some ⟨hb, 0, none⟩)] w fun e w' => e = .returned (.tuple #[]) ∧ IsTH w' hb b g s' ∧ Keeps (foot3 hb b g) w w' := by
  obtain ⟨s4, h4, hsh⟩ := tflip_parts hs
  obtain ⟨nw, hnw⟩ : ∃ nw, s.now = nw := ⟨_, rfl⟩
  rw [hnw] at hnow h4
  obtain ⟨z, hz⟩ : ∃ z, 1 - nw = z := ⟨_, rfl⟩
  have hz2 : 1 - (nw : Int) = (z : Int) := by omega
  have hz1 : z ≤ 1 := by omega
  have hwz : IntKind.i64.wrap (z : Int) = (z : Int) := by
    simp only [IntKind.wrap]
    simp [IntKind.bits, IntKind.signed]
    omega
  have hwz2 : wrap64 (z : Int) = (z : Int) := by unfold wrap64; omega
  rw [hz] at h4
  have hcn := hI.now
  rw [hnw] at hcn
  have hfn := hI.frozen 39
  have H := Box.mk (hI.putNow z)
  have H4 := Box.mk h4
  have Hsh := Box.mk hsh
  have K0 := Box.mk ((Keeps.refl (foot3 hb b g) w).setCell (p := ⟨hb, 39, none⟩) (fun _ => Or.inl rfl) (.int .i64 (z : Int)))
  clear hI hs h4 hsh hz hnw
  go_enter Try.func64, Try.ntmps64
  go_wp2_with fail
  clear hcn hfn
  go_loopw [13] (fun i wr => ∃ (k : Nat) (sk : TH), k ≤ 4 ∧ i = .int .i64 k ∧ Box (tflipN k { s with now := z } = some sk) ∧ Box (IsTH wr hb b g sk) ∧ Box (Keeps (foot3 hb b g) w wr)) (fun i _ => 4 - (intOf i).toNat)
  case atStart => exact ⟨0, { s with now := z }, Nat.zero_le _, rfl, ⟨rfl⟩, H, K0⟩
  case round =>
    clear H K0
    obtain ⟨k, sk, hk, rfl, HN, HS, K⟩ := hrel
    by_cases hk4 : k < 4
    · have hk0 : (0 : Int) ≤ (k : Int) := by omega
      have hk1 : (k : Int) < 4 := by omega
      obtain ⟨s', ht, hN'⟩ := tflipN_step H4.out hk4 HN.out
      obtain ⟨W, hj, rfl⟩ := tflip1_parts ht
      obtain ⟨n1, hn1⟩ : ∃ n, lget sk k 1 = n := ⟨_, rfl⟩
      rw [hn1] at hN'
      obtain ⟨p1, hp1⟩ : ∃ p, thead k 1 = p := ⟨_, rfl⟩
      obtain ⟨p2, hp2⟩ : ∃ p, thead k 2 = p := ⟨_, rfl⟩
      have hd1 : ∀ W, Calls Try.prog 70 #[.int .i64 k, .int .i64 1] W fun e w' => e = .returned (.int .i64 p1) ∧ w' = W := fun W => by rw [← hp1]; exact head_is k 1 W (by omega) (by omega)
      have hd2 : ∀ W, Calls Try.prog 70 #[.int .i64 k, .int .i64 2] W fun e w' => e = .returned (.int .i64 p2) ∧ w' = W := fun W => by rw [← hp2]; exact head_is k 2 W (by omega) (by omega)
      rw [hp1, hp2] at hj
      have Hd := Box.mk (And.intro hd1 hd2)
      have Hj := Box.mk hj
      have HN' := Box.mk hN'
      have Hn := Box.mk hn1
      have hst := HS.out.store
      clear hd1 hd2 hj hN' ht hn1 hp1 hp2 HN
      go_wp2_with fail
      go_region_held3 (fun w' => w'.cell? ⟨hb, 0, none⟩ = some (.pointer (some ⟨b, 0, none⟩))) (first | exact kj.cell hst (by have := HS.out.ne; unfold foot; simp only; omega) | go_keep) (first | (go_at_call 70; refine (Hd.out.1 _).mono ?_; rintro e w2 ⟨rfl, rfl⟩) | (go_at_call 70; refine (Hd.out.2 _).mono ?_; rintro e w2 ⟨rfl, rfl⟩) | (go_at_call 93; refine (ojoin_is (w := wr.drew) (HS.out.keeps0 ((Keeps.refl (fun _ => False) wr).drew)).iw Hj.out).mono ?_; rintro e w3 ⟨rfl, hI3, kj⟩))
      have kj' : Keeps (foot b g) wr w3 := ⟨kj.os, kj.tape, kj.output, kj.size, kj.block⟩
      have H3 := Box.mk (HS.out.ring kj' hI3)
      have K3 := Box.mk (K.out.trans (kj'.mono (S' := foot3 hb b g) (fun i _ h => Or.inr h)))
      have hc1 := H3.out.lists (i := 4 * k + 1) (by omega)
      have hc2 := H3.out.lists (i := 4 * k + 2) (by omega)
      have hf1 := H3.out.frozen (10 + (4 * k + 1))
      have hf2 := H3.out.frozen (10 + (4 * k + 2))
      have hA := (H3.out.putList (i := 4 * k + 2) (by omega) n1).putList (i := 4 * k + 1) (by omega) 0
      have hB := (H3.out.putList (i := 4 * k + 1) (by omega) 0).putList (i := 4 * k + 2) (by omega) n1
      rw [show sk.lists.getD (4 * k + 1) 0 = n1 from Hn.out] at hc1
      have e1 : 10 + (4 * k + 1) = 10 + k * 4 + 1 := by omega
      have e2 : 10 + (4 * k + 2) = 10 + k * 4 + 2 := by omega
      rw [e1] at hc1 hf1 hA hB
      rw [e2] at hc2 hf2 hA hB
      have HA := Box.mk hA
      have HBx := Box.mk hB
      clear hA hB kj kj' hI3 hst HS K e1 e2
      go_wp2_with fail
      go_region
      have HP := Box.mk (HA.out.keeps0 ((Keeps.refl (fun _ => False) _).drew))
      have KP := Box.mk ((((K3.out.setCell (p := ⟨hb, 10 + k * 4 + 2, none⟩) (fun _ => Or.inl rfl) (.int .i64 (n1 : Int))).setCell (p := ⟨hb, 10 + k * 4 + 1, none⟩) (fun _ => Or.inl rfl) (.int .i64 ((0 : Nat) : Int)))).drew)
      clear HA HBx H3 K3 hc1 hc2 hf1 hf2
      go_wp2_with fail
      go_roundw
      case rel => exact ⟨k + 1, _, by omega, by go_num, HN', HP, KP⟩
      case measure => simp [intOf]; omega
    · have hk4' : k = 4 := by omega
      subst hk4'
      have e : sk = s4 := by
        have h := HN.out
        rw [H4.out] at h
        injection h with h
        exact h.symm
      subst e
      have hm := HS.out.marking
      have htr := HS.out.tries
      have fm := HS.out.frozen 40
      have ft := HS.out.frozen 43
      have HP := Box.mk ((HS.out.putMarking true).putTries 0)
      have KP := Box.mk ((K.out.setCell (p := ⟨hb, 40, none⟩) (fun _ => Or.inl rfl) (.bool true)).setCell (p := ⟨hb, 43, none⟩) (fun _ => Or.inl rfl) (.int .i64 ((0 : Nat) : Int)))
      obtain ⟨a0, a1, a2, a3, a4, a5, a6, a7, a8, a9, a10, a11, hroots⟩ := twelve HS.out.ls.d
      have Hro := Box.mk hroots
      have r0 := HS.out.roots (i := 0) (by decide)
      have r1 := HS.out.roots (i := 1) (by decide)
      have r2 := HS.out.roots (i := 2) (by decide)
      have r3 := HS.out.roots (i := 3) (by decide)
      have r4 := HS.out.roots (i := 4) (by decide)
      have r5 := HS.out.roots (i := 5) (by decide)
      have r6 := HS.out.roots (i := 6) (by decide)
      have r7 := HS.out.roots (i := 7) (by decide)
      have r8 := HS.out.roots (i := 8) (by decide)
      have r9 := HS.out.roots (i := 9) (by decide)
      have r10 := HS.out.roots (i := 10) (by decide)
      have r11 := HS.out.roots (i := 11) (by decide)
      rw [hroots] at r0 r1 r2 r3 r4 r5 r6 r7 r8 r9 r10 r11
      simp only [List.getD, List.getElem?_cons_zero, List.getElem?_cons_succ, Option.getD_some, Nat.reduceAdd, Nat.add_zero] at r0 r1 r2 r3 r4 r5 r6 r7 r8 r9 r10 r11
      have Hnow : Box (sk.now ≤ 1) := ⟨by
        have : ∀ j t, tflipN j { s with now := z } = some t → t.now = z := by
          intro j
          induction j with
          | zero => intro t ht; simp only [tflipN, Option.some.injEq] at ht; rw [← ht]
          | succ j ih =>
            intro t ht
            simp only [tflipN, Option.bind_eq_some_iff] at ht
            obtain ⟨u, hu, ht⟩ := ht
            obtain ⟨W, -, rfl⟩ := tflip1_parts ht
            exact ih u hu
        rw [this 4 sk H4.out]
        exact hz1⟩
      clear HS K H4 HN hroots
      have hat := rootAt a0 a1 a2 a3 a4 a5 a6 a7 a8 a9 a10 a11
      go_wp2_with fail
      clear hm htr fm ft r0 r1 r2 r3 r4 r5 r6 r7 r8 r9 r10 r11
      go_loopw [55] (fun i wr => ∃ (k : Nat) (sj : TH), k ≤ 12 ∧ i = .int .i64 k ∧ Box (shadeAll (([a0, a1, a2, a3, a4, a5, a6, a7, a8, a9, a10, a11] : List Nat).drop k) sj = some s') ∧ Box (IsTH wr hb b g sj) ∧ Box (sj.now ≤ 1) ∧ Box (Keeps (foot3 hb b g) w wr)) (fun i _ => 12 - (intOf i).toNat)
      case atStart => exact ⟨0, _, Nat.zero_le _, rfl, ⟨by have := Hsh.out; rw [← Hro.out]; exact this⟩, HP, Hnow, KP⟩
      case round =>
        clear HP KP Hnow Hsh
        obtain ⟨k, sj, hk, rfl, HN, HS, Hnow, K⟩ := hrel
        by_cases hk12 : k < 12
        · have hk0 : (0 : Int) ≤ (k : Int) := by omega
          have hk1 : (k : Int) < 12 := by omega
          obtain ⟨t, ht, hN'⟩ := shadeAll_step (l := [a0, a1, a2, a3, a4, a5, a6, a7, a8, a9, a10, a11]) hk12 HN.out
          have hix := hat k hk12
          obtain ⟨x, hx⟩ : ∃ x, ([a0, a1, a2, a3, a4, a5, a6, a7, a8, a9, a10, a11] : List Nat).getD k 0 = x := ⟨_, rfl⟩
          rw [hx] at ht hix
          have Ht := Box.mk ht
          have HN' := Box.mk hN'
          clear hx ht hN' HN hat
          go_wp2_with fail
          refine (shade_is HS.out Ht.out Hnow.out).mono ?_
          rintro e w2 ⟨rfl, hI2, k2⟩
          have H2 := Box.mk hI2
          have K2 := Box.mk (K.out.trans k2)
          have Hn2 : Box (t.now ≤ 1) := ⟨by rw [(tshade_same Ht.out).1]; exact Hnow.out⟩
          clear hI2 k2 HS K
          go_wp2_with fail
          go_roundw
          case rel => exact ⟨k + 1, _, by omega, by go_num, HN', H2, Hn2, K2⟩
          case measure => simp [intOf]; omega
        · have hk12' : k = 12 := by omega
          subst hk12'
          have e : sj = s' := by
            have h := HN.out
            simp only [List.drop, shadeAll, Option.some.injEq] at h
            exact h
          subst e
          go_wp2_with fail
          go_end0
          exact ⟨rfl, HS.out, K.out⟩

end Go.Proofs.Ytbjlapfcnldpoaa

