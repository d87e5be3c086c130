/- code.Check by its contract. -/
import Derived.Test.YtiimojpaeccajaaGreatDoorMay
namespace Go.Proofs.YtiimojpaeccajaaGreatDoor
set_option linter.unusedVariables false
set_option linter.unusedSimpArgs false
open Go.RowKit Go.Proofs.YtiimojpaeccajaaGreatDoorW.PrintWords Go.Proofs.YtiimojpaeccajaaGreatDoorW.PrintLast Go.Proofs.YtiimojpaeccajaaGreatDoorW.PrintMore

theorem may_no (x : Ins) (n : Nat) (w : World) (b o : Nat) (hI : IsI w b o x) (hn : n ≤ 8000) (hk : ∀ q : Nat, 1 ≤ q → q ≤ 14 → x.f0 ≠ (q : Int)) :
    Calls Tryz.prog 40 #[.pointer (some ⟨b, o, none⟩), .int .i64 n] w fun e w' => e = .returned (.bool (insB n x)) ∧ Below w.heap.size w w' := by
  obtain ⟨h0, h1, h2, h3⟩ := hI.ex
  have k1 : x.f0 ≠ 1 := hk 1 (by decide) (by decide)
  have k2 : x.f0 ≠ 2 := hk 2 (by decide) (by decide)
  have k3 : x.f0 ≠ 3 := hk 3 (by decide) (by decide)
  have k4 : x.f0 ≠ 4 := hk 4 (by decide) (by decide)
  have k5 : x.f0 ≠ 5 := hk 5 (by decide) (by decide)
  have k6 : x.f0 ≠ 6 := hk 6 (by decide) (by decide)
  have k7 : x.f0 ≠ 7 := hk 7 (by decide) (by decide)
  have k8 : x.f0 ≠ 8 := hk 8 (by decide) (by decide)
  have k9 : x.f0 ≠ 9 := hk 9 (by decide) (by decide)
  have k10 : x.f0 ≠ 10 := hk 10 (by decide) (by decide)
  have k11 : x.f0 ≠ 11 := hk 11 (by decide) (by decide)
  have k12 : x.f0 ≠ 12 := hk 12 (by decide) (by decide)
  have k13 : x.f0 ≠ 13 := hk 13 (by decide) (by decide)
  have k14 : x.f0 ≠ 14 := hk 14 (by decide) (by decide)
  have HR : insB n x = false := by unfold insB; simp [k1, k2, k3, k4, k5, k6, k7, k8, k9, k10, k11, k12, k13, k14]
  rw [HR]
  obtain ⟨op, A, B, T, d⟩ := x
  dsimp only at *
  have m1 : (op == 1) = false := by simpa using k1
  have m2 : (op == 2) = false := by simpa using k2
  have m3 : (op == 3) = false := by simpa using k3
  have m4 : (op == 4) = false := by simpa using k4
  have m5 : (op == 5) = false := by simpa using k5
  have m6 : (op == 6) = false := by simpa using k6
  have m7 : (op == 7) = false := by simpa using k7
  have m8 : (op == 8) = false := by simpa using k8
  have m9 : (op == 9) = false := by simpa using k9
  have m10 : (op == 10) = false := by simpa using k10
  have m11 : (op == 11) = false := by simpa using k11
  have m12 : (op == 12) = false := by simpa using k12
  have m13 : (op == 13) = false := by simpa using k13
  have m14 : (op == 14) = false := by simpa using k14
  clear HR hk hI k1 k2 k3 k4 k5 k6 k7 k8 k9 k10 k11 k12 k13 k14
  go_enter Tryz.func40, Tryz.ntmps40
  go_wp2_with fail
  go_quiet (fail)
  obtain ⟨W, hW⟩ : ∃ W, w.drewN nq = W := ⟨_, rfl⟩
  have g0 : W.cell? ⟨b, o, none⟩ = some (.int .i64 op) := by rw [← hW]; exact h0
  have kW : Below w.heap.size w W := by rw [← hW]; exact below_drewN w nq
  rw [hW]
  clear h0 h1 h2 h3 hW
  go_wp2_with fail
  go_ret
  exact ⟨rfl, kW⟩

theorem may_is (x : Ins) (n : Nat) (w : World) (b o : Nat) (hI : IsI w b o x) (hs : dsz x.f4 ≤ 4000) (hn : n ≤ 8000) :
    Calls Tryz.prog 40 #[.pointer (some ⟨b, o, none⟩), .int .i64 n] w fun e w' => e = .returned (.bool (insB n x)) ∧ Below w.heap.size w w' := by
  by_cases k1 : x.f0 = 1
  · exact may_1 x n w b o hI hs hn k1
  by_cases k2 : x.f0 = 2
  · exact may_2 x n w b o hI hs hn k2
  by_cases k3 : x.f0 = 3
  · exact may_3 x n w b o hI hs hn k3
  by_cases k4 : x.f0 = 4
  · exact may_4 x n w b o hI hs hn k4
  by_cases k5 : x.f0 = 5
  · exact may_5 x n w b o hI hs hn k5
  by_cases k6 : x.f0 = 6
  · exact may_6 x n w b o hI hs hn k6
  by_cases k7 : x.f0 = 7
  · exact may_7 x n w b o hI hs hn k7
  by_cases k8 : x.f0 = 8
  · exact may_8 x n w b o hI hs hn k8
  by_cases k9 : x.f0 = 9
  · exact may_9 x n w b o hI hs hn k9
  by_cases k10 : x.f0 = 10
  · exact may_10 x n w b o hI hs hn k10
  by_cases k11 : x.f0 = 11
  · exact may_11 x n w b o hI hs hn k11
  by_cases k12 : x.f0 = 12
  · exact may_12 x n w b o hI hs hn k12
  by_cases k13 : x.f0 = 13
  · exact may_13 x n w b o hI hs hn k13
  by_cases k14 : x.f0 = 14
  · exact may_14 x n w b o hI hs hn k14
  refine may_no x n w b o hI hn (fun q h1 h2 => ?_)
  have : q = 1 ∨ q = 2 ∨ q = 3 ∨ q = 4 ∨ q = 5 ∨ q = 6 ∨ q = 7 ∨ q = 8 ∨ q = 9 ∨ q = 10 ∨ q = 11 ∨ q = 12 ∨ q = 13 ∨ q = 14 := by omega
  rcases this with rfl | rfl | rfl | rfl | rfl | rfl | rfl | rfl | rfl | rfl | rfl | rfl | rfl | rfl <;> assumption

/-- May it be code? -/
def chkB (l : List Ins) : Bool := decide (1 ≤ l.length) && decide (l.length ≤ 8000) && l.all (insB l.length)
theorem all_getDI (l : List Ins) (p : Ins → Bool) : l.all p = true ↔ ∀ k, k < l.length → p (l.getD k insZ) = true := by
  rw [List.all_eq_true]
  constructor
  · intro h k hk
    have := h l[k] (List.getElem_mem hk)
    simpa [List.getD, List.getElem?_eq_getElem hk] using this
  · intro h x hx
    obtain ⟨k, hk, rfl⟩ := List.mem_iff_getElem.1 hx
    have := h k hk
    simpa [List.getD, List.getElem?_eq_getElem hk] using this

set_option maxRecDepth 100000 in
theorem check_is (l : List Ins) (A : Option Addr) (c : Nat) (w : World) (hC : Kd.C insK w A l.length l) (hc : l.length ≤ c) (hs : ∀ k, k < l.length → dsz (l.getD k insZ).f4 ≤ 4000) (hb : l.length ≤ 9223372036854775807) :
    Calls Tryz.prog 13 #[.slice A l.length c] w fun e w' => e = .returned (errV (if chkB l = true then 0 else 19)) ∧ Below w.heap.size w w' := by
  obtain ⟨n, hn⟩ : ∃ n, l.length = n := ⟨_, rfl⟩
  have HN : Box (chkB l = (decide (1 ≤ n) && decide (n ≤ 8000) && l.all (insB n))) := ⟨by rw [← hn]; rfl⟩
  have HC := Box.mk hC
  have Hs := Box.mk hs
  have Hn := Box.mk hn
  rw [hn] at hc hb ⊢
  clear hC hs hn
  by_cases h1 : n < 1
  · have h1' : ¬ 1 ≤ n := by omega
    have HF : Box (chkB l = false) := ⟨by rw [HN.out]; simp [h1']⟩
    have hn0 : n = 0 := by omega
    subst hn0
    rw [HF.out, if_neg (by decide)]
    go_enter Tryz.func13, Tryz.ntmps13
    go_wp2_with fail
    go_ret
    exact ⟨rfl, Below.refl _ _⟩
  replace h1 : 1 ≤ n := by omega
  by_cases h2 : 8000 < n
  · have h2' : ¬ n ≤ 8000 := by omega
    have HF : Box (chkB l = false) := ⟨by rw [HN.out]; simp [h2']⟩
    have hn0 : 8000 < n := by omega
    rw [HF.out, if_neg (by decide)]
    go_enter Tryz.func13, Tryz.ntmps13
    go_wp2_with fail
    go_ret
    exact ⟨rfl, Below.refl _ _⟩
  replace h2 : n ≤ 8000 := by omega
  have HY : Box (chkB l = true ↔ ∀ k, k < n → insB n (l.getD k insZ) = true) := ⟨by
    rw [HN.out, ← Hn.out]
    have e1 : decide (1 ≤ l.length) = true := by rw [Hn.out]; simpa using h1
    have e2 : decide (l.length ≤ 8000) = true := by rw [Hn.out]; simpa using h2
    rw [e1, e2, Bool.true_and, Bool.true_and, all_getDI]⟩
  obtain ⟨r, hr⟩ : ∃ r, errV (if chkB l = true then 0 else 19) = r := ⟨_, rfl⟩
  have HP1 : Box (chkB l = true → r = .nilIface) := ⟨fun h => by rw [← hr, h]; rfl⟩
  have HP2 : Box (chkB l = false → r = .iface 34 (.int .i64 19)) := ⟨fun h => by rw [← hr, h]; rfl⟩
  rw [hr]
  clear hr
  go_enter Tryz.func13, Tryz.ntmps13
  go_wp2_with fail
  go_loopw [15] (fun i wr => ∃ (j : Nat), j ≤ n ∧ i = .int .i64 j ∧ Box (∀ k, k < j → insB n (l.getD k insZ) = true) ∧ Box (Below w.heap.size w wr)) (fun i _ => n - (intOf i).toNat)
  case atStart => exact ⟨0, Nat.zero_le _, rfl, ⟨fun k hk => absurd hk (Nat.not_lt_zero _)⟩, ⟨Below.refl _ _⟩⟩
  case round =>
    obtain ⟨j, hj, rfl, Hp, K⟩ := hrel
    by_cases hjn : j < n
    · have hj0 : (0 : Int) ≤ (j : Int) := by omega
      obtain ⟨b, o, hA, hbl, hI⟩ := isI_elem HC.out (i := j) (by rw [Hn.out]; exact hjn)
      subst hA
      have HM := Box.mk (may_is (l.getD j insZ) n wr b (o + j * 8) (hI.below K.out) (Hs.out j (by rw [Hn.out]; exact hjn)) h2)
      clear hI
      obtain ⟨v, hv⟩ : ∃ v, insB n (l.getD j insZ) = v := ⟨_, rfl⟩
      have Hv := Box.mk hv
      rw [hv] at HM
      clear hv
      go_wp2_with fail
      refine HM.out.mono ?_
      rintro e w2 ⟨rfl, k2⟩
      have K2 := Box.mk (K.out.trans (k2.mono K.out.size))
      clear k2
      cases v with
      | true =>
        have hp2 : Box (∀ k, k < j + 1 → insB n (l.getD k insZ) = true) := ⟨fun k hk => by
          by_cases e : k = j
          · rw [e]; exact Hv.out
          · exact Hp.out k (by omega)⟩
        go_wp2_with fail
        go_roundw
        case rel => exact ⟨j + 1, by omega, by go_num, hp2, K2⟩
        case measure => simp [intOf]; omega
      | false =>
        have hno : Box (chkB l = false) := ⟨by
          cases h : chkB l with
          | false => rfl
          | true =>
            have h3 := HY.out.1 h j hjn
            rw [Hv.out] at h3
            cases h3⟩
        go_wp2_with fail
        go_ret
        exact ⟨by rw [HP2.out hno.out]; rfl, K2.out⟩
    · have hjn2 : j = n := by omega
      have hyes : Box (chkB l = true) := ⟨HY.out.2 (fun k hk => Hp.out k (by omega))⟩
      go_wp2_with fail
      go_ret
      exact ⟨by rw [HP1.out hyes.out]; rfl, K.out⟩

end Go.Proofs.YtiimojpaeccajaaGreatDoor
