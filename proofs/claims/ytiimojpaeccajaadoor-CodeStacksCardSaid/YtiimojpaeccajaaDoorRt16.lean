/- The document's Right: may every instruction be? -/
import Derived.Test.YtiimojpaeccajaaDoorMay16
namespace Go.Proofs.YtiimojpaeccajaaDoor
set_option linter.unusedVariables false
set_option linter.unusedSimpArgs false
open Go.RowKit Go.Proofs.YtiimojpaeccajaaDoorW.PrintWords Go.Proofs.YtiimojpaeccajaaDoorW.PrintLast Go.Proofs.YtiimojpaeccajaaDoorW.PrintMore

set_option maxRecDepth 100000 in
theorem right16_is (l : List Ins) (A : Option Addr) (c : Nat) (w : World) (hC : Kd.C insK w A l.length l) (hc : l.length ≤ c) (hs : ∀ k, k < l.length → dsz (l.getD k insZ).f4 ≤ 4000) (hb : l.length ≤ 8000) :
    Calls Tryd.prog 21 #[.slice A l.length c] w fun e w' => e = .returned (.bool (chkB l)) ∧ Below w.heap.size w w' := by
  obtain ⟨n, hn⟩ : ∃ n, l.length = n := ⟨_, rfl⟩
  have HN : Box (chkB l = (decide (1 ≤ n) && l.all (insB n))) := ⟨by rw [← hn]; unfold chkB; rw [decide_eq_true hb, Bool.and_true]⟩
  have HC := Box.mk hC
  have Hs := Box.mk hs
  have Hn := Box.mk hn
  rw [hn] at hc hb ⊢
  clear hC hs hn
  have HY : Box (l.all (insB n) = true ↔ ∀ k, k < n → insB n (l.getD k insZ) = true) := ⟨by rw [← Hn.out]; exact all_getDI _ _⟩
  obtain ⟨r, hr⟩ : ∃ r, chkB l = r := ⟨_, rfl⟩
  have HR := Box.mk hr
  rw [hr]
  clear hr
  go_enter Tryd.func21, Tryd.ntmps21
  go_wp2_with fail
  go_loopw [3] (fun i wr => ∃ (j : Nat), j ≤ n ∧ i = .int .i64 j ∧ Box (∀ k, k < j → insB n (l.getD k insZ) = true) ∧ Box (Below w.heap.size w wr)) (fun i _ => n - (intOf i).toNat)
  case atStart => exact ⟨0, Nat.zero_le _, rfl, ⟨fun k hk => absurd hk (Nat.not_lt_zero _)⟩, ⟨Below.refl _ _⟩⟩
  case round =>
    obtain ⟨j, hj, rfl, Hp, K⟩ := hrel
    by_cases hjn : j < n
    · have hj0 : (0 : Int) ≤ (j : Int) := by omega
      obtain ⟨b, o, hA, hbl, hI⟩ := isI_elem HC.out (i := j) (by rw [Hn.out]; exact hjn)
      subst hA
      have hI' := hI.below K.out
      obtain ⟨c0, c1, c2, c3⟩ := hI'.ex
      obtain ⟨DA, dc, c4, c5, c6, c7, hdl, hdC⟩ := hI'.dat.ex
      rw [Nat.add_assoc] at c5 c6 c7
      have HM := Box.mk (may16_is (l.getD j insZ) n hdC hdl (Hs.out j (by rw [Hn.out]; exact hjn)) hb)
      clear hI hI' hdC hdl
      obtain ⟨v, hv⟩ : ∃ v, insB n (l.getD j insZ) = v := ⟨_, rfl⟩
      have Hv := Box.mk hv
      rw [hv] at HM
      clear hv
      generalize (l.getD j insZ).f0 = z0, (l.getD j insZ).f1 = z1, (l.getD j insZ).f2 = z2, (l.getD j insZ).f3 = z3, (l.getD j insZ).f4.f0 = z4, (l.getD j insZ).f4.f1 = z5, (l.getD j insZ).f4.f2 = z6, (l.getD j insZ).f4.f3.length = z7 at c0 c1 c2 c3 c4 c5 c6 c7 HM
      go_wp2_with fail
      refine HM.out.mono ?_
      rintro e w2 ⟨rfl, k2⟩
      have K2 := Box.mk (K.out.trans (k2.mono K.out.size))
      clear k2 c0 c1 c2 c3 c4 c5 c6 c7 HM
      cases v with
      | true =>
        have hp2 : Box (∀ k, k < j + 1 → insB n (l.getD k insZ) = true) := ⟨fun k hk => by
          by_cases e : k = j
          · rw [e]; exact Hv.out
          · exact Hp.out k (by omega)⟩
        go_wp2_with fail
        go_roundw
        case rel => exact ⟨j + 1, by omega, by go_num, hp2, K2⟩
        case measure => simp [intOf]; omega
      | false =>
        have hno : Box (r = false) := ⟨by
          rw [← HR.out, HN.out]
          cases h : l.all (insB n) with
          | false => simp
          | true =>
            have h3 := HY.out.1 h j hjn
            rw [Hv.out] at h3
            cases h3⟩
        go_wp2_with fail
        go_ret
        exact ⟨by rw [hno.out]; rfl, K2.out⟩
    · have hjn2 : j = n := by omega
      have hyes : Box (r = decide (1 ≤ n)) := ⟨by rw [← HR.out, HN.out, HY.out.2 (fun k hk => Hp.out k (by omega)), Bool.and_true]⟩
      clear Hp
      by_cases h1 : 1 ≤ n
      · go_wp2_with fail
        go_ret
        refine ⟨?_, K.out⟩
        rw [hyes.out, decide_eq_true h1]
        show Ending.returned (.bool (decide ((n : Int) ≤ 8000))) = _
        rw [decide_eq_true (by omega)]
      · have hn0 : n = 0 := by omega
        subst hn0
        go_wp2_with fail
        go_ret
        exact ⟨by rw [hyes.out]; rfl, K.out⟩

end Go.Proofs.YtiimojpaeccajaaDoor
