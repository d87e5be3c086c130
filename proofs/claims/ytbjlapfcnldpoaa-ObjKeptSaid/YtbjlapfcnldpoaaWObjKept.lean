/- ObjKept's walk: objects that name one another, round about too, keep their fields through whole cycles. -/
import Derived.Test.YtbjlapfcnldpoaaKeptP
import Derived.Deep.QuietTactic
import Derived.BigQuiet
namespace Go.Proofs.Ytbjlapfcnldpoaa
set_option linter.unusedVariables false
set_option linter.unusedSimpArgs false
open Go.RowKit

theorem wvalue_fix (d : Nat) (h : d ≤ 1000) : wvalue ((8 * d : Nat) : Int) = (d : Int) := by
  have h1 : wkind ((8 * d : Nat) : Int) = 1 := by
    unfold wkind
    rw [if_pos (by omega)]
  unfold wvalue
  rw [h1, if_neg (by decide)]
  unfold wnum wrap64
  omega
theorem wsAt_two (w : World) (x y : Nat) (S : Nat → Prop) (hS : ¬ S w.heap.size) : WsAt (w.alloc (.cells #[.int .u64 (x : Int), .int .u64 (y : Int)] 30)) (some ⟨w.heap.size, 0, none⟩) 2 (fun j => if j = 0 then x else y) S :=
  fun i hi => ⟨_, 0, rfl, hS, by simp, by
    rw [cell_of_heap (heap_alloc_new _ _)]
    have : i = 0 ∨ i = 1 := by omega
    rcases this with rfl | rfl <;> rfl⟩

set_option maxRecDepth 100000 in
set_option maxHeartbeats 4000000 in
theorem ObjKept_walk (n0 turn : Int) (w : World) (hn0 : (Lit.int .i64 n0).wf = true) (hturn : (Lit.int .i64 turn).wf = true) :
    Calls Try.prog 12 #[.int .i64 n0, .int .i64 turn] w fun e w' => e = .returned (.bool true) ∧ Below w.heap.size w w' := by
  clear hn0 hturn
  obtain ⟨s, L, hB⟩ := beg_ex
  have HB := Box.mk hB
  clear hB
  obtain ⟨m, hd0⟩ : ∃ d : Nat, wrap64 ((IntKind.u64.wrap n0).tmod 60) = (d : Int) := ⟨(wrap64 ((IntKind.u64.wrap n0).tmod 60)).toNat, by have := umod_bd n0 60 (by omega) (by omega); omega⟩
  have hm : m < 60 := by have := umod_bd n0 60 (by omega) (by omega); omega
  obtain ⟨t, hd1⟩ : ∃ d : Nat, wrap64 ((IntKind.u64.wrap turn).tmod 900) = (d : Int) := ⟨(wrap64 ((IntKind.u64.wrap turn).tmod 900)).toNat, by have := umod_bd turn 900 (by omega) (by omega); omega⟩
  have ht : t < 900 := by have := umod_bd turn 900 (by omega) (by omega); omega
  obtain ⟨n, hn⟩ : ∃ n, 1 + m = n := ⟨_, rfl⟩
  have hnn : 1 + (m : Int) = (n : Int) := by omega
  have hm1 : (n : Int) - 1 = (m : Int) := by omega
  have Hn := Box.mk hn
  have hnb : 1 ≤ n ∧ n ≤ 60 := by omega
  clear hn
  go_enter Try.func12, Try.ntmps12
  go_wp2_with fail
  refine (begun_is HB.out _).mono ?_
  rintro e w1 ⟨⟨hb, b, g, rfl, hI, hl1, hl2, hl3⟩, k1⟩
  have H1 := Box.mk hI
  have K1 := Box.mk k1
  have Hlt : Box (w.heap.size ≤ hb ∧ w.heap.size ≤ b ∧ w.heap.size ≤ g) := ⟨by omega⟩
  clear hI k1 hl1 hl2 hl3
  go_wp2_with fail
  refine (awake06 _).mono ?_
  rintro e w2 ⟨rfl, k2⟩
  have H2 := Box.mk (H1.out.keeps0 k2)
  have K2 := Box.mk (K1.out.trans k2)
  clear k2 H1 K1
  go_wp2_with fail
  refine (wnil_is _).mono ?_
  rintro e w3 ⟨rfl, rfl⟩
  go_wp2_with fail
  refine (setroot_is (i := 0) (x := 4) H2.out (by decide) (by decide) (by unfold tvalue; simp [tcell])).mono ?_
  rintro e w4 ⟨rfl, hI4, k4⟩
  have H4 := Box.mk hI4
  have K4 := Box.mk (K2.out.trans' k4 (by have := Hlt.out; intro i hi h; unfold foot3 at h; omega))
  have HC4 : Box (Chain (setRoot s 0 4) L (fun _ => 0) 0) := ⟨Chain.zero HB.out⟩
  clear hI4 k4 H2 K2
  go_wp2_with fail
  go_loopw [41] (fun i wr => ∃ (j : Nat) (sj : TH) (Lj : Nat → Nat → List Nat) (U : Nat → Nat), j ≤ n ∧ i = .int .i64 j ∧ Box (Chain sj Lj U j) ∧ Box (IsTH wr hb b g sj) ∧ Box (Keeps (fun _ => False) w wr)) (fun i _ => n - (intOf i).toNat)
  case atStart => exact ⟨0, _, _, _, Nat.zero_le _, rfl, HC4, H4, K4⟩
  case round =>
    clear HC4 H4 K4
    obtain ⟨j, sj, Lj, U, hj, rfl, HC, H, K⟩ := hrel
    obtain ⟨F, hF⟩ : ∃ F, sj.roots.getD 0 0 = F := ⟨_, rfl⟩
    have HF := Box.mk hF
    have HR := Box.mk (root_is (i := 0) H.out (by decide))
    rw [hF] at HR
    clear hF
    by_cases hjn : j < n
    · have hj0 : (0 : Int) ≤ (j : Int) := by omega
      go_wp2_with fail
      refine HR.out.mono ?_
      rintro e v1 ⟨rfl, rfl⟩
      go_wp2_with fail
      refine (fix_is j _ (by omega)).mono ?_
      rintro e v2 ⟨rfl, rfl⟩
      have hc8 : ((8 * j : Nat) : Int) = 8 * (j : Int) := by omega
      go_wp2_with fail
      have KA := (Keeps.refl (fun _ => False) v2).alloc (.cells #[.int .u64 ((8 * j : Nat) : Int), .int .u64 (F : Int)] 30)
      have HA := Box.mk (H.out.keeps0 KA)
      have KA2 := Box.mk (K.out.trans KA)
      have HWA := Box.mk (wsAt_two v2 (8 * j) F (foot3 hb b g) (by have := H.out.lt; unfold foot3; omega))
      rw [hc8] at HA KA2 HWA
      clear KA
      refine (make_ok (tag := 1) (n := 2) HA.out HC.out.st (by have := HC.out.heap; omega) (by have := HC.out.heap; omega) (by decide) (by decide) (by decide) (by decide) HWA.out (fun i hi => by
        have : i = 0 ∨ i = 1 := by omega
        rcases this with rfl | rfl
        · exact goodW_nc (by
            show tcell (8 * j) = false
            unfold tcell
            have e : (8 * j % 8 == 1) = false := by rw [beq_eq_false_iff_ne]; omega
            rw [e]; rfl) (by show 8 * j < _; omega)
        · have h := HC.out.good
          rw [HF.out] at h
          exact h) (by
        have h := HC.out.heap.2.2
        show 0 < lget sj 0 0
        omega)).mono ?_
      rintro e v3 ⟨⟨s1, L1, u, rfl, hI3, hM⟩, k3⟩
      have H3 := Box.mk hI3
      have HM := Box.mk hM
      have K3 := Box.mk (KA2.out.trans' k3 (by have := Hlt.out; intro i hi h; unfold foot3 at h; omega))
      have HC3 := Box.mk (HC.out.next hM (if_pos rfl) (by rw [HF.out]; rfl))
      clear hI3 hM k3 H K HA KA2 HWA HC HF HR
      go_wp2_with fail
      refine (setroot_is (i := 0) H3.out (by decide) (HM.out.obj.small HM.out.st).2.1 HM.out.value).mono ?_
      rintro e v4 ⟨rfl, hI4, k4⟩
      have H4 := Box.mk hI4
      have K4 := Box.mk (K3.out.trans' k4 (by have := Hlt.out; intro i hi h; unfold foot3 at h; omega))
      clear hI4 k4 H3 K3 HM
      obtain ⟨V, hV⟩ := HC3.out
      have HV := Box.mk hV
      clear hV HC3
      go_wp2_with fail
      go_roundw
      case rel => exact ⟨j + 1, _, _, V, by omega, by go_num, HV, H4, K4⟩
      case measure => simp [intOf]; omega
    · have hjn2 : ¬ ((j : Int) < (n : Int)) := by omega
      have HJ : Box (j = n) := ⟨by omega⟩
      go_wp2_with fail
      refine HR.out.mono ?_
      rintro e v1 ⟨rfl, rfl⟩
      go_wp2_with fail
      have HCn : Box (Chain sj Lj U n) := ⟨by have h := HC.out; rw [HJ.out] at h; exact h⟩
      have HFt : Box (F = 8 * U (n - 1) + 1) := ⟨by rw [← HF.out]; exact HCn.out.top (by omega)⟩
      clear HC HF HR HJ hjn hjn2 hj
      go_loopw [15, 79] (fun v i wr => ∃ (k : Nat), k ≤ m ∧ i = .int .i64 k ∧ v = .int .u64 ((8 * U (n - 1 - k) + 1 : Nat) : Int) ∧ Box (IsTH wr hb b g sj) ∧ Box (Keeps (fun _ => False) w wr)) (fun _ i _ => m - (intOf i).toNat)
      case atStart => exact ⟨0, Nat.zero_le _, rfl, by rw [HFt.out, Nat.sub_zero], H, K⟩
      case round =>
        clear H K
        obtain ⟨k, hk, rfl, rfl, H, K⟩ := hrel
        obtain ⟨G, hG⟩ : ∃ G : Nat, 8 * U (n - 1 - k) + 1 = G := ⟨_, rfl⟩
        have HG := Box.mk hG
        rw [hG]
        clear hG
        by_cases hkm : k < m
        · have hk0 : (0 : Int) ≤ (k : Int) := by omega
          have HFd := Box.mk (oField_ok (i := 1) H.out HCn.out.st (HCn.out.obj (n - 1 - k) (by omega)) (by decide))
          have e1 : chF U (n - 1 - k) 1 = 8 * U (n - 1 - (k + 1)) + 1 := by
            unfold chF
            have := Hn.out
            rw [if_neg (by decide), if_neg (by omega), show n - 1 - k - 1 = n - 1 - (k + 1) from by omega]
          rw [HG.out, e1] at HFd
          clear e1
          go_wp2_with fail
          refine HFd.out.mono ?_
          rintro e v5 ⟨rfl, hI5, k5⟩
          have H5 := Box.mk hI5
          have K5 := Box.mk (K.out.trans' k5 (by have := Hlt.out; intro i hi h; unfold foot3 at h; omega))
          clear hI5 k5 H K HFd HG
          go_wp2_with fail
          go_roundw
          case rel => exact ⟨k + 1, by omega, by go_num, rfl, H5, K5⟩
          case measure => simp [intOf]; omega
        · have hkm2 : ¬ ((k : Int) < (m : Int)) := by omega
          have HK : Box (n - 1 - k = 0) := ⟨by have := Hn.out; omega⟩
          obtain ⟨s5, L5, e5, h5⟩ := HCn.out.shut (by omega)
          have HS := Box.mk (oSetField_ok (i := 1) (x := 8 * U (n - 1) + 1) H.out HCn.out.st (HCn.out.obj 0 (by omega)) (by decide) ((HCn.out.obj (n - 1) (by omega)).small HCn.out.st).2.1 (tvalue_obj (HCn.out.obj (n - 1) (by omega)) HCn.out.st) e5)
          have hG0 : 8 * U 0 + 1 = G := by rw [← HG.out, HK.out]
          rw [hG0, ← HFt.out] at HS
          have Hr5 := Box.mk h5
          clear e5 h5 hG0 HG HK hkm
          go_wp2_with fail
          refine HS.out.mono ?_
          rintro e v5 ⟨rfl, hI5, k5⟩
          have H5 := Box.mk hI5
          have K5 := Box.mk (K.out.trans' k5 (by have := Hlt.out; intro i hi h; unfold foot3 at h; omega))
          clear hI5 k5 H K HS HCn
          obtain ⟨s6, L6, e6, st6, ho6⟩ := Hr5.out.turn (t := t) (by have := Hr5.out.cyc; omega)
          have E6 := Box.mk e6
          have Hst6 := Box.mk st6
          have Ho6 := Box.mk ho6
          clear e6 st6 ho6
          go_wp2_with fail
          refine (incr_is H5.out E6.out Hr5.out.st.rep.now (by omega)).mono ?_
          rintro e v6 ⟨rfl, hI6, k6⟩
          have H6 := Box.mk hI6
          have K6 := Box.mk (K5.out.trans' k6 (by have := Hlt.out; intro i hi h; unfold foot3 at h; omega))
          clear hI6 k6 H5 K5 Hr5 E6
          obtain ⟨N, hN⟩ : ∃ N, 2 * n = N := ⟨_, rfl⟩
          have hN2 : 2 * (n : Int) = (N : Int) := by omega
          have HN := Box.mk hN
          clear hN
          go_wp2_with fail
          go_loopw [16, 102] (fun v i wr => ∃ (q : Nat), q ≤ N ∧ i = .int .i64 q ∧ v = .int .u64 ((8 * U (who n q) + 1 : Nat) : Int) ∧ Box (IsTH wr hb b g s6) ∧ Box (Keeps (fun _ => False) w wr)) (fun _ i _ => N - (intOf i).toNat)
          case atStart => exact ⟨0, Nat.zero_le _, rfl, by rw [HFt.out, who_zero (by omega)], H6, K6⟩
          case round =>
            clear H6 K6
            obtain ⟨q, hq, rfl, rfl, H, K⟩ := hrel
            obtain ⟨d, hd⟩ : ∃ d, who n q = d := ⟨_, rfl⟩
            rw [hd]
            have Hd := Box.mk hd
            have hdn : d < n := by rw [← hd]; exact who_lt (by omega) q
            clear hd
            obtain ⟨G, hG⟩ : ∃ G : Nat, 8 * U d + 1 = G := ⟨_, rfl⟩
            have HG := Box.mk hG
            rw [hG]
            by_cases hqN : q < N
            · have hq0 : (0 : Int) ≤ (q : Int) := by omega
              have HF0 := Box.mk (oField_ok (i := 0) H.out Hst6.out (Ho6.out d hdn) (by decide))
              have HF1 := Box.mk (fun (W : World) (hW : IsTH W hb b g s6) => oField_ok (i := 1) hW Hst6.out (Ho6.out d hdn) (by decide))
              rw [hG, show rgF U n d 0 = 8 * d from rfl] at HF0
              rw [hG, show rgF U n d 1 = 8 * U ((d + n - 1) % n) + 1 from rfl, ← Hd.out, who_next (by omega)] at HF1
              clear hG
              go_wp2_with fail
              refine HF0.out.mono ?_
              rintro e v7 ⟨rfl, hI7, k7⟩
              have H7 := Box.mk hI7
              have K7 := Box.mk (K.out.trans' k7 (by have := Hlt.out; intro i hi h; unfold foot3 at h; omega))
              clear hI7 k7 H K HF0
              have HV : Box (∀ W, Calls Try.prog 53 #[.int .u64 (8 * (d : Int))] W fun e w' => e = .returned (.int .i64 (d : Int)) ∧ w' = W) := ⟨fun W => by
                have h := wvalue_is ((8 * d : Nat) : Int) W (by unfold IsWd; omega)
                rw [wvalue_fix d (by omega), show ((8 * d : Nat) : Int) = 8 * (d : Int) from by omega] at h
                exact h⟩
              have hqd : (m : Int) - (q : Int) % (n : Int) = (d : Int) := by
                have h1 := Hd.out
                have h2 := Hn.out
                have h3 := Nat.mod_lt q (show 0 < n by omega)
                unfold who at h1
                have h4 : ((q % n : Nat) : Int) = (q : Int) % (n : Int) := Int.natCast_emod q n
                rw [← h4]
                omega
              have hdt : ((d : Int) + (n : Int)).tmod (n : Int) = (d : Int) := by
                rw [Int.tmod_eq_emod_of_nonneg (by omega), Int.add_emod_right]
                exact Int.emod_eq_of_lt (by omega) (by omega)
              have hdm : ((d : Int) + (n : Int)) % (n : Int) = (d : Int) := by
                rw [Int.add_emod_right]
                exact Int.emod_eq_of_lt (by omega) (by omega)
              have hdm2 : (d : Int) % (n : Int) = (d : Int) := Int.emod_eq_of_lt (by omega) (by omega)
              go_wp2_with fail
              go_quiet ((go_at_call 53; exact Calls.quiet_of_same (HV.out _)))
              have H8 := Box.mk (H7.out.keeps0 ((Keeps.refl (fun _ => False) v7).drewN nq))
              have K8 := Box.mk (K7.out.drewN nq)
              clear H7 K7
              go_wp2_with fail
              refine (HF1.out _ H8.out).mono ?_
              rintro e v9 ⟨rfl, hI9, k9⟩
              have H9 := Box.mk hI9
              have K9 := Box.mk (K8.out.trans' k9 (by have := Hlt.out; intro i hi h; unfold foot3 at h; omega))
              clear hI9 k9 H8 K8 HF1 HV HG
              go_wp2_with fail
              go_roundw
              case rel => exact ⟨q + 1, by omega, by go_num, rfl, H9, K9⟩
              case measure => simp [intOf]; omega
            · have hqN2 : ¬ ((q : Int) < (N : Int)) := by omega
              have hGF : (G == F) = true := by
                rw [beq_iff_eq, HFt.out, ← hG, ← Hd.out, show q = 2 * n from by have := HN.out; omega, who_end (by omega)]
              have hGF2 : ((G : Int) == (F : Int)) = true := by rw [beq_iff_eq] at hGF ⊢; omega
              clear hGF hG
              go_wp2_with fail
              go_ret
              exact ⟨rfl, K.out.below (Nat.le_refl _) (fun _ h => h.elim)⟩

end Go.Proofs.Ytbjlapfcnldpoaa
