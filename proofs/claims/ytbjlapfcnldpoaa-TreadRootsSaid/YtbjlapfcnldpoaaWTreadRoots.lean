/- TreadRoots's walk: a register is read as it was set, whatever the collector does, and no other register is another one. -/
import Derived.Test.YtbjlapfcnldpoaaTRootsP
namespace Go.Proofs.Ytbjlapfcnldpoaa
set_option linter.unusedVariables false
set_option linter.unusedSimpArgs false
open Go.RowKit

/-- The registers behind k words. -/
def regsK (W : Nat → Nat) (k : Nat) : List Nat := (List.range k).map W ++ List.replicate (12 - k) 12
theorem regsK_set (W : Nat → Nat) {k : Nat} (hk : k < 12) : (regsK W k).set k (W k) = regsK W (k + 1) := by
  unfold regsK
  rw [List.set_append_right _ _ (by simp), show 12 - k = (12 - (k + 1)) + 1 by omega, List.replicate_succ, List.range_succ]
  simp
theorem regsK_get (W : Nat → Nat) {k i : Nat} (hi : i < k) : (regsK W k).getD i 0 = W i := by
  unfold regsK
  simp only [List.getD]
  rw [List.getElem?_append_left (by simpa using hi)]
  simp [hi]
theorem regsK_nc (W : Nat → Nat) (k : Nat) (h : ∀ i, i < k → tcell (W i) = false ∧ W i < 18446744073709551616) : NC (regsK W k) := by
  intro x hx
  unfold regsK at hx
  rcases List.mem_append.1 hx with h1 | h1
  · obtain ⟨i, hi, rfl⟩ := List.mem_map.1 h1
    exact h i (List.mem_range.1 hi)
  · rw [(List.mem_replicate.1 h1).2]
    decide
theorem regs0 (s0 : TH) (h : s0.roots = List.replicate 12 12) (W : Nat → Nat) : s0 = wro (regsK W 0) s0 := by
  have : regsK W 0 = s0.roots := by rw [h]; rfl
  unfold wro
  rw [this]

set_option maxRecDepth 100000 in
set_option maxHeartbeats 4000000 in
theorem TreadRoots_main (a : Option Addr) (len cap : Nat) (zs : List Int) (at_ n : Int) (w : World) (hz : IsRow .u64 w (.slice a len cap) zs) (ha : (Lit.int .i64 at_).wf = true) (hn : (Lit.int .i64 n).wf = true) :
    Calls Try.prog 3 #[.slice a len cap, .int .i64 at_, .int .i64 n] w fun e w' => e = .returned (.bool true) ∧ Below w.heap.size w w' := by
  have hlen := hz.len
  have HZ := Box.mk hz
  have hlm := hlen.2
  have h0 : ∃ s0, awkN 0 = some s0 := by
    cases hn : awkN 0 with
    | none => have := awk0_free; rw [hn] at this; cases this
    | some s0 => exact ⟨s0, rfl⟩
  obtain ⟨s0, h0⟩ := h0
  have H0 := Box.mk h0
  have HS0 := Box.mk (tlay_same (show tlay (pre 4 0 0 0 1) = some s0 from h0))
  obtain ⟨m, hd⟩ : ∃ d : Nat, wrap64 ((IntKind.u64.wrap n).tmod 50) = (d : Int) := ⟨(wrap64 ((IntKind.u64.wrap n).tmod 50)).toNat, by have := umod_bd n 50 (by omega) (by omega); omega⟩
  have hds : m < 50 := by have := umod_bd n 50 (by omega) (by omega); omega
  have h49 : (tincr m s0).isSome = true := by
    have h := incr49
    rw [h0, Option.bind_some] at h
    exact tincr_less h (by omega)
  obtain ⟨s1, hs1⟩ := Option.isSome_iff_exists.1 h49
  have HS1 := Box.mk hs1
  have hwf : ∀ i, i < len → 0 ≤ zs.getD i 0 ∧ zs.getD i 0 < 18446744073709551616 := by
    intro i hi
    have hmem : zs.getD i 0 ∈ zs := by
      rw [List.getD_eq_getElem?_getD, List.getElem?_eq_getElem (by omega)]
      simp
    have h2 : (Lit.int .u64 (zs.getD i 0)).wf = true := by
      cases hz with
      | empty => omega
      | full h1 h2 h3 h4 h5 => exact h5 _ hmem
    exact isWd_wf h2
  have HW := Box.mk hwf
  have hwfa : -9223372036854775808 ≤ at_ ∧ at_ ≤ 9223372036854775807 := by simpa [Lit.wf, IntKind.min, IntKind.max, IntKind.signed, IntKind.bits] using ha
  clear hz ha hn h0 hs1 h49 hwf hlen
  unfold maxLen at hlm
  obtain ⟨V, hV⟩ : ∃ V : Nat → Nat, ∀ i, V i = (zs.getD i 0).toNat := ⟨fun i => (zs.getD i 0).toNat, fun _ => rfl⟩
  have HV := Box.mk hV
  clear hV
  have HVI : Box (∀ i, i < len → zs.getD i 0 = (V i : Int) ∧ V i < 18446744073709551616) := ⟨fun i hi => by
    have := HW.out i hi
    rw [HV.out i]
    omega⟩
  go_enter Try.func3, Try.ntmps3
  go_wp2_with fail
  refine (tnew_is (c0 := 4) (c1 := 0) (c2 := 0) (c3 := 0) (k := 1) (s := s0) (by omega) (by omega) (by omega) (by omega) (by omega) (by omega) H0.out).mono ?_
  rintro e w1 ⟨hb, b, g, rfl, hI1, k1, hb1, hb2, hb3⟩
  have HB := Box.mk (And.intro hb1 (And.intro hb2 hb3))
  have H1 := Box.mk hI1
  have K1 := Box.mk k1
  clear hI1 k1 hb1 hb2 hb3
  go_wp2_with fail
  refine (awake05 _).mono ?_
  rintro e w2 ⟨rfl, k2⟩
  have H2 := Box.mk (H1.out.keeps0 k2)
  have K2 := Box.mk (K1.out.trans k2)
  clear k2 H1 K1
  by_cases hl12 : 12 < len
  · go_wp2_with fail
    refine (awake05 _).mono ?_
    rintro e w4 ⟨rfl, k4⟩
    have K4 := Box.mk (K2.out.trans k4)
    clear k4 K2
    go_wp2_with fail
    go_ret
    exact ⟨rfl, K4.out.below (Nat.le_refl _) (fun _ h => h.elim)⟩
  have hl12' : len ≤ 12 := by omega
  clear hl12
  go_wp2_with fail
  have H3 : Box (IsTH w2 hb b g (wro (regsK V 0) s0)) := ⟨by
    have e := regs0 s0 HS0.out.2.1 V
    rw [← e]
    exact H2.out⟩
  clear H2
  go_loopw [39] (fun i wr => ∃ (k : Nat), k ≤ len ∧ i = .int .i64 k ∧ Box (∀ i, i < k → tcell (V i) = false) ∧ Box (IsTH wr hb b g (wro (regsK V k) s0)) ∧ Box (Keeps (fun _ => False) w wr)) (fun i _ => len - (intOf i).toNat)
  case atStart => exact ⟨0, Nat.zero_le _, rfl, ⟨fun i hi => by omega⟩, H3, K2⟩
  case round =>
    clear H3 K2
    obtain ⟨k, hk, rfl, HNC, HS, K⟩ := hrel
    by_cases hlt : k < len
    · obtain ⟨pb, po, rfl, hpb, hcell⟩ := HZ.out.cell hlt
      have hcell' := K.out.cell hcell (fun h => h)
      clear hcell
      obtain ⟨hvi, hvb⟩ := HVI.out k hlt
      rw [hvi] at hcell'
      have hset := regsK_set V (show k < 12 by omega)
      obtain ⟨v, hv⟩ : ∃ v, V k = v := ⟨_, rfl⟩
      rw [hv] at hcell' hvb hset
      have hk0 : (0 : Int) ≤ (k : Int) := by omega
      have HVK := Box.mk hv
      have Hvb := Box.mk hvb
      have Hset := Box.mk hset
      clear hvi hv hvb hset
      go_wp2_with fail
      refine (wkind_is (v : Int) _ (isWd_nat Hvb.out)).mono ?_
      rintro e w4 ⟨rfl, rfl⟩
      cases htc : tcell v with
      | true =>
        have hk2 : (wkind (v : Int) == 2) = true := by
          have := (wkind_cell v Hvb.out).1.2 htc
          rw [this]; rfl
        clear htc
        go_wp2_with fail
        go_ret
        exact ⟨rfl, K.out.below (Nat.le_refl _) (fun _ h => h.elim)⟩
      | false =>
        have hk2 : (wkind (v : Int) == 2) = false := by
          rw [beq_eq_false_iff_ne]
          intro e
          have := (wkind_cell v Hvb.out).1.1 e
          rw [htc] at this
          cases this
        have hvt : tvalue (wro (regsK V k) s0) v = true := by unfold tvalue; rw [htc]; simp
        have Hvt := Box.mk hvt
        have HNC' : Box (∀ i, i < k + 1 → tcell (V i) = false) := ⟨fun i hi => by
          by_cases hik : i = k
          · rw [hik, HVK.out]; exact htc
          · exact HNC.out i (by omega)⟩
        clear hvt htc HNC
        go_wp2_with fail
        refine (setroot_is HS.out (show k < 12 by omega) Hvb.out Hvt.out).mono ?_
        rintro e w5 ⟨rfl, hI5, k5⟩
        have H5 : Box (IsTH w5 hb b g (wro (regsK V (k + 1)) s0)) := ⟨by
          have h := hI5
          unfold setRoot at h
          have e : (wro (regsK V k) s0).roots.set k v = regsK V (k + 1) := Hset.out
          rw [e] at h
          exact h⟩
        have K5 : Box (Keeps (fun _ => False) w w5) := ⟨K.out.trans' k5 (fun z hz h => by have := HB.out; unfold foot3 at h; omega)⟩
        clear hI5 k5 HS K hk2
        go_wp2_with fail
        go_roundw
        case rel => exact ⟨k + 1, by omega, by go_num, HNC', H5, K5⟩
        case measure => simp [intOf]; omega
    · have hkl : k = len := by omega
      subst hkl
      have HN : Box (NC (regsK V k)) := ⟨regsK_nc V k (fun i hi => ⟨HNC.out i hi, (HVI.out i hi).2⟩)⟩
      have HI : Box (tincr m (wro (regsK V k) s0) = some (wro (regsK V k) s1)) := ⟨by
        rw [tincr_wro HN.out (by rw [HS0.out.2.1]; intro x hx; rw [(List.mem_replicate.1 hx).2]; decide) (by rw [HS0.out.1]; decide), HS1.out]
        rfl⟩
      go_wp2_with fail
      refine (incr_is HS.out HI.out (show s0.now ≤ 1 by rw [HS0.out.1]; decide) (by omega)).mono ?_
      rintro e w3 ⟨rfl, hI3, k3⟩
      have H3 := Box.mk hI3
      have K3 : Box (Keeps (fun _ => False) w w3) := ⟨K.out.trans' k3 (fun z hz h => by have := HB.out; unfold foot3 at h; omega)⟩
      clear hI3 k3 HS K HI
      go_wp2_with fail
      refine (wnil_is _).mono ?_
      rintro e w4 ⟨rfl, rfl⟩
      by_cases hat : 0 ≤ at_ ∧ at_ < 12
      · obtain ⟨q, rfl⟩ := Int.eq_ofNat_of_zero_le hat.1
        have hq : q < 12 := by omega
        have hqd : decide ((q : Int) < 12) = true := decide_eq_true (by omega)
        clear hat
        go_wp2_with fail
        refine (setroot_is (i := q) (x := 4) H3.out hq (by decide) (by unfold tvalue; rfl)).mono ?_
        rintro e w5 ⟨rfl, hI5, k5⟩
        have H6 : Box (IsTH w5 hb b g (wro ((regsK V k).set q 4) s1)) := ⟨hI5⟩
        have K6 : Box (Keeps (fun _ => False) w w5) := ⟨K3.out.trans' k5 (fun z hz h => by have := HB.out; unfold foot3 at h; omega)⟩
        clear hI5 k5 H3 K3

        go_wp2_with fail
        go_loopw [74] (fun i wr => ∃ (j : Nat), j ≤ k ∧ i = .int .i64 j ∧ Box (IsTH wr hb b g (wro ((regsK V k).set q 4) s1)) ∧ Box (Keeps (fun _ => False) w wr)) (fun i _ => k - (intOf i).toNat)
        case atStart => exact ⟨0, Nat.zero_le _, rfl, H6, K6⟩
        case round =>
          clear H6 K6
          obtain ⟨j, hj, rfl, HS, K⟩ := hrel
          by_cases hjk : j < k
          · obtain ⟨pb, po, rfl, hpb, hcell⟩ := HZ.out.cell hjk
            have hcell' := K.out.cell hcell (fun h => h)
            clear hcell
            rw [(HVI.out j hjk).1] at hcell'
            have hgj := regsK_get V hjk
            obtain ⟨v, hv⟩ : ∃ v, V j = v := ⟨_, rfl⟩
            rw [hv] at hcell' hgj
            have Hgj := Box.mk hgj
            have hj0 : (0 : Int) ≤ (j : Int) := by omega
            clear hv hgj
            by_cases hjq : j = q
            · have e1 : ((j : Int) == (q : Int)) = true := by rw [beq_iff_eq]; omega
              have Hr : Box (((regsK V k).set q 4).getD j 0 = 4) := ⟨by
                subst hjq
                simp only [List.getD]
                rw [List.getElem?_set_self (by unfold regsK; simp; omega)]; rfl⟩
              clear hjq
              go_wp2_with fail
              refine (wnil_is _).mono ?_
              rintro e w7 ⟨rfl, rfl⟩
              go_wp2_with fail
              refine (root_is HS.out (show j < 12 by omega)).mono ?_
              rw [show (wro ((regsK V k).set q 4) s1).roots.getD j 0 = 4 from Hr.out]
              rintro e w7 ⟨rfl, rfl⟩
              go_wp2_with fail
              go_roundw
              case rel => exact ⟨j + 1, by omega, by go_num, HS, K⟩
              case measure => simp [intOf]; omega
            · have e1 : ((j : Int) == (q : Int)) = false := by rw [beq_eq_false_iff_ne]; omega
              have Hr : Box (((regsK V k).set q 4).getD j 0 = v) := ⟨by
                simp only [List.getD]
                rw [List.getElem?_set_ne (by omega)]
                exact Hgj.out⟩
              clear hjq
              go_wp2_with fail
              refine (root_is HS.out (show j < 12 by omega)).mono ?_
              rw [show (wro ((regsK V k).set q 4) s1).roots.getD j 0 = v from Hr.out]
              rintro e w7 ⟨rfl, rfl⟩
              go_wp2_with fail
              go_roundw
              case rel => exact ⟨j + 1, by omega, by go_num, HS, K⟩
              case measure => simp [intOf]; omega
          · go_wp2_with fail
            go_ret
            exact ⟨rfl, K.out.below (Nat.le_refl _) (fun _ h => h.elim)⟩
      · have hr : at_ < 0 ∨ 12 ≤ at_ := by omega
        have Hr := Box.mk hr
        clear hat
        rcases hr with hlo | hhi
        · have hg0 : decide (0 ≤ at_) = false := decide_eq_false (by omega)
          go_wp2_with fail
          refine (setroot_range at_ 4 H3.out Hr.out).mono ?_
          rintro e w5 ⟨rfl, rfl⟩
          go_wp2_with fail
          go_loopw [74] (fun i wr => ∃ (j : Nat), j ≤ k ∧ i = .int .i64 j ∧ Box (IsTH wr hb b g (wro (regsK V k) s1)) ∧ Box (Keeps (fun _ => False) w wr)) (fun i _ => k - (intOf i).toNat)
          case atStart => exact ⟨0, Nat.zero_le _, rfl, H3, K3⟩
          case round =>
            clear H3 K3
            obtain ⟨j, hj, rfl, HS, K⟩ := hrel
            by_cases hjk : j < k
            · obtain ⟨pb, po, rfl, hpb, hcell⟩ := HZ.out.cell hjk
              have hcell' := K.out.cell hcell (fun h => h)
              clear hcell
              rw [(HVI.out j hjk).1] at hcell'
              have hgj := regsK_get V hjk
              obtain ⟨v, hv⟩ : ∃ v, V j = v := ⟨_, rfl⟩
              rw [hv] at hcell' hgj
              have Hgj := Box.mk hgj
              have hj0 : (0 : Int) ≤ (j : Int) := by omega
              have e1 : ((j : Int) == at_) = false := by rw [beq_eq_false_iff_ne]; omega
              clear hv hgj
              go_wp2_with fail
              refine (root_is HS.out (show j < 12 by omega)).mono ?_
              rw [show (wro (regsK V k) s1).roots.getD j 0 = v from Hgj.out]
              rintro e w7 ⟨rfl, rfl⟩
              go_wp2_with fail
              go_roundw
              case rel => exact ⟨j + 1, by omega, by go_num, HS, K⟩
              case measure => simp [intOf]; omega
            · go_wp2_with fail
              go_ret
              exact ⟨rfl, K.out.below (Nat.le_refl _) (fun _ h => h.elim)⟩
        · have hg0 : decide (0 ≤ at_) = true := decide_eq_true (by omega)
          have hg1 : decide (at_ < 12) = false := decide_eq_false (by omega)
          go_wp2_with fail
          refine (setroot_range at_ 4 H3.out Hr.out).mono ?_
          rintro e w5 ⟨rfl, rfl⟩
          go_wp2_with fail
          go_loopw [74] (fun i wr => ∃ (j : Nat), j ≤ k ∧ i = .int .i64 j ∧ Box (IsTH wr hb b g (wro (regsK V k) s1)) ∧ Box (Keeps (fun _ => False) w wr)) (fun i _ => k - (intOf i).toNat)
          case atStart => exact ⟨0, Nat.zero_le _, rfl, H3, K3⟩
          case round =>
            clear H3 K3
            obtain ⟨j, hj, rfl, HS, K⟩ := hrel
            by_cases hjk : j < k
            · obtain ⟨pb, po, rfl, hpb, hcell⟩ := HZ.out.cell hjk
              have hcell' := K.out.cell hcell (fun h => h)
              clear hcell
              rw [(HVI.out j hjk).1] at hcell'
              have hgj := regsK_get V hjk
              obtain ⟨v, hv⟩ : ∃ v, V j = v := ⟨_, rfl⟩
              rw [hv] at hcell' hgj
              have Hgj := Box.mk hgj
              have hj0 : (0 : Int) ≤ (j : Int) := by omega
              have e1 : ((j : Int) == at_) = false := by rw [beq_eq_false_iff_ne]; omega
              clear hv hgj
              go_wp2_with fail
              refine (root_is HS.out (show j < 12 by omega)).mono ?_
              rw [show (wro (regsK V k) s1).roots.getD j 0 = v from Hgj.out]
              rintro e w7 ⟨rfl, rfl⟩
              go_wp2_with fail
              go_roundw
              case rel => exact ⟨j + 1, by omega, by go_num, HS, K⟩
              case measure => simp [intOf]; omega
            · go_wp2_with fail
              go_ret
              exact ⟨rfl, K.out.below (Nat.le_refl _) (fun _ h => h.elim)⟩

theorem TreadRoots_walk (v : Value) (zs : List Int) (at_ n : Int) (w : World) (hv : IsRow .u64 w v zs) (ha : (Lit.int .i64 at_).wf = true) (hn : (Lit.int .i64 n).wf = true) :
    Calls Try.prog 3 #[v, .int .i64 at_, .int .i64 n] w fun e w' => e = .returned (.bool true) ∧ Below w.heap.size w w' := by
  obtain ⟨a, len, cap, rfl⟩ := hv.form
  exact TreadRoots_main a len cap zs at_ n w hv ha hn

end Go.Proofs.Ytbjlapfcnldpoaa
