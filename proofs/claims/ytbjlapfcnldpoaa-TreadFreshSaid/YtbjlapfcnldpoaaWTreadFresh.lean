/- TreadFresh's walk: a new cell has the shape that was asked for, and nothing in its fields, also where another one lay before. -/
import Derived.Test.YtbjlapfcnldpoaaTFreshP
namespace Go.Proofs.Ytbjlapfcnldpoaa
set_option linter.unusedVariables false
set_option linter.unusedSimpArgs false
open Go.RowKit

/-- What a round leaves. -/
structure FRound (s : TH) (L : Nat → Nat → List Nat) (cy : Nat) : Prop where
  st : St s L
  ng : NG L
  count : s.count = [6, 6, 6, 6]
  roots : s.roots = List.replicate 12 12
  k : s.k = 3
  cyc : s.cycles ≤ cy
theorem nc12 : NC (List.replicate 12 12) := by intro x hx; rw [(List.mem_replicate.1 hx).2]; decide
theorem fresh_take {s : TH} {L : Nat → Nat → List Nat} {cy form tag n : Nat} (h : FRound s L cy) (hcy : cy ≤ 1000) (hf : form = 1 ∨ form = 2) (ht : tag < 16) (hn : n ≤ 127) :
    ∃ s' L' u, talloc s form tag n = some (s', 8 * u + 1) ∧ FRound s' L' (cy + 3) ∧ IsC s'.count (tcls n) u ∧ colOf L' u ≠ 0 ∧ hform (wat s'.W u) = form ∧ htag (wat s'.W u) = tag ∧ Go.Proofs.Ytbjlapfcnldpoaa.hn (wat s'.W u) = n ∧ (∀ i, i < n → wat s'.W (u + 3 + i) = if form = 2 then 0 else 12) := by
  obtain ⟨s1, L1, e1, h1, c1, c2, c3, c4, hz⟩ := three_ok h.st h.ng (by rw [h.roots]; exact nc12) (by have := h.cyc; omega)
  have hfree := all_free h1 hz (tcls_lt n)
  have h6 : lget s1 (tcls n) 0 = 6 := by
    rw [hfree, c1, h.count]
    have := tcls_lt n
    have : tcls n = 0 ∨ tcls n = 1 ∨ tcls n = 2 ∨ tcls n = 3 := by omega
    rcases this with e | e | e | e <;> rw [e] <;> rfl
  obtain ⟨s', L', u, e2, tk⟩ := take_ok h1 hf ht hn (by omega)
  have hnow := h1.rep.now
  refine ⟨s', L', u, talloc_of (by rw [h.k]; exact e1) e2, ⟨tk.st, fun v hv => ?_, by rw [tk.count, c1]; exact h.count, by rw [tk.roots, c2]; exact h.roots, by rw [tk.k, c3]; exact h.k, by rw [tk.cyc]; have := h.cyc; omega⟩, by rw [tk.count]; exact tk.isC, ?_, ?_, ?_, ?_, tk.fld⟩
  · rw [tk.col] at hv
    by_cases e : v = u
    · rw [e, updc_at] at hv; omega
    · rw [updc_ne _ _ e, hz v] at hv; omega
  · rw [tk.col, updc_at]; omega
  · rw [tk.hdr]; exact hform_hdr (by omega) ht (by omega) (by omega)
  · rw [tk.hdr]; exact htag_hdr (by omega) ht (by omega) (by omega)
  · rw [tk.hdr]; exact hn_hdr (by omega) ht (by omega) (by omega)


theorem pick1 (w : World) : (Instr.index 43 (.agg #[.int .u64 0, .int .u64 12, .int .u64 0]) (.int .i64 1)).run Try.prog w = .ok (.int .u64 12) w := by kernel_rfl
set_option maxRecDepth 100000 in
set_option maxHeartbeats 4000000 in
theorem fresh1 (form tag n turns : Int) (w : World) (hd0 : wrap64 ((IntKind.u64.wrap form).tmod 2) = 0) :
    Calls Try.prog 4 #[.int .i64 form, .int .i64 tag, .int .i64 n, .int .i64 turns] w fun e w' => e = .returned (.bool true) ∧ Below w.heap.size w w' := by
  obtain ⟨t, hd1⟩ : ∃ d : Nat, wrap64 ((IntKind.u64.wrap tag).tmod 16) = (d : Int) := ⟨(wrap64 ((IntKind.u64.wrap tag).tmod 16)).toNat, by have := umod_bd tag 16 (by omega) (by omega); omega⟩
  have ht : t < 16 := by have := umod_bd tag 16 (by omega) (by omega); omega
  obtain ⟨z, hd2⟩ : ∃ d : Nat, wrap64 ((IntKind.u64.wrap n).tmod 128) = (d : Int) := ⟨(wrap64 ((IntKind.u64.wrap n).tmod 128)).toNat, by have := umod_bd n 128 (by omega) (by omega); omega⟩
  have hz : z < 128 := by have := umod_bd n 128 (by omega) (by omega); omega
  obtain ⟨m, hd3⟩ : ∃ d : Nat, wrap64 ((IntKind.u64.wrap turns).tmod 40) = (d : Int) := ⟨(wrap64 ((IntKind.u64.wrap turns).tmod 40)).toNat, by have := umod_bd turns 40 (by omega) (by omega); omega⟩
  have hm : m < 40 := by have := umod_bd turns 40 (by omega) (by omega); omega
  obtain ⟨s0, e0, h0, hc0, hf0⟩ := lay_ok 6 6 6 6 3 (by omega) (by omega) (by omega) (by omega)
  have hsm := tlay_same e0
  have HR : Box (FRound s0 (layL [6, 6, 6, 6] 4 0) 0) := ⟨h0, (fun v hv => by
    obtain ⟨c, hc, hm⟩ := col_ne0 hv (by omega)
    unfold layL at hm
    rw [if_neg (by omega)] at hm
    cases hm), hc0, hsm.2.1, hsm.2.2.2.2.1, by rw [hsm.2.2.2.2.2.2.2.1]; exact Nat.le_refl _⟩
  have E0 := Box.mk e0
  clear e0 h0 hc0 hf0 hsm
  go_enter Try.func4, Try.ntmps4
  go_wp2_with fail
  refine (tnew_is (c0 := 6) (c1 := 6) (c2 := 6) (c3 := 6) (k := 3) (s := s0) (by omega) (by omega) (by omega) (by omega) (by omega) (by omega) E0.out).mono ?_
  rintro e w1 ⟨hb, b, g, rfl, hI1, k1, hb1, hb2, hb3⟩
  have HB := Box.mk (And.intro hb1 (And.intro hb2 hb3))
  have H1 := Box.mk hI1
  have K1 := Box.mk k1
  clear hI1 k1 hb1 hb2 hb3
  go_wp2_with fail
  refine (awake05 _).mono ?_
  rintro e w2 ⟨rfl, k2⟩
  have H2 := Box.mk (H1.out.keeps0 k2)
  have K2 := Box.mk (K1.out.trans k2)
  clear k2 H1 K1
  go_wp2_with fail
  rw [hd3]
  go_loopw [54] (fun i wr => ∃ (j : Nat) (sj : TH) (Lj : Nat → Nat → List Nat), j ≤ m + 1 ∧ i = .int .i64 j ∧ Box (FRound sj Lj (3 * j)) ∧ Box (IsTH wr hb b g sj) ∧ Box (Keeps (fun _ => False) w wr)) (fun i _ => m + 1 - (intOf i).toNat)
  case atStart => exact ⟨0, s0, _, Nat.zero_le _, rfl, HR, H2, K2⟩
  case round =>
    clear HR H2 K2 E0
    obtain ⟨j, sj, Lj, hj, rfl, HR, HS, K⟩ := hrel
    by_cases hjm : j < m + 1
    · obtain ⟨s1, L1, u, tal, fr, huc, hcu, hh1, hh2, hh3, hfl⟩ := fresh_take (form := 1) (tag := t) (n := z) HR.out (by omega) (by omega) ht (by omega)
      have hnow : sj.now ≤ 1 := HR.out.st.rep.now
      have hk64 : sj.k ≤ 64 := by rw [HR.out.k]; decide
      have hub : u < 1000000 := by have := huc.lt; have := stt4_le fr.st.rep.big; omega
      have Hx : Box (8 * u + 1 < 18446744073709551616) := ⟨by omega⟩
      have Hp := Box.mk (fr.st.rep.tplace.2 ⟨rfl, huc⟩)
      have Hr := Box.mk (fr.st.rep.rdh huc)
      have Tal := Box.mk tal
      have Fr := Box.mk fr
      have Hs := Box.mk (And.intro hh1 (And.intro hh2 hh3))
      have Huc := Box.mk (And.intro huc hcu)
      have Hfl := Box.mk hfl
      have Hnow := Box.mk (And.intro hnow hk64)
      clear tal fr huc hcu hh1 hh2 hh3 hfl hnow hk64
      have hj2 : (j : Int) < 1 + (m : Int) := by omega
      go_wp2_with fail
      refine (alloc_f (form := 1) (tag := t) (n := z) HS.out Tal.out Hnow.out.1 Hnow.out.2 (by decide) (by decide) (by omega) (by omega)).mono ?_
      rintro e w3 ⟨rfl, hI3, k3⟩
      have H3 := Box.mk hI3
      have K3 : Box (Keeps (fun _ => False) w w3) := ⟨K.out.trans' k3 (fun z hz h => by have := HB.out; unfold foot3 at h; omega)⟩
      clear hI3 k3 HS K HR Tal Hnow
      go_wp2_with fail
      refine (shape_is H3.out Hx.out Hp.out Hr.out).mono ?_
      rw [Hs.out.1, Hs.out.2.1, Hs.out.2.2]
      rintro e w4 ⟨rfl, hI4, k4⟩
      have H4 := Box.mk hI4
      have K4 : Box (Keeps (fun _ => False) w w4) := ⟨K3.out.trans' k4 (fun z hz h => by have := HB.out; unfold foot3 at h; omega)⟩
      clear hI4 k4 H3 K3 Hp Hr
      have hz1 : ((t : Int) != (t : Int)) = false := by simp
      have hz2 : ((z : Int) != (z : Int)) = false := by simp
      go_wp2_with fail
      go_loopw [92] (fun i wr => ∃ (a : Nat) (sa : TH) (La : Nat → Nat → List Nat), a ≤ z ∧ i = .int .i64 a ∧ Box (FRound sa La (3 * j + 3)) ∧ Box (IsC sa.count (tcls z) u ∧ colOf La u ≠ 0) ∧ Box (hform (wat sa.W u) = 1 ∧ htag (wat sa.W u) = t ∧ hn (wat sa.W u) = z) ∧ Box (∀ i, a ≤ i → i < z → wat sa.W (u + 3 + i) = 12) ∧ Box (IsTH wr hb b g sa) ∧ Box (Keeps (fun _ => False) w wr)) (fun i _ => z - (intOf i).toNat)
      case atStart => exact ⟨0, s1, L1, Nat.zero_le _, rfl, Fr, Huc, Hs, ⟨fun i _ hi => Hfl.out i hi⟩, H4, K4⟩
      case round =>
        clear Fr Huc Hs Hfl H4 K4
        obtain ⟨a, sa, La, ha, rfl, Fr, Huc, Hs, Hfl, HS, K⟩ := hrel
        by_cases haz : a < z
        · have hR := Fr.out.st.rep
          have hp := hR.tplace.2 ⟨rfl, Huc.out.1⟩
          have hr := hR.rdh Huc.out.1
          have hwl := hR.rl.wl
          have hult := Huc.out.1.lt
          have hsz := szs_tcls (n := z) (by omega)
          have hfa := Hfl.out a (Nat.le_refl _) haz
          obtain ⟨s5, L5, es5, k5⟩ := set_ok Fr.out.st (i := a) (x := 4) Huc.out.1 Huc.out.2 (by rw [Hs.out.2.2]; exact haz) (by decide) (fun _ c' v _ e => by omega)
          have Hf := Box.mk Hs.out
          have HG : Box (Calls Try.prog 23 #[.pointer (some ⟨hb, 0, none⟩), .int .u64 ((8 * u + 1 : Nat) : Int), .int .i64 a] wr fun e w' => e = .returned (.tuple #[.int .u64 ((12 : Nat) : Int), .nilIface]) ∧ IsTH w' hb b g sa ∧ Keeps (foot3 hb b g) wr w') :=
            ⟨get_is HS.out Hx.out hp hr (by rw [Hs.out.2.2]; exact haz) (by omega) (by rw [Hs.out.1]; decide) (by omega) hfa⟩
          have HT : Box (∀ W, IsTH W hb b g sa → Calls Try.prog 25 #[.pointer (some ⟨hb, 0, none⟩), .int .u64 ((8 * u + 1 : Nat) : Int), .int .i64 a, .int .u64 ((4 : Nat) : Int)] W fun e w' => e = .returned .nilIface ∧ IsTH w' hb b g s5 ∧ Keeps (foot3 hb b g) W w') :=
            ⟨fun W hW => set_is hW Hx.out hp hr (by rw [Hs.out.2.2]; exact haz) (by omega) hR.now (by decide) es5 (Or.inl ⟨Hf.out.1, by unfold tvalue; rfl⟩)⟩
          have FR5 : Box (FRound s5 L5 (3 * j + 3)) := ⟨k5.st, fun v hv => by
            rcases k5.grey v hv with e | e
            · exact Fr.out.ng v e
            · rw [hfa] at e; omega, by rw [k5.count]; exact Fr.out.count, by rw [k5.roots]; exact Fr.out.roots, by rw [k5.k]; exact Fr.out.k, by rw [k5.cyc]; exact Fr.out.cyc⟩
          have HU5 : Box (IsC s5.count (tcls z) u ∧ colOf L5 u ≠ 0) := ⟨by rw [k5.count]; exact Huc.out.1, k5.alive u Huc.out.2⟩
          have HS5 : Box (hform (wat s5.W u) = 1 ∧ htag (wat s5.W u) = t ∧ hn (wat s5.W u) = z) := ⟨by
            have := k5.shape _ u Huc.out.1
            rw [this.1, this.2.1, this.2.2]; exact Hs.out⟩
          have HF5 : Box (∀ i, a + 1 ≤ i → i < z → wat s5.W (u + 3 + i) = 12) := ⟨fun i h1 h2 => by
            rw [k5.fld _ u i Huc.out.1 (by omega), if_neg (by omega)]
            exact Hfl.out i (by omega) h2⟩
          have hpk := pick1
          clear hR hp hr hwl hult hsz hfa es5 k5
          go_wp2_with fail
          refine HG.out.mono ?_
          rintro e w5 ⟨rfl, hI5, k5⟩
          have H5 := Box.mk hI5
          have K5 : Box (Keeps (fun _ => False) w w5) := ⟨K.out.trans' k5 (fun z hz h => by have := HB.out; unfold foot3 at h; omega)⟩
          clear hI5 k5 HS K HG
          go_wp2_with fail
          refine (wvoid_is _).mono ?_
          rintro e w6 ⟨rfl, rfl⟩
          go_wp2_with fail
          refine (wnil_is _).mono ?_
          rintro e w7 ⟨rfl, rfl⟩
          go_wp2_with fail
          refine (HT.out _ H5.out).mono ?_
          rintro e w8 ⟨rfl, hI8, k8⟩
          have H8 := Box.mk hI8
          have K8 : Box (Keeps (fun _ => False) w w8) := ⟨K5.out.trans' k8 (fun z hz h => by have := HB.out; unfold foot3 at h; omega)⟩
          clear hI8 k8 H5 K5 HT
          go_wp2_with fail
          go_roundw
          case rel => exact ⟨a + 1, s5, L5, by omega, by go_num, FR5, HU5, HS5, HF5, H8, K8⟩
          case measure => simp [intOf]; omega
        · go_wp2_with fail
          go_roundw
          case rel =>
            have FN : Box (FRound sa La (3 * (j + 1))) := ⟨⟨Fr.out.st, Fr.out.ng, Fr.out.count, Fr.out.roots, Fr.out.k, Nat.le_trans Fr.out.cyc (by omega)⟩⟩
            first
              | exact ⟨j + 1, sa, La, by omega, by go_num, FN, HS, K⟩
              | (repeat apply Exists.intro
                 exact ⟨⟨j + 1, sa, La, by omega, by go_num, FN, HS, K⟩, rfl⟩)
          case measure => simp [intOf]; omega
    · have hj3 : ¬ ((j : Int) < 1 + (m : Int)) := by omega
      go_wp2_with fail
      go_ret
      exact ⟨rfl, K.out.below (Nat.le_refl _) (fun _ h => h.elim)⟩


theorem pick2 (w : World) : (Instr.index 43 (.agg #[.int .u64 0, .int .u64 12, .int .u64 0]) (.int .i64 2)).run Try.prog w = .ok (.int .u64 0) w := by kernel_rfl
set_option maxRecDepth 100000 in
set_option maxHeartbeats 4000000 in
theorem fresh2 (form tag n turns : Int) (w : World) (hd0 : wrap64 ((IntKind.u64.wrap form).tmod 2) = 1) :
    Calls Try.prog 4 #[.int .i64 form, .int .i64 tag, .int .i64 n, .int .i64 turns] w fun e w' => e = .returned (.bool true) ∧ Below w.heap.size w w' := by
  obtain ⟨t, hd1⟩ : ∃ d : Nat, wrap64 ((IntKind.u64.wrap tag).tmod 16) = (d : Int) := ⟨(wrap64 ((IntKind.u64.wrap tag).tmod 16)).toNat, by have := umod_bd tag 16 (by omega) (by omega); omega⟩
  have ht : t < 16 := by have := umod_bd tag 16 (by omega) (by omega); omega
  obtain ⟨z, hd2⟩ : ∃ d : Nat, wrap64 ((IntKind.u64.wrap n).tmod 128) = (d : Int) := ⟨(wrap64 ((IntKind.u64.wrap n).tmod 128)).toNat, by have := umod_bd n 128 (by omega) (by omega); omega⟩
  have hz : z < 128 := by have := umod_bd n 128 (by omega) (by omega); omega
  obtain ⟨m, hd3⟩ : ∃ d : Nat, wrap64 ((IntKind.u64.wrap turns).tmod 40) = (d : Int) := ⟨(wrap64 ((IntKind.u64.wrap turns).tmod 40)).toNat, by have := umod_bd turns 40 (by omega) (by omega); omega⟩
  have hm : m < 40 := by have := umod_bd turns 40 (by omega) (by omega); omega
  obtain ⟨s0, e0, h0, hc0, hf0⟩ := lay_ok 6 6 6 6 3 (by omega) (by omega) (by omega) (by omega)
  have hsm := tlay_same e0
  have HR : Box (FRound s0 (layL [6, 6, 6, 6] 4 0) 0) := ⟨h0, (fun v hv => by
    obtain ⟨c, hc, hm⟩ := col_ne0 hv (by omega)
    unfold layL at hm
    rw [if_neg (by omega)] at hm
    cases hm), hc0, hsm.2.1, hsm.2.2.2.2.1, by rw [hsm.2.2.2.2.2.2.2.1]; exact Nat.le_refl _⟩
  have E0 := Box.mk e0
  clear e0 h0 hc0 hf0 hsm
  go_enter Try.func4, Try.ntmps4
  go_wp2_with fail
  refine (tnew_is (c0 := 6) (c1 := 6) (c2 := 6) (c3 := 6) (k := 3) (s := s0) (by omega) (by omega) (by omega) (by omega) (by omega) (by omega) E0.out).mono ?_
  rintro e w1 ⟨hb, b, g, rfl, hI1, k1, hb1, hb2, hb3⟩
  have HB := Box.mk (And.intro hb1 (And.intro hb2 hb3))
  have H1 := Box.mk hI1
  have K1 := Box.mk k1
  clear hI1 k1 hb1 hb2 hb3
  go_wp2_with fail
  refine (awake05 _).mono ?_
  rintro e w2 ⟨rfl, k2⟩
  have H2 := Box.mk (H1.out.keeps0 k2)
  have K2 := Box.mk (K1.out.trans k2)
  clear k2 H1 K1
  go_wp2_with fail
  rw [hd3]
  go_loopw [54] (fun i wr => ∃ (j : Nat) (sj : TH) (Lj : Nat → Nat → List Nat), j ≤ m + 1 ∧ i = .int .i64 j ∧ Box (FRound sj Lj (3 * j)) ∧ Box (IsTH wr hb b g sj) ∧ Box (Keeps (fun _ => False) w wr)) (fun i _ => m + 1 - (intOf i).toNat)
  case atStart => exact ⟨0, s0, _, Nat.zero_le _, rfl, HR, H2, K2⟩
  case round =>
    clear HR H2 K2 E0
    obtain ⟨j, sj, Lj, hj, rfl, HR, HS, K⟩ := hrel
    by_cases hjm : j < m + 1
    · obtain ⟨s1, L1, u, tal, fr, huc, hcu, hh1, hh2, hh3, hfl⟩ := fresh_take (form := 2) (tag := t) (n := z) HR.out (by omega) (by omega) ht (by omega)
      have hnow : sj.now ≤ 1 := HR.out.st.rep.now
      have hk64 : sj.k ≤ 64 := by rw [HR.out.k]; decide
      have hub : u < 1000000 := by have := huc.lt; have := stt4_le fr.st.rep.big; omega
      have Hx : Box (8 * u + 1 < 18446744073709551616) := ⟨by omega⟩
      have Hp := Box.mk (fr.st.rep.tplace.2 ⟨rfl, huc⟩)
      have Hr := Box.mk (fr.st.rep.rdh huc)
      have Tal := Box.mk tal
      have Fr := Box.mk fr
      have Hs := Box.mk (And.intro hh1 (And.intro hh2 hh3))
      have Huc := Box.mk (And.intro huc hcu)
      have Hfl := Box.mk hfl
      have Hnow := Box.mk (And.intro hnow hk64)
      clear tal fr huc hcu hh1 hh2 hh3 hfl hnow hk64
      have hj2 : (j : Int) < 1 + (m : Int) := by omega
      go_wp2_with fail
      refine (alloc_f (form := 2) (tag := t) (n := z) HS.out Tal.out Hnow.out.1 Hnow.out.2 (by decide) (by decide) (by omega) (by omega)).mono ?_
      rintro e w3 ⟨rfl, hI3, k3⟩
      have H3 := Box.mk hI3
      have K3 : Box (Keeps (fun _ => False) w w3) := ⟨K.out.trans' k3 (fun z hz h => by have := HB.out; unfold foot3 at h; omega)⟩
      clear hI3 k3 HS K HR Tal Hnow
      go_wp2_with fail
      refine (shape_is H3.out Hx.out Hp.out Hr.out).mono ?_
      rw [Hs.out.1, Hs.out.2.1, Hs.out.2.2]
      rintro e w4 ⟨rfl, hI4, k4⟩
      have H4 := Box.mk hI4
      have K4 : Box (Keeps (fun _ => False) w w4) := ⟨K3.out.trans' k4 (fun z hz h => by have := HB.out; unfold foot3 at h; omega)⟩
      clear hI4 k4 H3 K3 Hp Hr
      have hz1 : ((t : Int) != (t : Int)) = false := by simp
      have hz2 : ((z : Int) != (z : Int)) = false := by simp
      go_wp2_with fail
      go_loopw [92] (fun i wr => ∃ (a : Nat) (sa : TH) (La : Nat → Nat → List Nat), a ≤ z ∧ i = .int .i64 a ∧ Box (FRound sa La (3 * j + 3)) ∧ Box (IsC sa.count (tcls z) u ∧ colOf La u ≠ 0) ∧ Box (hform (wat sa.W u) = 2 ∧ htag (wat sa.W u) = t ∧ hn (wat sa.W u) = z) ∧ Box (∀ i, a ≤ i → i < z → wat sa.W (u + 3 + i) = 0) ∧ Box (IsTH wr hb b g sa) ∧ Box (Keeps (fun _ => False) w wr)) (fun i _ => z - (intOf i).toNat)
      case atStart => exact ⟨0, s1, L1, Nat.zero_le _, rfl, Fr, Huc, Hs, ⟨fun i _ hi => Hfl.out i hi⟩, H4, K4⟩
      case round =>
        clear Fr Huc Hs Hfl H4 K4
        obtain ⟨a, sa, La, ha, rfl, Fr, Huc, Hs, Hfl, HS, K⟩ := hrel
        by_cases haz : a < z
        · have hR := Fr.out.st.rep
          have hp := hR.tplace.2 ⟨rfl, Huc.out.1⟩
          have hr := hR.rdh Huc.out.1
          have hwl := hR.rl.wl
          have hult := Huc.out.1.lt
          have hsz := szs_tcls (n := z) (by omega)
          have hfa := Hfl.out a (Nat.le_refl _) haz
          obtain ⟨s5, L5, es5, k5⟩ := set_ok Fr.out.st (i := a) (x := 4) Huc.out.1 Huc.out.2 (by rw [Hs.out.2.2]; exact haz) (by decide) (fun _ c' v _ e => by omega)
          have Hf := Box.mk Hs.out
          have HG : Box (Calls Try.prog 23 #[.pointer (some ⟨hb, 0, none⟩), .int .u64 ((8 * u + 1 : Nat) : Int), .int .i64 a] wr fun e w' => e = .returned (.tuple #[.int .u64 ((0 : Nat) : Int), .nilIface]) ∧ IsTH w' hb b g sa ∧ Keeps (foot3 hb b g) wr w') :=
            ⟨get_is HS.out Hx.out hp hr (by rw [Hs.out.2.2]; exact haz) (by omega) (by rw [Hs.out.1]; decide) (by omega) hfa⟩
          have HT : Box (∀ W, IsTH W hb b g sa → Calls Try.prog 25 #[.pointer (some ⟨hb, 0, none⟩), .int .u64 ((8 * u + 1 : Nat) : Int), .int .i64 a, .int .u64 ((4 : Nat) : Int)] W fun e w' => e = .returned .nilIface ∧ IsTH w' hb b g s5 ∧ Keeps (foot3 hb b g) W w') :=
            ⟨fun W hW => set_is hW Hx.out hp hr (by rw [Hs.out.2.2]; exact haz) (by omega) hR.now (by decide) es5 (Or.inr Hf.out.1)⟩
          have FR5 : Box (FRound s5 L5 (3 * j + 3)) := ⟨k5.st, fun v hv => by
            rcases k5.grey v hv with e | e
            · exact Fr.out.ng v e
            · rw [hfa] at e; omega, by rw [k5.count]; exact Fr.out.count, by rw [k5.roots]; exact Fr.out.roots, by rw [k5.k]; exact Fr.out.k, by rw [k5.cyc]; exact Fr.out.cyc⟩
          have HU5 : Box (IsC s5.count (tcls z) u ∧ colOf L5 u ≠ 0) := ⟨by rw [k5.count]; exact Huc.out.1, k5.alive u Huc.out.2⟩
          have HS5 : Box (hform (wat s5.W u) = 2 ∧ htag (wat s5.W u) = t ∧ hn (wat s5.W u) = z) := ⟨by
            have := k5.shape _ u Huc.out.1
            rw [this.1, this.2.1, this.2.2]; exact Hs.out⟩
          have HF5 : Box (∀ i, a + 1 ≤ i → i < z → wat s5.W (u + 3 + i) = 0) := ⟨fun i h1 h2 => by
            rw [k5.fld _ u i Huc.out.1 (by omega), if_neg (by omega)]
            exact Hfl.out i (by omega) h2⟩
          have hpk := pick2
          clear hR hp hr hwl hult hsz hfa es5 k5
          go_wp2_with fail
          refine HG.out.mono ?_
          rintro e w5 ⟨rfl, hI5, k5⟩
          have H5 := Box.mk hI5
          have K5 : Box (Keeps (fun _ => False) w w5) := ⟨K.out.trans' k5 (fun z hz h => by have := HB.out; unfold foot3 at h; omega)⟩
          clear hI5 k5 HS K HG
          go_wp2_with fail
          refine (wvoid_is _).mono ?_
          rintro e w6 ⟨rfl, rfl⟩
          go_wp2_with fail
          refine (wnil_is _).mono ?_
          rintro e w7 ⟨rfl, rfl⟩
          go_wp2_with fail
          refine (HT.out _ H5.out).mono ?_
          rintro e w8 ⟨rfl, hI8, k8⟩
          have H8 := Box.mk hI8
          have K8 : Box (Keeps (fun _ => False) w w8) := ⟨K5.out.trans' k8 (fun z hz h => by have := HB.out; unfold foot3 at h; omega)⟩
          clear hI8 k8 H5 K5 HT
          go_wp2_with fail
          go_roundw
          case rel => exact ⟨a + 1, s5, L5, by omega, by go_num, FR5, HU5, HS5, HF5, H8, K8⟩
          case measure => simp [intOf]; omega
        · go_wp2_with fail
          go_roundw
          case rel =>
            have FN : Box (FRound sa La (3 * (j + 1))) := ⟨⟨Fr.out.st, Fr.out.ng, Fr.out.count, Fr.out.roots, Fr.out.k, Nat.le_trans Fr.out.cyc (by omega)⟩⟩
            first
              | exact ⟨j + 1, sa, La, by omega, by go_num, FN, HS, K⟩
              | (repeat apply Exists.intro
                 exact ⟨⟨j + 1, sa, La, by omega, by go_num, FN, HS, K⟩, rfl⟩)
          case measure => simp [intOf]; omega
    · have hj3 : ¬ ((j : Int) < 1 + (m : Int)) := by omega
      go_wp2_with fail
      go_ret
      exact ⟨rfl, K.out.below (Nat.le_refl _) (fun _ h => h.elim)⟩


theorem TreadFresh_walk (form tag n turns : Int) (w : World) (h0 : (Lit.int .i64 form).wf = true) (h1 : (Lit.int .i64 tag).wf = true) (h2 : (Lit.int .i64 n).wf = true) (h3 : (Lit.int .i64 turns).wf = true) :
    Calls Try.prog 4 #[.int .i64 form, .int .i64 tag, .int .i64 n, .int .i64 turns] w fun e w' => e = .returned (.bool true) ∧ Below w.heap.size w w' := by
  have hb := umod_bd form 2 (by omega) (by omega)
  have : wrap64 ((IntKind.u64.wrap form).tmod 2) = 0 ∨ wrap64 ((IntKind.u64.wrap form).tmod 2) = 1 := by omega
  rcases this with e | e
  · exact fresh1 form tag n turns w e
  · exact fresh2 form tag n turns w e

end Go.Proofs.Ytbjlapfcnldpoaa