/- ObjStrings's walk: a string has the bytes that it was made of, packed as the document says; too many are refused. -/
import Derived.Test.YtbjlapfcnldpoaaWords
namespace Go.Proofs.Ytbjlapfcnldpoaa
set_option linter.unusedVariables false
set_option linter.unusedSimpArgs false
open Go.RowKit

theorem str_long {p : Addr} (str : ByteArray) (w : World) (h : 500 < str.size) :
    Calls Try.prog 49 #[.pointer (some p), .string str] w fun e w' => e = .returned (.tuple #[.int .u64 0, .iface 97 (.int .i64 14)]) ∧ w' = w := by
  go_enter Try.func49, Try.ntmps49
  go_wp2_with fail
  go_ret2
  exact ⟨rfl, rfl⟩

set_option maxRecDepth 100000 in
set_option maxHeartbeats 4000000 in
theorem ostrings_main (str : ByteArray) (steps : Nat) (w : World) (hst : steps < 256) :
    Calls Try.prog 11 #[.string str, .int .u8 (steps : Int)] w fun e w' => e = .returned (.bool true) ∧ Below w.heap.size w w' := by
  obtain ⟨s, L, hB⟩ := beg_ex
  have HB := Box.mk hB
  clear hB
  by_cases hbig : 1000 < str.size
  · go_enter Try.func11, Try.ntmps11
    go_wp2_with fail
    refine (awake06 _).mono ?_
    rintro e w1 ⟨rfl, k1⟩
    have K1 := Box.mk k1
    clear k1
    go_wp2_with fail
    refine (awake06 _).mono ?_
    rintro e w4 ⟨rfl, k4⟩
    have K4 := Box.mk (K1.out.trans k4)
    clear k4
    go_wp2_with fail
    go_ret
    exact ⟨rfl, K4.out.below (Nat.le_refl _) (fun _ h => h.elim)⟩
  go_enter Try.func11, Try.ntmps11
  go_wp2_with fail
  refine (awake06 _).mono ?_
  rintro e w1 ⟨rfl, k1⟩
  have K1 := Box.mk k1
  clear k1
  go_wp2_with fail
  refine (begun_is HB.out _).mono ?_
  rintro e w4 ⟨⟨hb, b, g, rfl, hI, hl1, hl2, hl3⟩, k4⟩
  have H4 := Box.mk hI
  have K4 := Box.mk (K1.out.trans k4)
  have Hlt : Box (w.heap.size ≤ hb ∧ w.heap.size ≤ b ∧ w.heap.size ≤ g) := ⟨by have := K1.out.size; omega⟩
  clear hI k4 hl1 hl2 hl3 K1
  go_wp2_with fail
  by_cases hlong : 500 < str.size
  · refine (str_long str _ hlong).mono ?_
    rintro e w5 ⟨rfl, rfl⟩
    go_wp2_with fail
    refine (kind06 14 (by omega) _).mono ?_
    rintro e w6 ⟨rfl, k6⟩
    have K6 := Box.mk (K4.out.trans k6)
    clear k6
    go_wp2_with fail
    go_ret
    exact ⟨rfl, K6.out.below (Nat.le_refl _) (fun _ h => h.elim)⟩
  have hs5 : str.size ≤ 500 := by omega
  obtain ⟨n, hn⟩ : ∃ n, 1 + (str.size + 7) / 8 = n := ⟨_, rfl⟩
  have Hn := Box.mk hn
  have hn64 : n ≤ 64 := by omega
  have hB := HB.out
  have hcy0 := hB.cyc
  have hk0 := hB.k
  clear hn
  refine (str_ok (n := n) H4.out hB.st (by omega) (by omega) hs5 Hn.out (by have := hB.room n; omega)).mono ?_
  rintro e w5 ⟨⟨s1, L1, u, rfl, hI5, hM⟩, k5⟩
  have H5 := Box.mk hI5
  have HM := Box.mk hM
  have K5 := Box.mk (K4.out.trans' k5 (by have := Hlt.out; intro i hi h; unfold foot3 at h; omega))
  have hr12 : s1.roots.length = 12 := by rw [hM.roots, hB.roots]; simp
  have Hst2 := Box.mk (hM.rooted 0)
  have Hr2 := Box.mk (hM.rch (i := 0) (by omega))
  have Ho2 : Box (IsObj (setRoot s1 0 (8 * u + 1)) L1 u 2 2 n (strW str)) := ⟨hM.obj.setRoot⟩
  have Hcy2 : Box ((setRoot s1 0 (8 * u + 1)).cycles ≤ 2) := ⟨by
    have h1 := hM.cyc
    show s1.cycles ≤ 2
    omega⟩
  clear hI5 hM k5 H4 K4 hB hcy0 hk0 hr12
  go_wp2_with fail
  refine (setroot_is (i := 0) H5.out (by decide) (HM.out.obj.small HM.out.st).2.1 HM.out.value).mono ?_
  rintro e w6 ⟨rfl, hI6, k6⟩
  have H6 := Box.mk hI6
  have K6 := Box.mk (K5.out.trans' k6 (by have := Hlt.out; intro i hi h; unfold foot3 at h; omega))
  clear hI6 k6 H5 K5
  obtain ⟨s2, hs2⟩ : ∃ s2, setRoot s1 0 (8 * u + 1) = s2 := ⟨_, rfl⟩
  rw [hs2] at H6 Hst2 Hr2 Ho2 Hcy2
  clear hs2 HM
  obtain ⟨s3, L3, e3, st3, k3⟩ := incr_ok steps Hst2.out (by have := Hcy2.out; omega)
  have E3 := Box.mk e3
  have Hst3 := Box.mk st3
  have Ho3 := Box.mk (k3.kept st3 Ho2.out Hr2.out).1
  clear e3 st3 k3
  go_wp2_with fail
  refine (incr_is H6.out E3.out Hst2.out.rep.now (by omega)).mono ?_
  rintro e w7 ⟨rfl, hI7, k7⟩
  have H7 := Box.mk hI7
  have K7 := Box.mk (K6.out.trans' k7 (by have := Hlt.out; intro i hi h; unfold foot3 at h; omega))
  clear hI7 k7 H6 K6 Hst2 Hr2 Ho2 Hcy2 E3
  go_wp2_with fail
  refine (text_ok H7.out Hst3.out Ho3.out hs5 Hn.out).mono ?_
  rintro e w8 ⟨rfl, hI8, k8⟩
  have H8 := Box.mk hI8
  have K8 := Box.mk (K7.out.trans' k8 (by have := Hlt.out; intro i hi h; unfold foot3 at h; omega))
  clear hI8 k8 H7 K7
  go_wp2_with fail
  refine (words_is hs5).mono ?_
  rintro e w9 ⟨⟨gw, cap, rfl, hgw, hcw⟩, k9⟩
  rw [Hn.out] at hcw
  rw [Hn.out]
  have H9 := Box.mk (H8.out.keeps0 k9)
  have K9 := Box.mk (K8.out.trans k9)
  have HC := Box.mk hcw
  have Hgw : Box (¬ foot3 hb b g gw) := ⟨by have := H8.out.lt; unfold foot3; omega⟩
  clear hcw k9 H8 K8 hgw
  go_wp2_with fail
  refine (oTag_is H9.out Hst3.out Ho3.out).mono ?_
  rintro e w10 ⟨rfl, hI10, k10⟩
  have H10 := Box.mk hI10
  have K10 := Box.mk (K9.out.trans' k10 (by have := Hlt.out; intro i hi h; unfold foot3 at h; omega))
  have HC10 : Box (∀ i, i < n → w10.cell? ⟨gw, i, none⟩ = some (.int .u64 (strW str i : Nat))) := ⟨fun i hi => k10.cell (HC.out i hi) Hgw.out⟩
  clear hI10 k10 H9 K9 HC
  go_wp2_with fail
  refine (oLen_is H10.out Hst3.out Ho3.out).mono ?_
  rintro e w11 ⟨rfl, hI11, k11⟩
  have H11 := Box.mk hI11
  have K11 := Box.mk (K10.out.trans' k11 (by have := Hlt.out; intro i hi h; unfold foot3 at h; omega))
  have HC11 : Box (∀ i, i < n → w11.cell? ⟨gw, i, none⟩ = some (.int .u64 (strW str i : Nat))) := ⟨fun i hi => k11.cell (HC10.out i hi) Hgw.out⟩
  clear hI11 k11 H10 K10 HC10
  go_wp2_with fail
  go_loopw [84] (fun i wr => ∃ (j : Nat), j ≤ n ∧ i = .int .i64 j ∧ Box (IsTH wr hb b g s3) ∧ Box (∀ i, i < n → wr.cell? ⟨gw, i, none⟩ = some (.int .u64 (strW str i : Nat))) ∧ Box (Keeps (fun _ => False) w wr)) (fun i _ => n - (intOf i).toNat)
  case atStart => exact ⟨0, Nat.zero_le _, rfl, H11, HC11, K11⟩
  case round =>
    clear H11 K11 HC11
    obtain ⟨j, hj, rfl, H, HC, K⟩ := hrel
    by_cases hjn : j < n
    · have hj0 : (0 : Int) ≤ (j : Int) := by omega
      have hcell := HC.out j hjn
      have HG := Box.mk (get_is H.out (Ho3.out.small Hst3.out).2.1 (Ho3.out.place Hst3.out) (Ho3.out.rdh Hst3.out) (i := j) (by rw [Ho3.out.num]; exact hjn) (by have := (Ho3.out.small Hst3.out).1; omega) (by rw [Ho3.out.f]; decide) ((Ho3.out.small Hst3.out).2.2 j hjn) (Ho3.out.fld j hjn))
      obtain ⟨x, hx⟩ : ∃ x, strW str j = x := ⟨_, rfl⟩
      rw [hx] at hcell HG
      clear hx
      go_wp2_with fail
      refine HG.out.mono ?_
      rintro e w12 ⟨rfl, hI12, k12⟩
      have H12 := Box.mk hI12
      have K12 := Box.mk (K.out.trans' k12 (by have := Hlt.out; intro i hi h; unfold foot3 at h; omega))
      have HC12 : Box (∀ i, i < n → w12.cell? ⟨gw, i, none⟩ = some (.int .u64 (strW str i : Nat))) := ⟨fun i hi => k12.cell (HC.out i hi) Hgw.out⟩
      clear hI12 k12 H K HC HG hcell
      go_wp2_with fail
      go_roundw
      case rel => exact ⟨j + 1, by omega, by go_num, H12, HC12, K12⟩
      case measure => simp [intOf]; omega
    · have hjn2 : ¬ ((j : Int) < (n : Int)) := by omega
      go_wp2_with fail
      refine (oField_no (e9 := 9) (tg := 2) (i := 0) (fun W hW => ofield_type hW Hst3.out Ho3.out 2 0 (Or.inl (by decide))) H.out).mono ?_
      rintro e w12 ⟨rfl, hI12, k12⟩
      have H12 := Box.mk hI12
      have K12 := Box.mk (K.out.trans' k12 (by have := Hlt.out; intro i hi h; unfold foot3 at h; omega))
      clear hI12 k12 H K HC
      go_wp2_with fail
      refine (kind06 9 (by omega) _).mono ?_
      rintro e w13 ⟨rfl, k13⟩
      have H13 := Box.mk (H12.out.keeps0 k13)
      have K13 := Box.mk (K12.out.trans k13)
      clear k13 H12 K12
      go_wp2_with fail
      refine (oSetField_no (e9 := 9) (tg := 2) (i := 0) (fun W hW => ofield_type hW Hst3.out Ho3.out 2 0 (Or.inl (by decide))) H13.out).mono ?_
      rintro e w14 ⟨rfl, hI14, k14⟩
      have K14 := Box.mk (K13.out.trans' k14 (by have := Hlt.out; intro i hi h; unfold foot3 at h; omega))
      clear hI14 k14 H13 K13
      go_wp2_with fail
      refine (kind06 9 (by omega) _).mono ?_
      rintro e w15 ⟨rfl, k15⟩
      have K15 := Box.mk (K14.out.trans k15)
      clear k15 K14
      go_wp2_with fail
      go_ret
      exact ⟨rfl, K15.out.below (Nat.le_refl _) (fun _ h => h.elim)⟩

theorem ObjStrings_walk (str : ByteArray) (steps : Int) (w : World) (hs : str.size ≤ 140737488351232) (hst : (Lit.int .u8 steps).wf = true) :
    Calls Try.prog 11 #[.string str, .int .u8 steps] w fun e w' => e = .returned (.bool true) ∧ Below w.heap.size w w' := by
  have h : 0 ≤ steps ∧ steps < 256 := by
    simp [Lit.wf, IntKind.min, IntKind.max, IntKind.bits, IntKind.signed] at hst
    omega
  obtain ⟨y, rfl⟩ := Int.eq_ofNat_of_zero_le h.1
  exact ostrings_main str y w (by omega)

end Go.Proofs.Ytbjlapfcnldpoaa
