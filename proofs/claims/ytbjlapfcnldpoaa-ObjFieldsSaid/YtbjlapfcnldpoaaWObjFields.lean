/- ObjFields's walk: an object has the tag, and the fields, that it was made of; each can be set, and is read as it was set. -/
import Derived.Test.YtbjlapfcnldpoaaAppU
import Derived.Test.YtbjlapfcnldpoaaWObjFill
namespace Go.Proofs.Ytbjlapfcnldpoaa
set_option linter.unusedVariables false
set_option linter.unusedSimpArgs false
open Go.RowKit

theorem Made.root {s s' : TH} {L L' : Nat → Nat → List Nat} {u form tag n : Nat} {ws : Nat → Nat} (h : Made s s' L L' u form tag n ws) {i : Nat} (hi : i < s'.roots.length) : rootP (Go.Proofs.Ytbjlapfcnldpoaa.setRoot s' i (8 * u + 1)) u :=
  ⟨by
    show 8 * u + 1 ∈ s'.roots.set i (8 * u + 1)
    exact List.mem_iff_getElem.2 ⟨i, by simpa using hi, by simp⟩, _, h.obj.isC⟩

set_option maxRecDepth 100000 in
set_option maxHeartbeats 4000000 in
theorem ofields_main (tag : Int) (a : Option Addr) (len cap : Nat) (zs : List Int) (at_ : Int) (x steps : Nat) (w : World) (hz : IsRow .u64 w (.slice a len cap) zs) (hx : x < 18446744073709551616) (hst : steps < 256) (hat : (Lit.int .i64 at_).wf = true) :
    Calls Try.prog 10 #[.int .i64 tag, .slice a len cap, .int .i64 at_, .int .u64 x, .int .u8 (steps : Int)] w fun e w' => e = .returned (.bool true) ∧ Below w.heap.size w w' := by
  obtain ⟨s, L, hB⟩ := beg_ex
  have HB := Box.mk hB
  have Hx := Box.mk hx
  have hlen := hz.len
  have hlm := hlen.2
  have hwf : ∀ i, i < len → 0 ≤ zs.getD i 0 ∧ zs.getD i 0 < 18446744073709551616 := by
    intro i hi
    have hmem : zs.getD i 0 ∈ zs := by
      rw [List.getD_eq_getElem?_getD, List.getElem?_eq_getElem (by omega)]
      simp
    have h2 : (Lit.int .u64 (zs.getD i 0)).wf = true := by
      cases hz with
      | empty => omega
      | full h1 h2 h3 h4 h5 => exact h5 _ hmem
    exact isWd_wf h2
  have hwfa : -9223372036854775808 ≤ at_ ∧ at_ ≤ 9223372036854775807 := by simpa [Lit.wf, IntKind.min, IntKind.max, IntKind.signed, IntKind.bits] using hat
  obtain ⟨ws, hws⟩ : ∃ ws : Nat → Nat, ∀ i, i < len → zs.getD i 0 = (ws i : Int) ∧ ws i < 18446744073709551616 := ⟨fun i => (zs.getD i 0).toNat, fun i hi => by have := hwf i hi; simp only []; omega⟩
  have HWS := Box.mk hws
  have HW : Box (WsAt w a len ws (fun _ => False)) := ⟨wsAt_row hz (fun i hi => (hws i hi).1) (fun _ _ h => h)⟩
  have HZ := Box.mk hz
  have Hlz := Box.mk hlen.1
  unfold maxLen at hlm
  clear hB hx hz hlen hwf hws hat
  by_cases hbig : 200 < len
  · go_enter Try.func10, Try.ntmps10
    go_wp2_with fail
    refine (awake06 _).mono ?_
    rintro e w1 ⟨rfl, k1⟩
    have K1 := Box.mk k1
    clear k1
    go_wp2_with fail
    refine (awake06 _).mono ?_
    rintro e w9 ⟨rfl, k9⟩
    have K9 := Box.mk (K1.out.trans k9)
    clear k9
    go_wp2_with fail
    go_ret
    exact ⟨rfl, K9.out.below (Nat.le_refl _) (fun _ h => h.elim)⟩

  go_enter Try.func10, Try.ntmps10
  go_wp2_with fail
  refine (awake06 _).mono ?_
  rintro e w1 ⟨rfl, k1⟩
  have K1 := Box.mk k1
  have HW1 : Box (WsAt w1 a len ws (fun _ => False)) := ⟨HW.out.keeps0 k1⟩
  clear k1
  go_wp2_with fail
  refine (plainly_is HW1.out (fun i hi => (HWS.out i hi).2) (by omega)).mono ?_
  rintro e w2 ⟨⟨rfl, hpl⟩ | rfl, rfl⟩
  rotate_left
  · go_wp2_with fail
    refine (awake06 _).mono ?_
    rintro e w9 ⟨rfl, k9⟩
    have K9 := Box.mk (K1.out.trans k9)
    clear k9
    go_wp2_with fail
    go_ret
    exact ⟨rfl, K9.out.below (Nat.le_refl _) (fun _ h => h.elim)⟩

  have HPL := Box.mk hpl
  clear hpl HW1
  go_wp2_with fail
  have K2 := Box.mk (K1.out.alloc (.cells #[.int .u64 (x : Int)] 30))
  refine (plainly_is (wsAt_one w2 x (fun _ => False) (fun h => h)) (fun _ _ => Hx.out) (by decide)).mono ?_
  rintro e w3 ⟨⟨rfl, hpx⟩ | rfl, rfl⟩
  rotate_left
  · go_wp2_with fail
    refine (awake06 _).mono ?_
    rintro e w9 ⟨rfl, k9⟩
    have K9 := Box.mk (K2.out.trans k9)
    clear k9
    go_wp2_with fail
    go_ret
    exact ⟨rfl, K9.out.below (Nat.le_refl _) (fun _ h => h.elim)⟩

  have hpx := hpx 0 (by decide)
  have HPX := Box.mk hpx
  clear hpx K1
  go_wp2_with fail
  refine (begun_is HB.out _).mono ?_
  rintro e w4 ⟨⟨hb, b, g, rfl, hI, hl1, hl2, hl3⟩, k4⟩
  have H4 := Box.mk hI
  have K4 := Box.mk (K2.out.trans k4)
  have Hlt : Box (w.heap.size ≤ hb ∧ w.heap.size ≤ b ∧ w.heap.size ≤ g) := ⟨by have := K2.out.size; omega⟩
  clear hI k4 hl1 hl2 hl3 K2
  have hown := World.ownsRow_lit (e := 30) (size := 1) (base := w4.heap.size) w4 #[] 0 (Nat.le_refl _) (by unfold maxLen; omega) rfl
  have Hown := Box.mk hown
  have HZ4 : Box (IsRow .u64 (w4.alloc (.cells #[] 30)) (.slice a len cap) zs) := ⟨HZ.out.keeps (K4.out.alloc (.cells #[] 30)) (fun _ _ _ _ _ _ h => h)⟩
  clear hown
  go_wp2_with (at_builtin; refine wpList_append_u rfl _ _ rfl w4.heap.size (.slice (some ⟨w4.heap.size, 0, none⟩) 0 0) 0 [] rfl Hown.out a len cap zs rfl HZ4.out len (by omega) (by omega) ?c3 ?c4)
  case c3 => simp
  case c4 =>
    intro a1 c1 w5 hown5 hgrow
    have k5 : Keeps (fun _ => False) w4 w5 := ((Keeps.refl (fun _ => False) w4).alloc (.cells #[] 30)).grown hgrow (fun k hk hlt => by simp [Value.ownBlock] at hk; omega)
    have H5 := Box.mk (H4.out.keeps0 k5)
    have K5 := Box.mk (K4.out.trans k5)
    have HWa : Box (WsAt w5 a1 len ws (foot3 hb b g)) := ⟨wsAt_own (by simpa using hown5) Hlz.out (fun i hi => (HWS.out i hi).1) (fun z hz => by have := H4.out.lt; unfold foot3; omega)⟩
    clear hown5 hgrow k5 H4 K4 Hown HZ4
    by_cases ht : tag < 1 ∨ tag = 2 ∨ 12 < tag
    · have HT := Box.mk ht
      clear ht
      go_wp2_with fail
      refine (make_no tag a1 len c1 _ (by have := HT.out; omega)).mono ?_
      rintro e w6 ⟨rfl, rfl⟩
      go_wp2_with fail
      refine (mk06_tag tag len _ HT.out).mono ?_
      rintro e w7 ⟨rfl, rfl⟩
      go_wp2_with fail
      refine (kind06 2 (by omega) _).mono ?_
      rintro e w8 ⟨rfl, k8⟩
      have K8 := Box.mk (K5.out.trans k8)
      clear k8
      go_wp2_with fail
      go_ret
      exact ⟨rfl, K8.out.below (Nat.le_refl _) (fun _ h => h.elim)⟩
    by_cases hlo : 120 < len
    · have HT : Box (tag = 1 ∨ 3 ≤ tag ∧ tag ≤ 12) := ⟨by omega⟩
      clear ht
      go_wp2_with fail
      refine (make_no tag a1 len c1 _ (by omega)).mono ?_
      rintro e w6 ⟨rfl, rfl⟩
      go_wp2_with fail
      refine (mk06_long tag len _ HT.out (by omega) (by omega)).mono ?_
      rintro e w7 ⟨rfl, rfl⟩
      go_wp2_with fail
      refine (kind06 2 (by omega) _).mono ?_
      rintro e w8 ⟨rfl, k8⟩
      have K8 := Box.mk (K5.out.trans k8)
      clear k8
      go_wp2_with fail
      go_ret
      exact ⟨rfl, K8.out.below (Nat.le_refl _) (fun _ h => h.elim)⟩
    obtain ⟨t, rfl⟩ := Int.eq_ofNat_of_zero_le (show 0 ≤ tag by omega)
    have HT : Box (1 ≤ t ∧ t ≤ 12 ∧ t ≠ 2) := ⟨by omega⟩
    have htb : t ≤ 12 := by omega
    clear ht
    have hB := HB.out
    have hcy0 := hB.cyc
    have hk0 := hB.k
    go_wp2_with fail
    refine (make_ok (tag := t) (n := len) (ws := ws) H5.out hB.st (by omega) (by omega) HT.out.1 HT.out.2.1 HT.out.2.2 (by omega) HWa.out (fun i hi => goodW_nc (HPL.out i hi) (HWS.out i hi).2) (by have := hB.room len; omega)).mono ?_
    rintro e w6 ⟨⟨s1, L1, u, rfl, hI6, hM⟩, k6⟩
    have H6 := Box.mk hI6
    have HM := Box.mk hM
    have K6 := Box.mk (K5.out.trans' k6 (by have := Hlt.out; intro i hi h; unfold foot3 at h; omega))
    have hr12 : s1.roots.length = 12 := by rw [hM.roots, hB.roots]; simp
    have Hst2 := Box.mk (hM.rooted 0)
    have Hr2 := Box.mk (hM.root (i := 0) (by omega))
    have Ho2 : Box (IsObj (setRoot s1 0 (8 * u + 1)) L1 u 1 t len ws) := ⟨hM.obj.setRoot⟩
    have Hcy2 : Box ((setRoot s1 0 (8 * u + 1)).cycles ≤ 2) := ⟨by
      have h1 := hM.cyc
      show s1.cycles ≤ 2
      omega⟩
    clear hI6 hM k6 H5 K5 hB hcy0 hk0 hr12 HWa
    go_wp2_with fail
    refine (mk06_yes t len _ (by have := HT.out; omega) (by omega) (by omega)).mono ?_
    rintro e w7 ⟨rfl, rfl⟩
    go_wp2_with fail
    refine (setroot_is (i := 0) H6.out (by decide) (HM.out.obj.small HM.out.st).2.1 HM.out.value).mono ?_
    rintro e w8 ⟨rfl, hI8, k8⟩
    have H8 := Box.mk hI8
    have K8 := Box.mk (K6.out.trans' k8 (by have := Hlt.out; intro i hi h; unfold foot3 at h; omega))
    clear hI8 k8 H6 K6
    obtain ⟨s2, hs2⟩ : ∃ s2, setRoot s1 0 (8 * u + 1) = s2 := ⟨_, rfl⟩
    rw [hs2] at H8 Hst2 Hr2 Ho2 Hcy2
    clear hs2 HM
    obtain ⟨s3, L3, e3, st3, k3⟩ := incr_ok steps Hst2.out (by have := Hcy2.out; omega)
    have E3 := Box.mk e3
    have Hst3 := Box.mk st3
    have Ho3 := Box.mk (k3.kept st3 Ho2.out (.root Hr2.out)).1
    have Hr3 : Box (rootP s3 u) := ⟨by rw [rootP_eq k3.count k3.roots]; exact Hr2.out⟩
    have Hcy3 : Box (s3.cycles ≤ 2 + steps) := ⟨by have h := k3.cyc; have := Hcy2.out; omega⟩
    clear e3 st3 k3
    go_wp2_with fail
    refine (incr_is H8.out E3.out Hst2.out.rep.now (by omega)).mono ?_
    rintro e w9 ⟨rfl, hI9, k9⟩
    have H9 := Box.mk hI9
    have K9 := Box.mk (K8.out.trans' k9 (by have := Hlt.out; intro i hi h; unfold foot3 at h; omega))
    clear hI9 k9 H8 K8 Hst2 Hr2 Ho2 Hcy2 E3
    go_wp2_with fail
    by_cases hin : 0 ≤ at_ ∧ at_ < len
    · obtain ⟨i, rfl⟩ := Int.eq_ofNat_of_zero_le hin.1
      have hil : i < len := by omega
      have d1 : decide (0 ≤ (i : Int)) = true := decide_eq_true (by omega)
      have d2 : decide ((i : Int) < (len : Int)) = true := decide_eq_true (by omega)
      obtain ⟨s4, L4, e4, k4⟩ := set_ok Hst3.out (i := i) (x := x) Ho3.out.isC Ho3.out.alive (by rw [Ho3.out.num]; exact hil) Hx.out (fun _ => (goodW_nc HPX.out Hx.out).ok Hst3.out)
      have E4 := Box.mk e4
      have Hst4 := Box.mk k4.st
      have Ho4 : Box (IsObj s4 L4 u 1 t len (fun j => if (j : Int) = (i : Int) then x else ws j)) := ⟨(k4.obj Ho3.out).congr (fun j hj => by
        by_cases e : j = i
        · rw [if_pos e, if_pos (by omega)]
        · rw [if_neg e, if_neg (by omega)])⟩
      have Hr4 : Box (rootP s4 u) := ⟨by rw [rootP_eq k4.count k4.roots]; exact Hr3.out⟩
      have Hcy4 : Box (s4.cycles ≤ 300) := ⟨by have h := k4.cyc; have := Hcy3.out; omega⟩
      refine (oSetField_ok H9.out Hst3.out Ho3.out hil Hx.out ((goodW_nc HPX.out Hx.out).value Hst3.out) E4.out).mono ?_
      rintro e w10 ⟨rfl, hI10, k10⟩
      have H10 := Box.mk hI10
      have K10 := Box.mk (K9.out.trans' k10 (by have := Hlt.out; intro i hi h; unfold foot3 at h; omega))
      obtain ⟨at_, hat_⟩ : ∃ at_ : Int, (i : Int) = at_ := ⟨_, rfl⟩
      rw [hat_] at Ho4 d1 d2
      rw [hat_]
      clear hI10 k10 H9 K9 e4 k4 Hst3 Ho3 Hr3 Hcy3 E4 hin hil hat_
      go_wp2_with fail
      obtain ⟨s5, L5, e5, st5, k5⟩ := incr_ok steps Hst4.out (by have := Hcy4.out; omega)
      have E5 := Box.mk e5
      have Hst5 := Box.mk st5
      have Ho5 := Box.mk (k5.kept st5 Ho4.out (.root Hr4.out)).1
      clear e5 st5 k5
      refine (incr_is H10.out E5.out Hst4.out.rep.now (by omega)).mono ?_
      rintro e v1 ⟨rfl, hJ1, kk1⟩
      have J1 := Box.mk hJ1
      have KJ1 := Box.mk (K10.out.trans' kk1 (by have := Hlt.out; intro i hi h; unfold foot3 at h; omega))
      clear hJ1 kk1 H10 K10 Hst4 Ho4 Hr4 Hcy4 E5
      go_wp2_with fail
      go_loopw [107] (fun i wr => ∃ (j : Nat), j ≤ len ∧ i = .int .i64 j ∧ Box (IsTH wr hb b g s5) ∧ Box (Keeps (fun _ => False) w wr)) (fun i _ => len - (intOf i).toNat)
      case atStart => exact ⟨0, Nat.zero_le _, rfl, J1, KJ1⟩
      case round =>
        clear J1 KJ1
        obtain ⟨j, hj, rfl, H, K⟩ := hrel
        by_cases hjn : j < len
        · have hj0 : (0 : Int) ≤ (j : Int) := by omega
          obtain ⟨rb, ro, rfl, -, hrl, hcell0⟩ := HW.out j hjn
          have hcell := K.out.cell hcell0 (fun h => h)
          have HF := Box.mk (oField_ok (i := j) H.out Hst5.out Ho5.out hjn)
          obtain ⟨y, hy⟩ : ∃ y, ws j = y := ⟨_, rfl⟩
          rw [hy] at hcell HF
          clear hcell0 hy hrl
          by_cases hja : (j : Int) = at_
          · have e1 : ((j : Int) == at_) = true := by rw [beq_iff_eq]; exact hja
            rw [if_pos hja] at HF
            clear hja
            go_wp2_with fail
            refine HF.out.mono ?_
            rintro e v2 ⟨rfl, hJ2, kk2⟩
            have J2 := Box.mk hJ2
            have KJ2 := Box.mk (K.out.trans' kk2 (by have := Hlt.out; intro i hi h; unfold foot3 at h; omega))
            clear hJ2 kk2 H K HF hcell
            go_wp2_with fail
            go_roundw
            case rel => exact ⟨j + 1, by omega, by go_num, J2, KJ2⟩
            case measure => simp [intOf]; omega
          · have e1 : ((j : Int) == at_) = false := by rw [beq_eq_false_iff_ne]; exact hja
            rw [if_neg hja] at HF
            clear hja
            go_wp2_with fail
            refine HF.out.mono ?_
            rintro e v2 ⟨rfl, hJ2, kk2⟩
            have J2 := Box.mk hJ2
            have KJ2 := Box.mk (K.out.trans' kk2 (by have := Hlt.out; intro i hi h; unfold foot3 at h; omega))
            clear hJ2 kk2 H K HF hcell
            go_wp2_with fail
            go_roundw
            case rel => exact ⟨j + 1, by omega, by go_num, J2, KJ2⟩
            case measure => simp [intOf]; omega
        · have hjn2 : ¬ ((j : Int) < (len : Int)) := by omega
          go_wp2_with fail
          refine (oField_no (e9 := 13) (tg := (t : Int)) (i := (len : Int)) (fun W hW => ofield_index hW Hst5.out Ho5.out len (by omega)) H.out).mono ?_
          rintro e v3 ⟨rfl, hJ3, kk3⟩
          have J3 := Box.mk hJ3
          have KJ3 := Box.mk (K.out.trans' kk3 (by have := Hlt.out; intro i hi h; unfold foot3 at h; omega))
          clear hJ3 kk3 H K
          go_wp2_with fail
          refine (oField_no (e9 := 9) (tg := (t : Int) + 1) (i := 0) (fun W hW => ofield_type hW Hst5.out Ho5.out ((t : Int) + 1) 0 (Or.inr (by omega))) J3.out).mono ?_
          rintro e v4 ⟨rfl, hJ4, kk4⟩
          have J4 := Box.mk hJ4
          have KJ4 := Box.mk (KJ3.out.trans' kk4 (by have := Hlt.out; intro i hi h; unfold foot3 at h; omega))
          clear hJ4 kk4 J3 KJ3
          go_wp2_with fail
          refine (oTag_is J4.out Hst5.out Ho5.out).mono ?_
          rintro e v5 ⟨rfl, hJ5, kk5⟩
          have J5 := Box.mk hJ5
          have KJ5 := Box.mk (KJ4.out.trans' kk5 (by have := Hlt.out; intro i hi h; unfold foot3 at h; omega))
          clear hJ5 kk5 J4 KJ4
          go_wp2_with fail
          refine (oLen_is J5.out Hst5.out Ho5.out).mono ?_
          rintro e v6 ⟨rfl, hJ6, kk6⟩
          have KJ6 := Box.mk (KJ5.out.trans' kk6 (by have := Hlt.out; intro i hi h; unfold foot3 at h; omega))
          clear hJ6 kk6 J5 KJ5
          go_wp2_with fail
          refine (kind06 13 (by omega) _).mono ?_
          rintro e v7 ⟨rfl, kk7⟩
          have KJ7 := Box.mk (KJ6.out.trans kk7)
          clear kk7 KJ6
          go_wp2_with fail
          refine (kind06 9 (by omega) _).mono ?_
          rintro e v8 ⟨rfl, kk8⟩
          have KJ8 := Box.mk (KJ7.out.trans kk8)
          clear kk8 KJ7
          go_wp2_with fail
          go_ret
          exact ⟨rfl, KJ8.out.below (Nat.le_refl _) (fun _ h => h.elim)⟩
    · have d3 : (decide (0 ≤ at_) && decide (at_ < (len : Int))) = false := by
        rcases Decidable.em (0 ≤ at_) with h | h
        · have : ¬ at_ < (len : Int) := fun h2 => hin ⟨h, h2⟩
          simp [this]
        · simp [h]
      have hout : at_ < 0 ∨ (len : Int) ≤ at_ := by omega
      have Ho4 : Box (IsObj s3 L3 u 1 t len (fun j => if (j : Int) = at_ then x else ws j)) := ⟨Ho3.out.congr (fun j hj => by rw [if_neg (by omega)])⟩
      refine (oSetField_no (e9 := 13) (tg := (t : Int)) (i := at_) (fun W hW => ofield_index hW Hst3.out Ho3.out at_ hout) H9.out).mono ?_
      rintro e w10 ⟨rfl, hI10, k10⟩
      have H10 := Box.mk hI10
      have K10 := Box.mk (K9.out.trans' k10 (by have := Hlt.out; intro i hi h; unfold foot3 at h; omega))
      have Hcy4 : Box (s3.cycles ≤ 300) := ⟨by have := Hcy3.out; omega⟩
      have Hst4 := Hst3
      have Hr4 := Hr3
      have HOut := Box.mk hout
      clear hI10 k10 H9 K9 Ho3 hin hout Hst3 Hr3 Hcy3 d3
      by_cases hneg : at_ < 0
      · have d1 : decide (0 ≤ at_) = false := decide_eq_false (by omega)
        go_wp2_with fail
        refine (kind06 13 (by omega) _).mono ?_
        rintro e w11 ⟨rfl, k11⟩
        have H11 := Box.mk (H10.out.keeps0 k11)
        have K11 := Box.mk (K10.out.trans k11)
        clear k11 H10 K10
        go_wp2_with fail
        obtain ⟨s5, L5, e5, st5, k5⟩ := incr_ok steps Hst4.out (by have := Hcy4.out; omega)
        have E5 := Box.mk e5
        have Hst5 := Box.mk st5
        have Ho5 := Box.mk (k5.kept st5 Ho4.out (.root Hr4.out)).1
        clear e5 st5 k5
        refine (incr_is H11.out E5.out Hst4.out.rep.now (by omega)).mono ?_
        rintro e v1 ⟨rfl, hJ1, kk1⟩
        have J1 := Box.mk hJ1
        have KJ1 := Box.mk (K11.out.trans' kk1 (by have := Hlt.out; intro i hi h; unfold foot3 at h; omega))
        clear hJ1 kk1 H11 K11 Hst4 Ho4 Hr4 Hcy4 E5
        go_wp2_with fail
        go_loopw [107] (fun i wr => ∃ (j : Nat), j ≤ len ∧ i = .int .i64 j ∧ Box (IsTH wr hb b g s5) ∧ Box (Keeps (fun _ => False) w wr)) (fun i _ => len - (intOf i).toNat)
        case atStart => exact ⟨0, Nat.zero_le _, rfl, J1, KJ1⟩
        case round =>
          clear J1 KJ1
          obtain ⟨j, hj, rfl, H, K⟩ := hrel
          by_cases hjn : j < len
          · have hj0 : (0 : Int) ≤ (j : Int) := by omega
            obtain ⟨rb, ro, rfl, -, hrl, hcell0⟩ := HW.out j hjn
            have hcell := K.out.cell hcell0 (fun h => h)
            have HF := Box.mk (oField_ok (i := j) H.out Hst5.out Ho5.out hjn)
            obtain ⟨y, hy⟩ : ∃ y, ws j = y := ⟨_, rfl⟩
            rw [hy] at hcell HF
            clear hcell0 hy hrl
            by_cases hja : (j : Int) = at_
            · have e1 : ((j : Int) == at_) = true := by rw [beq_iff_eq]; exact hja
              rw [if_pos hja] at HF
              clear hja
              go_wp2_with fail
              refine HF.out.mono ?_
              rintro e v2 ⟨rfl, hJ2, kk2⟩
              have J2 := Box.mk hJ2
              have KJ2 := Box.mk (K.out.trans' kk2 (by have := Hlt.out; intro i hi h; unfold foot3 at h; omega))
              clear hJ2 kk2 H K HF hcell
              go_wp2_with fail
              go_roundw
              case rel => exact ⟨j + 1, by omega, by go_num, J2, KJ2⟩
              case measure => simp [intOf]; omega
            · have e1 : ((j : Int) == at_) = false := by rw [beq_eq_false_iff_ne]; exact hja
              rw [if_neg hja] at HF
              clear hja
              go_wp2_with fail
              refine HF.out.mono ?_
              rintro e v2 ⟨rfl, hJ2, kk2⟩
              have J2 := Box.mk hJ2
              have KJ2 := Box.mk (K.out.trans' kk2 (by have := Hlt.out; intro i hi h; unfold foot3 at h; omega))
              clear hJ2 kk2 H K HF hcell
              go_wp2_with fail
              go_roundw
              case rel => exact ⟨j + 1, by omega, by go_num, J2, KJ2⟩
              case measure => simp [intOf]; omega
          · have hjn2 : ¬ ((j : Int) < (len : Int)) := by omega
            go_wp2_with fail
            refine (oField_no (e9 := 13) (tg := (t : Int)) (i := (len : Int)) (fun W hW => ofield_index hW Hst5.out Ho5.out len (by omega)) H.out).mono ?_
            rintro e v3 ⟨rfl, hJ3, kk3⟩
            have J3 := Box.mk hJ3
            have KJ3 := Box.mk (K.out.trans' kk3 (by have := Hlt.out; intro i hi h; unfold foot3 at h; omega))
            clear hJ3 kk3 H K
            go_wp2_with fail
            refine (oField_no (e9 := 9) (tg := (t : Int) + 1) (i := 0) (fun W hW => ofield_type hW Hst5.out Ho5.out ((t : Int) + 1) 0 (Or.inr (by omega))) J3.out).mono ?_
            rintro e v4 ⟨rfl, hJ4, kk4⟩
            have J4 := Box.mk hJ4
            have KJ4 := Box.mk (KJ3.out.trans' kk4 (by have := Hlt.out; intro i hi h; unfold foot3 at h; omega))
            clear hJ4 kk4 J3 KJ3
            go_wp2_with fail
            refine (oTag_is J4.out Hst5.out Ho5.out).mono ?_
            rintro e v5 ⟨rfl, hJ5, kk5⟩
            have J5 := Box.mk hJ5
            have KJ5 := Box.mk (KJ4.out.trans' kk5 (by have := Hlt.out; intro i hi h; unfold foot3 at h; omega))
            clear hJ5 kk5 J4 KJ4
            go_wp2_with fail
            refine (oLen_is J5.out Hst5.out Ho5.out).mono ?_
            rintro e v6 ⟨rfl, hJ6, kk6⟩
            have KJ6 := Box.mk (KJ5.out.trans' kk6 (by have := Hlt.out; intro i hi h; unfold foot3 at h; omega))
            clear hJ6 kk6 J5 KJ5
            go_wp2_with fail
            refine (kind06 13 (by omega) _).mono ?_
            rintro e v7 ⟨rfl, kk7⟩
            have KJ7 := Box.mk (KJ6.out.trans kk7)
            clear kk7 KJ6
            go_wp2_with fail
            refine (kind06 9 (by omega) _).mono ?_
            rintro e v8 ⟨rfl, kk8⟩
            have KJ8 := Box.mk (KJ7.out.trans kk8)
            clear kk8 KJ7
            go_wp2_with fail
            go_ret
            exact ⟨rfl, KJ8.out.below (Nat.le_refl _) (fun _ h => h.elim)⟩
      · have hge : (len : Int) ≤ at_ := by have := HOut.out; omega
        have d1 : decide (0 ≤ at_) = true := decide_eq_true (by omega)
        have d2 : decide (at_ < (len : Int)) = false := decide_eq_false (by omega)
        go_wp2_with fail
        refine (kind06 13 (by omega) _).mono ?_
        rintro e w11 ⟨rfl, k11⟩
        have H11 := Box.mk (H10.out.keeps0 k11)
        have K11 := Box.mk (K10.out.trans k11)
        clear k11 H10 K10
        go_wp2_with fail
        obtain ⟨s5, L5, e5, st5, k5⟩ := incr_ok steps Hst4.out (by have := Hcy4.out; omega)
        have E5 := Box.mk e5
        have Hst5 := Box.mk st5
        have Ho5 := Box.mk (k5.kept st5 Ho4.out (.root Hr4.out)).1
        clear e5 st5 k5
        refine (incr_is H11.out E5.out Hst4.out.rep.now (by omega)).mono ?_
        rintro e v1 ⟨rfl, hJ1, kk1⟩
        have J1 := Box.mk hJ1
        have KJ1 := Box.mk (K11.out.trans' kk1 (by have := Hlt.out; intro i hi h; unfold foot3 at h; omega))
        clear hJ1 kk1 H11 K11 Hst4 Ho4 Hr4 Hcy4 E5
        go_wp2_with fail
        go_loopw [107] (fun i wr => ∃ (j : Nat), j ≤ len ∧ i = .int .i64 j ∧ Box (IsTH wr hb b g s5) ∧ Box (Keeps (fun _ => False) w wr)) (fun i _ => len - (intOf i).toNat)
        case atStart => exact ⟨0, Nat.zero_le _, rfl, J1, KJ1⟩
        case round =>
          clear J1 KJ1
          obtain ⟨j, hj, rfl, H, K⟩ := hrel
          by_cases hjn : j < len
          · have hj0 : (0 : Int) ≤ (j : Int) := by omega
            obtain ⟨rb, ro, rfl, -, hrl, hcell0⟩ := HW.out j hjn
            have hcell := K.out.cell hcell0 (fun h => h)
            have HF := Box.mk (oField_ok (i := j) H.out Hst5.out Ho5.out hjn)
            obtain ⟨y, hy⟩ : ∃ y, ws j = y := ⟨_, rfl⟩
            rw [hy] at hcell HF
            clear hcell0 hy hrl
            by_cases hja : (j : Int) = at_
            · have e1 : ((j : Int) == at_) = true := by rw [beq_iff_eq]; exact hja
              rw [if_pos hja] at HF
              clear hja
              go_wp2_with fail
              refine HF.out.mono ?_
              rintro e v2 ⟨rfl, hJ2, kk2⟩
              have J2 := Box.mk hJ2
              have KJ2 := Box.mk (K.out.trans' kk2 (by have := Hlt.out; intro i hi h; unfold foot3 at h; omega))
              clear hJ2 kk2 H K HF hcell
              go_wp2_with fail
              go_roundw
              case rel => exact ⟨j + 1, by omega, by go_num, J2, KJ2⟩
              case measure => simp [intOf]; omega
            · have e1 : ((j : Int) == at_) = false := by rw [beq_eq_false_iff_ne]; exact hja
              rw [if_neg hja] at HF
              clear hja
              go_wp2_with fail
              refine HF.out.mono ?_
              rintro e v2 ⟨rfl, hJ2, kk2⟩
              have J2 := Box.mk hJ2
              have KJ2 := Box.mk (K.out.trans' kk2 (by have := Hlt.out; intro i hi h; unfold foot3 at h; omega))
              clear hJ2 kk2 H K HF hcell
              go_wp2_with fail
              go_roundw
              case rel => exact ⟨j + 1, by omega, by go_num, J2, KJ2⟩
              case measure => simp [intOf]; omega
          · have hjn2 : ¬ ((j : Int) < (len : Int)) := by omega
            go_wp2_with fail
            refine (oField_no (e9 := 13) (tg := (t : Int)) (i := (len : Int)) (fun W hW => ofield_index hW Hst5.out Ho5.out len (by omega)) H.out).mono ?_
            rintro e v3 ⟨rfl, hJ3, kk3⟩
            have J3 := Box.mk hJ3
            have KJ3 := Box.mk (K.out.trans' kk3 (by have := Hlt.out; intro i hi h; unfold foot3 at h; omega))
            clear hJ3 kk3 H K
            go_wp2_with fail
            refine (oField_no (e9 := 9) (tg := (t : Int) + 1) (i := 0) (fun W hW => ofield_type hW Hst5.out Ho5.out ((t : Int) + 1) 0 (Or.inr (by omega))) J3.out).mono ?_
            rintro e v4 ⟨rfl, hJ4, kk4⟩
            have J4 := Box.mk hJ4
            have KJ4 := Box.mk (KJ3.out.trans' kk4 (by have := Hlt.out; intro i hi h; unfold foot3 at h; omega))
            clear hJ4 kk4 J3 KJ3
            go_wp2_with fail
            refine (oTag_is J4.out Hst5.out Ho5.out).mono ?_
            rintro e v5 ⟨rfl, hJ5, kk5⟩
            have J5 := Box.mk hJ5
            have KJ5 := Box.mk (KJ4.out.trans' kk5 (by have := Hlt.out; intro i hi h; unfold foot3 at h; omega))
            clear hJ5 kk5 J4 KJ4
            go_wp2_with fail
            refine (oLen_is J5.out Hst5.out Ho5.out).mono ?_
            rintro e v6 ⟨rfl, hJ6, kk6⟩
            have KJ6 := Box.mk (KJ5.out.trans' kk6 (by have := Hlt.out; intro i hi h; unfold foot3 at h; omega))
            clear hJ6 kk6 J5 KJ5
            go_wp2_with fail
            refine (kind06 13 (by omega) _).mono ?_
            rintro e v7 ⟨rfl, kk7⟩
            have KJ7 := Box.mk (KJ6.out.trans kk7)
            clear kk7 KJ6
            go_wp2_with fail
            refine (kind06 9 (by omega) _).mono ?_
            rintro e v8 ⟨rfl, kk8⟩
            have KJ8 := Box.mk (KJ7.out.trans kk8)
            clear kk8 KJ7
            go_wp2_with fail
            go_ret
            exact ⟨rfl, KJ8.out.below (Nat.le_refl _) (fun _ h => h.elim)⟩

theorem ObjFields_walk (tag : Int) (v : Value) (zs : List Int) (at_ x steps : Int) (w : World) (ht : (Lit.int .i64 tag).wf = true) (hv : IsRow .u64 w v zs) (ha : (Lit.int .i64 at_).wf = true) (hx : (Lit.int .u64 x).wf = true) (hst : (Lit.int .u8 steps).wf = true) :
    Calls Try.prog 10 #[.int .i64 tag, v, .int .i64 at_, .int .u64 x, .int .u8 steps] w fun e w' => e = .returned (.bool true) ∧ Below w.heap.size w w' := by
  obtain ⟨a, len, cap, rfl⟩ := hv.form
  have h := isWd_wf hx
  unfold IsWd at h
  obtain ⟨y, rfl⟩ := Int.eq_ofNat_of_zero_le h.1
  have h : 0 ≤ steps ∧ steps < 256 := by
    simp [Lit.wf, IntKind.min, IntKind.max, IntKind.bits, IntKind.signed] at hst
    omega
  obtain ⟨z, rfl⟩ := Int.eq_ofNat_of_zero_le h.1
  exact ofields_main tag a len cap zs at_ y z w hv (by omega) (by omega) ha

end Go.Proofs.Ytbjlapfcnldpoaa
