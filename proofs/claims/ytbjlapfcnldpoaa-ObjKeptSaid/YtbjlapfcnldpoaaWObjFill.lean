/- ObjFill's walk: a filled object has as many fields as were asked for, each of them what it was filled with. -/
import Derived.Test.YtbjlapfcnldpoaaPlain
namespace Go.Proofs.Ytbjlapfcnldpoaa
set_option linter.unusedVariables false
set_option linter.unusedSimpArgs false
open Go.RowKit

/-- One word in a row of its own. -/
theorem wsAt_one (w : World) (x : Nat) (S : Nat → Prop) (hS : ¬ S w.heap.size) : WsAt (w.alloc (.cells #[.int .u64 (x : Int)] 30)) (some ⟨w.heap.size, 0, none⟩) 1 (fun _ => x) S :=
  fun i hi => ⟨_, 0, rfl, hS, by simp, by
    rw [cell_of_heap (heap_alloc_new _ _)]
    have : i = 0 := by omega
    subst this; rfl⟩

set_option maxRecDepth 100000 in
set_option maxHeartbeats 4000000 in
theorem ofill_main (tag n : Int) (x : Nat) (w : World) (hx : x < 18446744073709551616) :
    Calls Try.prog 13 #[.int .i64 tag, .int .i64 n, .int .u64 x] w fun e w' => e = .returned (.bool true) ∧ Below w.heap.size w w' := by
  obtain ⟨s, L, hB⟩ := beg_ex
  have HB := Box.mk hB
  have Hx := Box.mk hx
  clear hB hx
  go_enter Try.func13, Try.ntmps13
  go_wp2_with fail
  refine (awake06 _).mono ?_
  rintro e w1 ⟨rfl, k1⟩
  have K1 := Box.mk k1
  clear k1
  go_wp2_with fail
  have K2 := Box.mk (K1.out.alloc (.cells #[.int .u64 (x : Int)] 30))
  refine (plainly_is (wsAt_one w1 x (fun _ => False) (fun h => h)) (fun _ _ => Hx.out) (by decide)).mono ?_
  rintro e w3 ⟨⟨rfl, hpl⟩ | rfl, rfl⟩
  rotate_left
  · go_wp2_with fail
    refine (awake06 _).mono ?_
    rintro e w4 ⟨rfl, k4⟩
    have K4 := Box.mk (K2.out.trans k4)
    clear k4
    go_wp2_with fail
    go_ret
    exact ⟨rfl, K4.out.below (Nat.le_refl _) (fun _ h => h.elim)⟩
  have hpl := hpl 0 (by decide)
  have HG : Box (GoodW s x) := ⟨goodW_nc hpl Hx.out⟩
  clear hpl
  go_wp2_with fail
  refine (begun_is HB.out _).mono ?_
  rintro e w4 ⟨⟨hb, b, g, rfl, hI, hl1, hl2, hl3⟩, k4⟩
  have H4 := Box.mk hI
  have K4 := Box.mk (K2.out.trans k4)
  have Hlt : Box (w.heap.size ≤ hb ∧ w.heap.size ≤ b ∧ w.heap.size ≤ g) := ⟨by have := K2.out.size; omega⟩
  clear hI k4 hl1 hl2 hl3 K1 K2
  go_wp2_with fail
  by_cases hn : n < 0 ∨ 120 < n
  · refine (fill_long tag n x _ hn).mono ?_
    rintro e w5 ⟨rfl, rfl⟩
    by_cases h0 : n < 0
    · clear hn
      go_wp2_with fail
      refine (kind06 14 (by omega) _).mono ?_
      rintro e w6 ⟨rfl, k6⟩
      have K6 := Box.mk (K4.out.trans k6)
      clear k6
      go_wp2_with fail
      go_ret
      exact ⟨rfl, K6.out.below (Nat.le_refl _) (fun _ h => h.elim)⟩
    · have h1 : 120 < n := by omega
      clear hn
      go_wp2_with fail
      refine (kind06 14 (by omega) _).mono ?_
      rintro e w6 ⟨rfl, k6⟩
      have K6 := Box.mk (K4.out.trans k6)
      clear k6
      go_wp2_with fail
      go_ret
      exact ⟨rfl, K6.out.below (Nat.le_refl _) (fun _ h => h.elim)⟩
  obtain ⟨m, rfl⟩ := Int.eq_ofNat_of_zero_le (show 0 ≤ n by omega)
  have hm : m ≤ 120 := by omega
  clear hn
  by_cases ht : tag < 1 ∨ tag = 2 ∨ 12 < tag
  · refine (fill_no H4.out hm Hx.out (HG.out.value HB.out.st) ht).mono ?_
    rintro e w5 ⟨rfl, k5⟩
    have K5 := Box.mk (K4.out.trans k5)
    have HT := Box.mk ht
    clear k5 ht
    go_wp2_with fail
    refine (mk06_tag tag m _ HT.out).mono ?_
    rintro e w6 ⟨rfl, rfl⟩
    go_wp2_with fail
    refine (kind06 2 (by omega) _).mono ?_
    rintro e w7 ⟨rfl, k7⟩
    have K7 := Box.mk (K5.out.trans k7)
    clear k7
    go_wp2_with fail
    go_ret
    exact ⟨rfl, K7.out.below (Nat.le_refl _) (fun _ h => h.elim)⟩
  obtain ⟨t, rfl⟩ := Int.eq_ofNat_of_zero_le (show 0 ≤ tag by omega)
  have HT : Box (1 ≤ t ∧ t ≤ 12 ∧ t ≠ 2) := ⟨by omega⟩
  clear ht
  have hB := HB.out
  have hcy0 := hB.cyc
  have hk0 := hB.k
  refine (fill_ok (n := m) (tag := t) (x := x) H4.out hB.st (by omega) (by omega) HT.out.1 HT.out.2.1 HT.out.2.2 hm HG.out (by have := hB.room m; omega)).mono ?_
  rintro e w5 ⟨⟨s1, L1, u, rfl, hI5, hM⟩, k5⟩
  have H5 := Box.mk hI5
  have HM := Box.mk hM
  have K5 := Box.mk (K4.out.trans' k5 (by have := Hlt.out; intro i hi h; unfold foot3 at h; omega))
  clear hI5 hM k5 H4 K4 hB hcy0 hk0
  go_wp2_with fail
  refine (mk06_yes t m _ (by have := HT.out; omega) (by omega) (by omega)).mono ?_
  rintro e w6 ⟨rfl, rfl⟩
  go_wp2_with fail
  go_loopw [56] (fun i wr => ∃ (j : Nat), j ≤ m ∧ i = .int .i64 j ∧ Box (IsTH wr hb b g s1) ∧ Box (Keeps (fun _ => False) w wr)) (fun i _ => m - (intOf i).toNat)
  case atStart => exact ⟨0, Nat.zero_le _, rfl, H5, K5⟩
  case round =>
    clear H5 K5
    obtain ⟨j, hj, rfl, H, K⟩ := hrel
    by_cases hjm : j < m
    · have hj0 : (0 : Int) ≤ (j : Int) := by omega
      go_wp2_with fail
      refine (oField_ok (i := j) H.out HM.out.st HM.out.obj hjm).mono ?_
      rintro e w7 ⟨rfl, hI7, k7⟩
      have H7 := Box.mk hI7
      have K7 := Box.mk (K.out.trans' k7 (by have := Hlt.out; intro i hi h; unfold foot3 at h; omega))
      clear hI7 k7 H K
      go_wp2_with fail
      go_roundw
      case rel => exact ⟨j + 1, by omega, by go_num, H7, K7⟩
      case measure => simp [intOf]; omega
    · have hjm2 : ¬ ((j : Int) < (m : Int)) := by omega
      go_wp2_with fail
      refine (oLen_is H.out HM.out.st HM.out.obj).mono ?_
      rintro e w7 ⟨rfl, hI7, k7⟩
      have K7 := Box.mk (K.out.trans' k7 (by have := Hlt.out; intro i hi h; unfold foot3 at h; omega))
      clear hI7 k7 H K
      go_wp2_with fail
      go_ret
      exact ⟨rfl, K7.out.below (Nat.le_refl _) (fun _ h => h.elim)⟩

theorem ObjFill_walk (tag n x : Int) (w : World) (ht : (Lit.int .i64 tag).wf = true) (hn : (Lit.int .i64 n).wf = true) (hx : (Lit.int .u64 x).wf = true) :
    Calls Try.prog 13 #[.int .i64 tag, .int .i64 n, .int .u64 x] w fun e w' => e = .returned (.bool true) ∧ Below w.heap.size w w' := by
  have h := isWd_wf hx
  unfold IsWd at h
  obtain ⟨y, rfl⟩ := Int.eq_ofNat_of_zero_le h.1
  exact ofill_main tag n y w (by omega)

end Go.Proofs.Ytbjlapfcnldpoaa
