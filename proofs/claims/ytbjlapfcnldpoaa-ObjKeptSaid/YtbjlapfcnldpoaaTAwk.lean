/- Law 5's kind and awake. -/
import Derived.Test.YtbjlapfcnldpoaaTAlloc
import Derived.Test.YtbjlapfcnldpoaaErr
namespace Go.Proofs.Ytbjlapfcnldpoaa
set_option linter.unusedVariables false
set_option linter.unusedSimpArgs false
open Go.RowKit

/-- law 5's kind, of the errors that it asks for. -/
theorem kind05 (a : Int) (h : a = 0 ∨ a = 1 ∨ a = 2 ∨ a = 3 ∨ a = 4) (w : World) :
    Calls Try.prog 37 #[errV a] w fun e w' => e = .returned (.int .i64 a) ∧ Keeps (fun _ => False) w w' := by
  rcases h with rfl | rfl | rfl | rfl | rfl
  · show Calls Try.prog 37 #[.nilIface] w _
    go_enter Try.func37, Try.ntmps37
    go_wp2
    go_ret
    exact ⟨rfl, Keeps.refl _ _⟩
  · show Calls Try.prog 37 #[.iface 97 (.int .i64 1)] w _
    go_enter Try.func37, Try.ntmps37
    go_wp2_with fail
    refine wp_loop_rounds 1 ?_
    rw [rounds_succ]
    go_wp2_with (go_at_call 59; refine (is_kind _ _ _).mono ?_; rintro e w' ⟨rfl, rfl⟩)
    go_ret
    exact ⟨rfl, (Keeps.refl _ _).alloc _⟩
  · show Calls Try.prog 37 #[.iface 97 (.int .i64 2)] w _
    go_enter Try.func37, Try.ntmps37
    go_wp2_with fail
    refine wp_loop_rounds 2 ?_
    rw [rounds_succ]
    go_wp2_with (go_at_call 59; refine (is_kind _ _ _).mono ?_; rintro e w' ⟨rfl, rfl⟩)
    rw [rounds_succ]
    go_wp2_with (go_at_call 59; refine (is_kind _ _ _).mono ?_; rintro e w' ⟨rfl, rfl⟩)
    go_ret
    exact ⟨rfl, (Keeps.refl _ _).alloc _⟩
  · show Calls Try.prog 37 #[.iface 97 (.int .i64 3)] w _
    go_enter Try.func37, Try.ntmps37
    go_wp2_with fail
    refine wp_loop_rounds 3 ?_
    rw [rounds_succ]
    go_wp2_with (go_at_call 59; refine (is_kind _ _ _).mono ?_; rintro e w' ⟨rfl, rfl⟩)
    rw [rounds_succ]
    go_wp2_with (go_at_call 59; refine (is_kind _ _ _).mono ?_; rintro e w' ⟨rfl, rfl⟩)
    rw [rounds_succ]
    go_wp2_with (go_at_call 59; refine (is_kind _ _ _).mono ?_; rintro e w' ⟨rfl, rfl⟩)
    go_ret
    exact ⟨rfl, (Keeps.refl _ _).alloc _⟩
  · show Calls Try.prog 37 #[.iface 97 (.int .i64 4)] w _
    go_enter Try.func37, Try.ntmps37
    go_wp2_with fail
    refine wp_loop_rounds 4 ?_
    rw [rounds_succ]
    go_wp2_with (go_at_call 59; refine (is_kind _ _ _).mono ?_; rintro e w' ⟨rfl, rfl⟩)
    rw [rounds_succ]
    go_wp2_with (go_at_call 59; refine (is_kind _ _ _).mono ?_; rintro e w' ⟨rfl, rfl⟩)
    rw [rounds_succ]
    go_wp2_with (go_at_call 59; refine (is_kind _ _ _).mono ?_; rintro e w' ⟨rfl, rfl⟩)
    rw [rounds_succ]
    go_wp2_with (go_at_call 59; refine (is_kind _ _ _).mono ?_; rintro e w' ⟨rfl, rfl⟩)
    go_ret
    exact ⟨rfl, (Keeps.refl _ _).alloc _⟩
theorem kind05_nil (w : World) : Calls Try.prog 37 #[.nilIface] w fun e w' => e = .returned (.int .i64 0) ∧ Keeps (fun _ => False) w w' := kind05 0 (by omega) w
theorem kind05_err (a : Int) (h : a = 1 ∨ a = 2 ∨ a = 3 ∨ a = 4) (w : World) : Calls Try.prog 37 #[.iface 97 (.int .i64 a)] w fun e w' => e = .returned (.int .i64 a) ∧ Keeps (fun _ => False) w w' := by
  have := kind05 a (by omega) w
  unfold errV at this
  rwa [if_neg (by omega)] at this

/-- The state behind k rounds of awake. -/
def awkN : Nat → Option TH
  | 0 => tlay (pre 4 0 0 0 1)
  | k + 1 => (awkN k).bind fun s => (talloc s 1 5 2).bind fun r => if tvalue r.1 r.2 = true ∧ r.2 < 18446744073709551616 then some (setRoot r.1 k r.2) else none
structure AwkEnd (s4 s5 s6 : TH) (x q c h : Nat) : Prop where
  a : awkN 4 = some s4
  v : tvalue s4 12 = true
  i : tincr 40 (setRoot s4 3 12) = some s5
  al : talloc s5 1 5 2 = some (s6, x)
  xb : x < 18446744073709551616
  p : tplace s6 x = some (q, c)
  r : rdh s6.W q = some h
  h1 : hform h = 1
  h2 : htag h = 5
  h3 : hn h = 2
  n : tplace s5 20 = none
def awkAll : Option (TH × TH × TH × Nat × Nat × Nat × Nat) := do
  let s4 ← awkN 4
  let s5 ← tincr 40 (setRoot s4 3 12)
  let r ← talloc s5 1 5 2
  let p ← tplace r.1 r.2
  let h ← rdh r.1.W p.1
  if tvalue s4 12 && decide (r.2 < 18446744073709551616) && hform h == 1 && htag h == 5 && hn h == 2 && (tplace s5 20).isNone then some (s4, s5, r.1, r.2, p.1, p.2, h) else none
theorem awkAll_some : awkAll.isSome = true := by kernel_rfl
theorem awk0_free : ((awkN 0).map fun s => lget s 0 0) = some 4 := by kernel_rfl
theorem awk_end : ∃ s4 s5 s6 x q c h, AwkEnd s4 s5 s6 x q c h := by
  have h := awkAll_some
  obtain ⟨⟨s4, s5, s6, x, q, c, hd⟩, hs⟩ := Option.isSome_iff_exists.1 h
  unfold awkAll at hs
  simp only [Option.bind_eq_bind, Option.bind_eq_some_iff] at hs
  obtain ⟨t4, h1, t5, h2, r, h3, p, h4, hh, h5, h6⟩ := hs
  split at h6
  · rename_i hc
    simp only [Bool.and_eq_true, decide_eq_true_eq, beq_iff_eq, Option.isNone_iff_eq_none] at hc
    obtain ⟨⟨⟨⟨⟨c1, c2⟩, c3⟩, c4⟩, c5⟩, c6⟩ := hc
    simp only [Option.some.injEq, Prod.mk.injEq] at h6
    obtain ⟨rfl, rfl, rfl, rfl, rfl, rfl, rfl⟩ := h6
    exact ⟨t4, t5, r.1, r.2, p.1, p.2, hh, h1, c1, h2, h3, c2, h4, h5, c3, c4, c5, c6⟩
  · cases h6
theorem awkN_step {s4 : TH} (h : awkN 4 = some s4) {k : Nat} (hk : k < 4) {s : TH} (hs : awkN k = some s) : ∃ s1 x, talloc s 1 5 2 = some (s1, x) ∧ tvalue s1 x = true ∧ x < 18446744073709551616 ∧ awkN (k + 1) = some (setRoot s1 k x) := by
  have hall : ∀ j, j ≤ 4 → (awkN j).isSome = true := by
    have h4 : (awkN 4).isSome = true := by rw [h]; rfl
    have down : ∀ j, (awkN (j + 1)).isSome = true → (awkN j).isSome = true := by
      intro j hj
      cases hn : awkN j with
      | none => simp [awkN, hn] at hj
      | some x => rfl
    intro j hj
    have h3 := down 3 h4
    have h2 := down 2 h3
    have h1 := down 1 h2
    have h0 := down 0 h1
    match j, hj with
    | 0, _ => exact h0
    | 1, _ => exact h1
    | 2, _ => exact h2
    | 3, _ => exact h3
    | 4, _ => exact h4
  have h1 := hall (k + 1) (by omega)
  obtain ⟨t, ht⟩ := Option.isSome_iff_exists.1 h1
  have ht0 := ht
  simp only [awkN, hs, Option.bind_some, Option.bind_eq_some_iff] at ht
  obtain ⟨r, h2, h3⟩ := ht
  split at h3
  · rename_i hc
    injection h3 with h3
    exact ⟨r.1, r.2, h2, hc.1, hc.2, by rw [ht0, ← h3]⟩
  · cases h3

theorem ttake_same {s s' : TH} {form tag n x : Nat} (h : ttake s form tag n = some (s', x)) : s'.now = s.now ∧ s'.roots = s.roots ∧ s'.start = s.start ∧ s'.count = s.count ∧ s'.k = s.k := by
  obtain ⟨q, W1, W2, W3, W4, -, -, -, -, -, -, -, -, rfl, rfl⟩ := ttake_parts h
  exact ⟨rfl, rfl, rfl, rfl, rfl⟩
theorem talloc_same {s s' : TH} {form tag n x : Nat} (h : talloc s form tag n = some (s', x)) (hn : s.now ≤ 1) : s'.now ≤ 1 ∧ s'.roots = s.roots ∧ s'.start = s.start ∧ s'.count = s.count ∧ s'.k = s.k := by
  obtain ⟨s1, h1, h2⟩ := talloc_take h
  obtain ⟨a1, a2, a3, a4, a5⟩ := tincr_same h1 hn
  obtain ⟨b1, b2, b3, b4, b5⟩ := ttake_same h2
  exact ⟨by rw [b1]; exact a1, by rw [b2, a2], by rw [b3, a3], by rw [b4, a4], by rw [b5, a5]⟩
theorem tlay_same {s s' : TH} (h : tlay s = some s') : s'.now = s.now ∧ s'.roots = s.roots ∧ s'.start = s.start ∧ s'.count = s.count ∧ s'.k = s.k ∧ s'.marking = s.marking ∧ s'.wait = s.wait ∧ s'.cycles = s.cycles ∧ s'.tries = s.tries := by
  have key : ∀ n (s s' : TH), layN n s = some s' → s'.now = s.now ∧ s'.roots = s.roots ∧ s'.start = s.start ∧ s'.count = s.count ∧ s'.k = s.k ∧ s'.marking = s.marking ∧ s'.wait = s.wait ∧ s'.cycles = s.cycles ∧ s'.tries = s.tries := by
    intro n
    induction n with
    | zero => intro s s' h; simp only [layN, Option.some.injEq] at h; rw [h]; exact ⟨rfl, rfl, rfl, rfl, rfl, rfl, rfl, rfl, rfl⟩
    | succ n ih =>
      intro s s' h
      simp only [layN, Option.bind_eq_some_iff] at h
      obtain ⟨t, h1, h2⟩ := h
      obtain ⟨W, -, rfl⟩ := lay1_parts h2
      obtain ⟨a1, a2, a3, a4, a5, a6, a7, a8, a9⟩ := ih _ _ h1
      exact ⟨a1, a2, a3, a4, a5, a6, a7, a8, a9⟩
  unfold tlay at h
  simp only [Option.bind_eq_some_iff] at h
  obtain ⟨W, -, h1⟩ := h
  have h2 := key 4 _ _ h1
  exact h2

set_option maxRecDepth 100000 in
set_option maxHeartbeats 4000000 in
theorem awake05 (w : World) : Calls Try.prog 15 #[] w fun e w' => e = .returned (.bool true) ∧ Keeps (fun _ => False) w w' := by
  obtain ⟨s4, s5, s6, x, q, c, h, hE⟩ := awk_end
  have HE := Box.mk hE
  clear hE
  have h0 : ∃ s0, awkN 0 = some s0 := by
    cases hn : awkN 0 with
    | none => have := awk0_free; rw [hn] at this; cases this
    | some s0 => exact ⟨s0, rfl⟩
  obtain ⟨s0, h0⟩ := h0
  have hf0 : lget s0 0 0 = 4 := by have := awk0_free; rw [h0] at this; simpa using this
  have H0 := Box.mk h0
  have HF0 := Box.mk hf0
  have HS0 := Box.mk (tlay_same (show tlay (pre 4 0 0 0 1) = some s0 from h0))
  clear h0 hf0
  go_enter Try.func15, Try.ntmps15
  go_wp2_with fail
  refine (tnew_is (c0 := 4) (c1 := 0) (c2 := 0) (c3 := 0) (k := 1) (s := s0) (by omega) (by omega) (by omega) (by omega) (by omega) (by omega) H0.out).mono ?_
  rintro e w1 ⟨hb, b, g, rfl, hI1, k1, hb1, hb2, hb3⟩
  have HB := Box.mk (And.intro hb1 (And.intro hb2 hb3))
  have H1 := Box.mk hI1
  have K1 := Box.mk k1
  clear hI1 k1 hb1 hb2 hb3
  go_wp2_with fail
  refine (free_is (c := 0) H1.out (by omega)).mono ?_
  rw [HF0.out]
  rintro e w2 ⟨rfl, rfl⟩
  go_wp2_with fail
  go_loopw [32] (fun i wr => ∃ (k : Nat) (sk : TH), k ≤ 4 ∧ i = .int .i64 k ∧ Box (awkN k = some sk) ∧ Box (sk.now ≤ 1) ∧ Box (sk.k = 1) ∧ Box (IsTH wr hb b g sk) ∧ Box (Keeps (fun _ => False) w wr)) (fun i _ => 4 - (intOf i).toNat)
  case atStart => exact ⟨0, s0, Nat.zero_le _, rfl, H0, ⟨by rw [HS0.out.1]; decide⟩, ⟨by rw [HS0.out.2.2.2.2.1]; rfl⟩, H1, K1⟩
  case round =>
    clear H1 K1 H0 HF0 HS0
    obtain ⟨k, sk, hk, rfl, HN, HW, HK, HS, K⟩ := hrel
    by_cases hk4 : k < 4
    · obtain ⟨s1, y, hal, hv, hyb, hN'⟩ := awkN_step HE.out.a hk4 HN.out
      have Hal := Box.mk hal
      have Hv := Box.mk (And.intro hv hyb)
      have HN' := Box.mk hN'
      have hsm := talloc_same hal HW.out
      have HW' : Box ((setRoot s1 k y).now ≤ 1) := ⟨hsm.1⟩
      have HK' : Box ((setRoot s1 k y).k = 1) := ⟨by show s1.k = 1; rw [hsm.2.2.2.2]; exact HK.out⟩
      clear hal hv hyb hN' hsm HN
      go_wp2_with fail
      refine (alloc_f (form := 1) (tag := 5) (n := 2) HS.out Hal.out HW.out (by rw [HK.out]; decide) (by decide) (by decide) (by decide) (by decide)).mono ?_
      rintro e w3 ⟨rfl, hI3, k3⟩
      have H3 := Box.mk hI3
      have K3 : Box (Keeps (fun _ => False) w w3) := ⟨K.out.trans' k3 (fun z hz h => by have := HB.out; unfold foot3 at h; omega)⟩
      clear hI3 k3 HS K
      have hmin : (if (k : Int) < 3 then (k : Int) else 3) = (k : Int) := by split <;> omega
      go_wp2_with fail
      refine (setroot_is H3.out (show k < 12 by omega) Hv.out.2 Hv.out.1).mono ?_
      rintro e w4 ⟨rfl, hI4, k4⟩
      have H4 := Box.mk hI4
      have K4 : Box (Keeps (fun _ => False) w w4) := ⟨K3.out.trans' k4 (fun z hz h => by have := HB.out; unfold foot3 at h; omega)⟩
      clear hI4 k4 H3 K3 hmin
      go_wp2_with fail
      go_roundw
      case rel => exact ⟨k + 1, _, by omega, by go_num, HN', HW', HK', H4, K4⟩
      case measure => simp [intOf]; omega
    · have H4 : Box (k = 4) := ⟨by omega⟩
      have hk5 : ¬ ((k : Int) < 4) := by omega
      clear hk4
      have e4 : sk = s4 := by
        have h := HN.out
        rw [H4.out, HE.out.a] at h
        injection h with h
        exact h.symm
      subst e4
      clear HN
      go_wp2_with fail
      refine (wvoid_is _).mono ?_
      rintro e w3 ⟨rfl, rfl⟩
      go_wp2_with fail
      refine (setroot_is (i := 3) (x := 12) HS.out (by decide) (by decide) HE.out.v).mono ?_
      rintro e w4 ⟨rfl, hI4, k4⟩
      have H4 := Box.mk hI4
      have K4 : Box (Keeps (fun _ => False) w w4) := ⟨K.out.trans' k4 (fun z hz h => by have := HB.out; unfold foot3 at h; omega)⟩
      have HW4 : Box ((setRoot sk 3 12).now ≤ 1) := ⟨HW.out⟩
      clear hI4 k4 HS K
      go_wp2_with fail
      refine (incr_is (n := 40) H4.out HE.out.i HW4.out (by decide)).mono ?_
      rintro e w5 ⟨rfl, hI5, k5⟩
      have H5 := Box.mk hI5
      have K5 : Box (Keeps (fun _ => False) w w5) := ⟨K4.out.trans' k5 (fun z hz h => by have := HB.out; unfold foot3 at h; omega)⟩
      have hsm := tincr_same HE.out.i HW4.out
      have HW5 : Box (s5.now ≤ 1) := ⟨hsm.1⟩
      have HK5 : Box (s5.k = 1) := ⟨by rw [hsm.2.2.2.2]; exact HK.out⟩
      clear hI5 k5 H4 K4 hsm HW4 HW HK
      go_wp2_with fail
      refine (wundef_is _).mono ?_
      rintro e w6 ⟨rfl, rfl⟩
      go_wp2_with fail
      refine (shape_no (x := 20) H5.out (by decide) HE.out.n).mono ?_
      rintro e w7 ⟨rfl, k7⟩
      have H7 := Box.mk (H5.out.keeps0 k7)
      have K7 := Box.mk (K5.out.trans k7)
      clear k7 H5 K5
      go_wp2_with fail
      refine (alloc_f (form := 1) (tag := 5) (n := 2) H7.out HE.out.al HW5.out (by rw [HK5.out]; decide) (by decide) (by decide) (by decide) (by decide)).mono ?_
      rintro e w8 ⟨rfl, hI8, k8⟩
      have H8 := Box.mk hI8
      have K8 : Box (Keeps (fun _ => False) w w8) := ⟨K7.out.trans' k8 (fun z hz h => by have := HB.out; unfold foot3 at h; omega)⟩
      clear hI8 k8 H7 K7
      go_wp2_with fail
      refine (shape_is H8.out HE.out.xb HE.out.p HE.out.r).mono ?_
      rw [HE.out.h1, HE.out.h2, HE.out.h3]
      rintro e w9 ⟨rfl, hI9, k9⟩
      have K9 : Box (Keeps (fun _ => False) w w9) := ⟨K8.out.trans' k9 (fun z hz h => by have := HB.out; unfold foot3 at h; omega)⟩
      clear hI9 k9 H8 K8
      go_wp2_with fail
      refine (is_kind _ _ _).mono ?_
      rintro e w10 ⟨rfl, rfl⟩
      go_wp2_with fail
      refine (cls_is 4 _ (by decide)).mono ?_
      rintro e w11 ⟨rfl, k11⟩
      have K11 := Box.mk (K9.out.trans k11)
      clear k11 K9
      go_wp2_with fail
      refine (cls_no 128 _ (by omega)).mono ?_
      rintro e w12 ⟨rfl, rfl⟩
      go_wp2_with fail
      go_ret
      exact ⟨rfl, K11.out⟩

end Go.Proofs.Ytbjlapfcnldpoaa
