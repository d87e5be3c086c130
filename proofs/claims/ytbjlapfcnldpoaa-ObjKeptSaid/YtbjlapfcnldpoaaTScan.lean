/- The heap's scan by its contract. -/
import Derived.Test.YtbjlapfcnldpoaaTFlip
namespace Go.Proofs.Ytbjlapfcnldpoaa
set_option linter.unusedVariables false
set_option linter.unusedSimpArgs false
open Go.RowKit

theorem obehind_parts {W : List Nat} {p x : Nat} (h : oBehind W p = some x) : p + 2 < W.length ∧ wat W (p + 2) = x ∧ x ≤ 1048576 := by
  unfold oBehind isPlace at h
  simp only [Bool.and_eq_true, decide_eq_true_eq] at h
  split at h
  · rename_i h1
    injection h with h
    exact ⟨h1.1, h, by rw [← h]; exact h1.2⟩
  · cases h
theorem oahead_parts {W : List Nat} {p x : Nat} (h : oAhead W p = some x) : p + 2 < W.length ∧ wat W (p + 1) = x ∧ x ≤ 1048576 := by
  unfold oAhead isPlace at h
  simp only [Bool.and_eq_true, decide_eq_true_eq] at h
  split at h
  · rename_i h1
    injection h with h
    exact ⟨h1.1, h, by rw [← h]; exact h1.2⟩
  · cases h
theorem obehind_is {b g p x : Nat} {w : World} {W : List Nat} (hI : IsW w b g W) (h : oBehind W p = some x) :
    Calls Try.prog 69 #[.pointer (some ⟨b, 0, none⟩), .int .i64 p] w fun e w' => e = .returned (.tuple #[.int .i64 x, .nilIface]) ∧ IsW w' b g W ∧ Keeps (foot b g) w w' := by
  obtain ⟨h1, h2, h3⟩ := obehind_parts h
  exact rbehind_is hI h1 h2 h3
theorem oahead_is {b g p x : Nat} {w : World} {W : List Nat} (hI : IsW w b g W) (h : oAhead W p = some x) :
    Calls Try.prog 90 #[.pointer (some ⟨b, 0, none⟩), .int .i64 p] w fun e w' => e = .returned (.tuple #[.int .i64 x, .nilIface]) ∧ IsW w' b g W ∧ Keeps (foot b g) w w' := by
  obtain ⟨h1, h2, h3⟩ := oahead_parts h
  exact rahead_is hI h1 h2 h3
theorem rd_parts {W : List Nat} {p x : Nat} (h : rd W p = some x) : p < W.length ∧ wat W p = x := by
  unfold rd at h
  split at h
  · rename_i h1; injection h with h; exact ⟨h1, h⟩
  · cases h
theorem req_parts {p : Prop} [Decidable p] {u : Unit} (h : req (decide p) = some u) : p := by
  unfold req at h
  split at h
  · rename_i h1; simpa using h1
  · cases h

/-- What is left when a grey cell was taken. -/
def taken (s : TH) (c m : Nat) : TH := { lset s c 3 m with tries := 0 }
theorem tscanAt_parts {s s' : TH} {c : Nat} (h : tscanAt s c = some s') : ∃ x hd, oBehind s.W (thead c 3) = some x ∧ rdh s.W x = some hd ∧ lget s c 3 < 1000000 ∧
    ((hform hd = 3 ∧ ∃ last, oAhead s.W 48 = some last ∧ s.wait < 1000000 ∧ tmove { taken s c (lget s c 3 - 1) with wait := s.wait + 1 } x c last s.now 1 = some s') ∨
     (hform hd = 1 ∧ ∃ s2, shadeFields (taken s c (lget s c 3 - 1)) x (hn hd) 0 = some s2 ∧ tmove s2 x c (thead c 1) s2.now 1 = some s') ∨
     (hform hd = 2 ∧ tmove (taken s c (lget s c 3 - 1)) x c (thead c 1) s.now 1 = some s') ∨
     (hform hd = 0 ∧ s' = taken s c (lget s c 3 - 1))) := by
  unfold tscanAt at h
  simp only [Option.bind_eq_bind, Option.bind_eq_some_iff] at h
  obtain ⟨x, h1, hd, h2, u, h3, h4⟩ := h
  refine ⟨x, hd, h1, h2, req_parts h3, ?_⟩
  split at h4
  · rename_i hf
    simp only [Option.bind_eq_some_iff] at h4
    obtain ⟨last, h5, u, h6, h7⟩ := h4
    exact Or.inl ⟨hf, last, h5, req_parts h6, h7⟩
  · rename_i hf3
    split at h4
    · rename_i hf
      simp only [Option.bind_eq_some_iff] at h4
      obtain ⟨s2, h5, h7⟩ := h4
      exact Or.inr (Or.inl ⟨hf, s2, h5, h7⟩)
    · rename_i hf1
      split at h4
      · rename_i hf
        exact Or.inr (Or.inr (Or.inl ⟨hf, h4⟩))
      · rename_i hf2
        simp only [Option.pure_def, Option.some.injEq] at h4
        refine Or.inr (Or.inr (Or.inr ⟨?_, h4.symm⟩))
        have : hform hd < 4 := by unfold hform; omega
        omega
theorem tscan_parts {s : TH} {r : Option TH} (h : tscan s = some r) : (r = none ∧ ∀ c, c < 4 → lget s c 3 = 0) ∨ ∃ c s', c < 4 ∧ (∀ j, j < c → lget s j 3 = 0) ∧ lget s c 3 ≠ 0 ∧ tscanAt s c = some s' ∧ r = some s' := by
  unfold tscan at h
  split at h
  · rename_i h0
    simp only [Option.map_eq_some_iff] at h
    obtain ⟨s', h1, h2⟩ := h
    exact Or.inr ⟨0, s', by omega, fun j hj => by omega, h0, h1, h2.symm⟩
  · rename_i h0
    split at h
    · rename_i h1'
      simp only [Option.map_eq_some_iff] at h
      obtain ⟨s', h1, h2⟩ := h
      refine Or.inr ⟨1, s', by omega, fun j hj => ?_, h1', h1, h2.symm⟩
      have : j = 0 := by omega
      subst this; omega
    · rename_i h1'
      split at h
      · rename_i h2'
        simp only [Option.map_eq_some_iff] at h
        obtain ⟨s', h1, h2⟩ := h
        refine Or.inr ⟨2, s', by omega, fun j hj => ?_, h2', h1, h2.symm⟩
        have : j = 0 ∨ j = 1 := by omega
        rcases this with rfl | rfl <;> omega
      · rename_i h2'
        split at h
        · rename_i h3'
          simp only [Option.map_eq_some_iff] at h
          obtain ⟨s', h1, h2⟩ := h
          refine Or.inr ⟨3, s', by omega, fun j hj => ?_, h3', h1, h2.symm⟩
          have : j = 0 ∨ j = 1 ∨ j = 2 := by omega
          rcases this with rfl | rfl | rfl <;> omega
        · rename_i h3'
          injection h with h
          refine Or.inl ⟨h.symm, fun c hc => ?_⟩
          have : c = 0 ∨ c = 1 ∨ c = 2 ∨ c = 3 := by omega
          rcases this with rfl | rfl | rfl | rfl <;> omega
theorem shadeFields_step {s s' : TH} {x m j : Nat} (h : shadeFields s x (m + 1) j = some s') : ∃ v t, x + 3 + j < s.W.length ∧ wat s.W (x + 3 + j) = v ∧ tshade s v = some t ∧ shadeFields t x m (j + 1) = some s' := by
  simp only [shadeFields, Option.bind_eq_bind, Option.bind_eq_some_iff] at h
  obtain ⟨v, h1, t, h2, h3⟩ := h
  obtain ⟨h4, h5⟩ := rd_parts h1
  exact ⟨v, t, h4, h5, h2, h3⟩

set_option maxRecDepth 100000 in
set_option maxHeartbeats 2000000 in
theorem scan_none {hb b g : Nat} {s : TH} {w : World} (hI : IsTH w hb b g s) (hz : ∀ j, j < 4 → lget s j 3 = 0) :
    Calls Try.prog 65 #[.pointer (some ⟨hb, 0, none⟩)] w fun e w' => e = .returned (.bool false) ∧ IsTH w' hb b g s ∧ Keeps (foot3 hb b g) w w' := by
  have H := Box.mk hI
  have Hz := Box.mk hz
  have K0 := Box.mk (Keeps.refl (foot3 hb b g) w)
  clear hI hz
  go_enter Try.func65, Try.ntmps65
  go_wp2_with fail
  go_loopw [12] (fun i wr => ∃ (k : Nat), k ≤ 4 ∧ i = .int .i64 k ∧ Box (IsTH wr hb b g s) ∧ Box (Keeps (foot3 hb b g) w wr)) (fun i _ => 4 - (intOf i).toNat)
  case atStart => exact ⟨0, Nat.zero_le _, rfl, H, K0⟩
  case round =>
    clear H K0
    obtain ⟨k, hk, rfl, HS, K⟩ := hrel
    by_cases hk4 : k < 4
    · have hk0 : (0 : Int) ≤ (k : Int) := by omega
      have hk1 : (k : Int) < 4 := by omega
      have hcell := HS.out.lists (i := 4 * k + 3) (by omega)
      rw [show s.lists.getD (4 * k + 3) 0 = 0 from Hz.out k hk4, show 10 + (4 * k + 3) = 10 + k * 4 + 3 by omega] at hcell
      go_wp2_with fail
      go_roundw
      case rel => exact ⟨k + 1, by omega, by go_num, HS, K⟩
      case measure => simp [intOf]; omega
    · have hk4' : k = 4 := by omega
      subst hk4'
      go_wp2_with fail
      go_ret
      exact ⟨rfl, HS.out, K.out⟩

set_option maxRecDepth 100000 in
set_option maxHeartbeats 2000000 in
theorem scan_other {hb b g : Nat} {s s' : TH} {w : World} {c x hd : Nat} (hI : IsTH w hb b g s) (hc : c < 4) (hz : ∀ j, j < c → lget s j 3 = 0) (hne : lget s c 3 ≠ 0) (hbe : oBehind s.W (thead c 3) = some x) (hr : rdh s.W x = some hd) (hbig : lget s c 3 < 1000000) (hnow : s.now ≤ 1) (hf : hform hd = 0)  :
    Calls Try.prog 65 #[.pointer (some ⟨hb, 0, none⟩)] w fun e w' => e = .returned (.bool true) ∧ IsTH w' hb b g (taken s c (lget s c 3 - 1)) ∧ Keeps (foot3 hb b g) w w' := by
  have hxb := (obehind_parts hbe).2.2
  obtain ⟨n, hn0⟩ : ∃ n, lget s c 3 = n := ⟨_, rfl⟩
  obtain ⟨m, hm0⟩ : ∃ m, n - 1 = m := ⟨_, rfl⟩
  rw [hn0] at hne hbig
  have hmb : m < 1000000 := by omega
  have hnn : (n : Int) - 1 = (m : Int) := by omega
  have hneI : ((n : Int) == 0) = false := by rw [beq_eq_false_iff_ne]; omega
  have Hpost : Box (lget s c 3 - 1 = m) := ⟨by omega⟩
  obtain ⟨vf, hvf⟩ : ∃ vf, hform hd = vf := ⟨_, rfl⟩
  obtain ⟨vt, hvt⟩ : ∃ vt, htag hd = vt := ⟨_, rfl⟩
  obtain ⟨vm, hvm⟩ : ∃ vm, hmark hd = vm := ⟨_, rfl⟩
  obtain ⟨vn, hvn⟩ : ∃ vn, hn hd = vn := ⟨_, rfl⟩
  have Hat : Box (∀ W, IsTH W hb b g s → Calls Try.prog 77 #[.pointer (some ⟨hb, 0, none⟩), .int .i64 x] W fun e w' => e = .returned (.agg #[.int .i64 (vf : Int), .int .i64 (vt : Int), .int .i64 (vm : Int), .int .i64 (vn : Int)]) ∧ IsTH w' hb b g s ∧ Keeps (foot3 hb b g) W w') := ⟨fun W hW => by
    have := at_is x hW hr
    rw [hvf, hvt, hvm, hvn] at this
    exact this⟩
  have hvf2 : vf = 0 := by omega
  subst hvf2
  obtain ⟨p3, hp3⟩ : ∃ p, thead c 3 = p := ⟨_, rfl⟩
  have hd3 : ∀ W, Calls Try.prog 70 #[.int .i64 c, .int .i64 3] W fun e w' => e = .returned (.int .i64 p3) ∧ w' = W := fun W => by rw [← hp3]; exact head_is c 3 W (by omega) (by omega)
  rw [hp3] at hbe
  obtain ⟨p1, hp1⟩ : ∃ p, thead c 1 = p := ⟨_, rfl⟩
  have hd1 : ∀ W, Calls Try.prog 70 #[.int .i64 c, .int .i64 1] W fun e w' => e = .returned (.int .i64 p1) ∧ w' = W := fun W => by rw [← hp1]; exact head_is c 1 W (by omega) (by omega)
  skip
  have Hd := Box.mk (And.intro hd3 hd1)
  have Hp1 := Box.mk hp1
  have Hbe := Box.mk hbe
  have H := Box.mk hI
  have Hz := Box.mk hz
  have Hn := Box.mk hn0
  have Hvn := Box.mk hvn
  have K0 := Box.mk (Keeps.refl (foot3 hb b g) w)
  clear hI hz hr hd3 hd1 hp3 hp1 hbe hn0 hm0 hvf hvt hvm hvn hf hne
  go_enter Try.func65, Try.ntmps65
  go_wp2_with fail
  go_loopw [12] (fun i wr => ∃ (k : Nat), k ≤ c ∧ i = .int .i64 k ∧ Box (IsTH wr hb b g s) ∧ Box (Keeps (foot3 hb b g) w wr)) (fun i _ => 4 - (intOf i).toNat)
  case atStart => exact ⟨0, Nat.zero_le _, rfl, H, K0⟩
  case round =>
    clear H K0
    obtain ⟨k, hk, rfl, HS, K⟩ := hrel
    by_cases hkc : k < c
    · have hk0 : (0 : Int) ≤ (k : Int) := by omega
      have hk1 : (k : Int) < 4 := by omega
      have hcell := HS.out.lists (i := 4 * k + 3) (by omega)
      rw [show s.lists.getD (4 * k + 3) 0 = 0 from Hz.out k hkc, show 10 + (4 * k + 3) = 10 + k * 4 + 3 by omega] at hcell
      go_wp2_with fail
      go_roundw
      case rel => exact ⟨k + 1, by omega, by go_num, HS, K⟩
      case measure => simp [intOf]; omega
    · have hkc' : k = c := by omega
      subst hkc'
      have hk0 : (0 : Int) ≤ (k : Int) := by omega
      have hk1 : (k : Int) < 4 := by omega
      have hcell := HS.out.lists (i := 4 * k + 3) (by omega)
      rw [show s.lists.getD (4 * k + 3) 0 = n from Hn.out, show 10 + (4 * k + 3) = 10 + k * 4 + 3 by omega] at hcell
      have hst := HS.out.store
      go_wp2_with fail
      clear hcell
      go_region_held3 (fun w' => w'.cell? ⟨hb, 0, none⟩ = some (.pointer (some ⟨b, 0, none⟩))) (first | exact kj.cell hst (by have := HS.out.ne; unfold foot; simp only; omega) | go_keep) (first | (go_at_call 70; refine (Hd.out.1 _).mono ?_; rintro e w2 ⟨rfl, rfl⟩) | (go_at_call 69; refine (obehind_is (w := wr.drew) (HS.out.keeps0 ((Keeps.refl (fun _ => False) wr).drew)).iw Hbe.out).mono ?_; rintro e w3 ⟨rfl, hI3, kj⟩))
      have kj' : Keeps (foot b g) wr w3 := ⟨kj.os, kj.tape, kj.output, kj.size, kj.block⟩
      have H3 := Box.mk (HS.out.ring kj' hI3)
      have K3 := Box.mk (K.out.trans (kj'.mono (S' := foot3 hb b g) (fun i _ h => Or.inr h)))
      clear kj kj' hI3 hst HS K
      go_wp2_with fail
      refine (Hat.out w3 H3.out).mono ?_
      rintro e w4 ⟨rfl, hI4, k4⟩
      have hh := heap_alloc_new w4 (.cells #[.int .i64 ((0 : Nat) : Int), .int .i64 (vt : Int), .int .i64 (vm : Int), .int .i64 (vn : Int)] 110)
      have ka := (Keeps.refl (fun _ => False) w4).alloc (.cells #[.int .i64 ((0 : Nat) : Int), .int .i64 (vt : Int), .int .i64 (vm : Int), .int .i64 (vn : Int)] 110)
      have H5 := Box.mk (hI4.keeps0 ka)
      have K5 := Box.mk (K3.out.trans (k4.trans (ka.mono (S' := foot3 hb b g) (fun _ _ h => h.elim))))
      have hlta := hI4.lt
      have hage := K3.out.trans k4
      obtain ⟨a, ha⟩ : ∃ a, w4.heap.size = a := ⟨_, rfl⟩
      have hlta : hb < a ∧ b < a ∧ g < a := by have := hI4.lt; omega
      have hwa : w.heap.size ≤ a := by have := hage.size; omega
      clear H3 K3 hage k4 ka hI4
      go_wp2_with fail
      try rw [ha] at hh
      try rw [ha]
      clear ha
      generalize w4.alloc (.cells #[.int .i64 ((0 : Nat) : Int), .int .i64 (vt : Int), .int .i64 (vm : Int), .int .i64 (vn : Int)] 110) = w5 at *
      have c0 := cell_of_heap hh 0
      have c3 := cell_of_heap hh 3
      simp only [List.getElem?_toArray, List.getElem?_cons_zero, List.getElem?_cons_succ] at c0 c3
      have hcell := H5.out.lists (i := 4 * k + 3) (by omega)
      have hfz := H5.out.frozen (10 + (4 * k + 3))
      rw [show s.lists.getD (4 * k + 3) 0 = n from Hn.out, show 10 + (4 * k + 3) = 10 + k * 4 + 3 by omega] at hcell
      have hput := H5.out.putList (i := 4 * k + 3) (by omega) m
      rw [show 10 + (4 * k + 3) = 10 + k * 4 + 3 by omega] at hput hfz
      have H6 := Box.mk (hput.keeps0 ((Keeps.refl (fun _ => False) _).drew))
      have kq := ((Keeps.refl (fun z => z = hb) w5).setCell (p := ⟨hb, 10 + k * 4 + 3, none⟩) (fun _ => rfl) (.int .i64 (m : Int))).drew
      have K6 := Box.mk (K5.out.trans (kq.mono (S' := foot3 hb b g) (fun i _ h => Or.inl h)))
      have c0' := kq.cell c0 (by simp only; omega)
      have c3' := kq.cell c3 (by simp only; omega)
      clear kq hput hh H5 K5
      go_region
      clear c0 c3 hcell hfz
      generalize (w5.setCell ⟨hb, 10 + k * 4 + 3, none⟩ (.int .i64 (m : Int))).drew = w6 at *
      have htr := H6.out.tries
      have ftr := H6.out.frozen 43
      have H7 : Box (IsTH (w6.setCell ⟨hb, 43, none⟩ (.int .i64 0)) hb b g (taken s k m)) := ⟨H6.out.putTries 0⟩
      have hst6 := H6.out.store
      have hnow6 := H6.out.now
      simp only at hnow6
      have kq := (Keeps.refl (fun z => z = hb) w6).setCell (p := ⟨hb, 43, none⟩) (fun _ => rfl) (.int .i64 0)
      have K7 := Box.mk (K6.out.trans (kq.mono (S' := foot3 hb b g) (fun i _ h => Or.inl h)))
      have c0 := kq.cell c0' (by simp only; omega)
      have c3 := kq.cell c3' (by simp only; omega)
      have hha : hb ≠ a := by omega
      clear kq H6 K6
      go_wp2_with fail
      go_ret
      exact ⟨rfl, by rw [Hpost.out]; exact H7.out, K7.out⟩

set_option maxRecDepth 100000 in
set_option maxHeartbeats 2000000 in
theorem scan_raw {hb b g : Nat} {s s' : TH} {w : World} {c x hd : Nat} (hI : IsTH w hb b g s) (hc : c < 4) (hz : ∀ j, j < c → lget s j 3 = 0) (hne : lget s c 3 ≠ 0) (hbe : oBehind s.W (thead c 3) = some x) (hr : rdh s.W x = some hd) (hbig : lget s c 3 < 1000000) (hnow : s.now ≤ 1) (hf : hform hd = 2) (hm : tmove (taken s c (lget s c 3 - 1)) x c (thead c 1) s.now 1 = some s') :
    Calls Try.prog 65 #[.pointer (some ⟨hb, 0, none⟩)] w fun e w' => e = .returned (.bool true) ∧ IsTH w' hb b g s' ∧ Keeps (foot3 hb b g) w w' := by
  have hxb := (obehind_parts hbe).2.2
  obtain ⟨n, hn0⟩ : ∃ n, lget s c 3 = n := ⟨_, rfl⟩
  obtain ⟨m, hm0⟩ : ∃ m, n - 1 = m := ⟨_, rfl⟩
  rw [hn0] at hne hbig
  have hmb : m < 1000000 := by omega
  have hnn : (n : Int) - 1 = (m : Int) := by omega
  have hneI : ((n : Int) == 0) = false := by rw [beq_eq_false_iff_ne]; omega
  skip
  obtain ⟨vf, hvf⟩ : ∃ vf, hform hd = vf := ⟨_, rfl⟩
  obtain ⟨vt, hvt⟩ : ∃ vt, htag hd = vt := ⟨_, rfl⟩
  obtain ⟨vm, hvm⟩ : ∃ vm, hmark hd = vm := ⟨_, rfl⟩
  obtain ⟨vn, hvn⟩ : ∃ vn, hn hd = vn := ⟨_, rfl⟩
  have Hat : Box (∀ W, IsTH W hb b g s → Calls Try.prog 77 #[.pointer (some ⟨hb, 0, none⟩), .int .i64 x] W fun e w' => e = .returned (.agg #[.int .i64 (vf : Int), .int .i64 (vt : Int), .int .i64 (vm : Int), .int .i64 (vn : Int)]) ∧ IsTH w' hb b g s ∧ Keeps (foot3 hb b g) W w') := ⟨fun W hW => by
    have := at_is x hW hr
    rw [hvf, hvt, hvm, hvn] at this
    exact this⟩
  have hvf2 : vf = 2 := by omega
  subst hvf2
  obtain ⟨p3, hp3⟩ : ∃ p, thead c 3 = p := ⟨_, rfl⟩
  have hd3 : ∀ W, Calls Try.prog 70 #[.int .i64 c, .int .i64 3] W fun e w' => e = .returned (.int .i64 p3) ∧ w' = W := fun W => by rw [← hp3]; exact head_is c 3 W (by omega) (by omega)
  rw [hp3] at hbe
  obtain ⟨p1, hp1⟩ : ∃ p, thead c 1 = p := ⟨_, rfl⟩
  have hd1 : ∀ W, Calls Try.prog 70 #[.int .i64 c, .int .i64 1] W fun e w' => e = .returned (.int .i64 p1) ∧ w' = W := fun W => by rw [← hp1]; exact head_is c 1 W (by omega) (by omega)
  obtain ⟨nw, hnw⟩ : ∃ nw, s.now = nw := ⟨_, rfl⟩
  rw [hnw] at hnow
  have Hnw := Box.mk hnw
  rw [hn0, hm0, hp1, hnw] at hm
  have Hm := Box.mk hm
  have Hcn : Box (∀ W, IsTH W hb b g s' → W.cell? ⟨hb, 39, none⟩ = some (.int .i64 nw)) := ⟨fun W hW => by
    have := hW.now
    rw [(tmove_same hm).1] at this
    simp only [taken, lset] at this
    rw [hnw] at this
    exact this⟩
  clear hm hnw
  have Hd := Box.mk (And.intro hd3 hd1)
  have Hp1 := Box.mk hp1
  have Hbe := Box.mk hbe
  have H := Box.mk hI
  have Hz := Box.mk hz
  have Hn := Box.mk hn0
  have Hvn := Box.mk hvn
  have K0 := Box.mk (Keeps.refl (foot3 hb b g) w)
  clear hI hz hr hd3 hd1 hp3 hp1 hbe hn0 hm0 hvf hvt hvm hvn hf hne
  go_enter Try.func65, Try.ntmps65
  go_wp2_with fail
  go_loopw [12] (fun i wr => ∃ (k : Nat), k ≤ c ∧ i = .int .i64 k ∧ Box (IsTH wr hb b g s) ∧ Box (Keeps (foot3 hb b g) w wr)) (fun i _ => 4 - (intOf i).toNat)
  case atStart => exact ⟨0, Nat.zero_le _, rfl, H, K0⟩
  case round =>
    clear H K0
    obtain ⟨k, hk, rfl, HS, K⟩ := hrel
    by_cases hkc : k < c
    · have hk0 : (0 : Int) ≤ (k : Int) := by omega
      have hk1 : (k : Int) < 4 := by omega
      have hcell := HS.out.lists (i := 4 * k + 3) (by omega)
      rw [show s.lists.getD (4 * k + 3) 0 = 0 from Hz.out k hkc, show 10 + (4 * k + 3) = 10 + k * 4 + 3 by omega] at hcell
      go_wp2_with fail
      go_roundw
      case rel => exact ⟨k + 1, by omega, by go_num, HS, K⟩
      case measure => simp [intOf]; omega
    · have hkc' : k = c := by omega
      subst hkc'
      have hk0 : (0 : Int) ≤ (k : Int) := by omega
      have hk1 : (k : Int) < 4 := by omega
      have hcell := HS.out.lists (i := 4 * k + 3) (by omega)
      rw [show s.lists.getD (4 * k + 3) 0 = n from Hn.out, show 10 + (4 * k + 3) = 10 + k * 4 + 3 by omega] at hcell
      have hst := HS.out.store
      go_wp2_with fail
      clear hcell
      go_region_held3 (fun w' => w'.cell? ⟨hb, 0, none⟩ = some (.pointer (some ⟨b, 0, none⟩))) (first | exact kj.cell hst (by have := HS.out.ne; unfold foot; simp only; omega) | go_keep) (first | (go_at_call 70; refine (Hd.out.1 _).mono ?_; rintro e w2 ⟨rfl, rfl⟩) | (go_at_call 69; refine (obehind_is (w := wr.drew) (HS.out.keeps0 ((Keeps.refl (fun _ => False) wr).drew)).iw Hbe.out).mono ?_; rintro e w3 ⟨rfl, hI3, kj⟩))
      have kj' : Keeps (foot b g) wr w3 := ⟨kj.os, kj.tape, kj.output, kj.size, kj.block⟩
      have H3 := Box.mk (HS.out.ring kj' hI3)
      have K3 := Box.mk (K.out.trans (kj'.mono (S' := foot3 hb b g) (fun i _ h => Or.inr h)))
      clear kj kj' hI3 hst HS K
      go_wp2_with fail
      refine (Hat.out w3 H3.out).mono ?_
      rintro e w4 ⟨rfl, hI4, k4⟩
      have hh := heap_alloc_new w4 (.cells #[.int .i64 ((2 : Nat) : Int), .int .i64 (vt : Int), .int .i64 (vm : Int), .int .i64 (vn : Int)] 110)
      have ka := (Keeps.refl (fun _ => False) w4).alloc (.cells #[.int .i64 ((2 : Nat) : Int), .int .i64 (vt : Int), .int .i64 (vm : Int), .int .i64 (vn : Int)] 110)
      have H5 := Box.mk (hI4.keeps0 ka)
      have K5 := Box.mk (K3.out.trans (k4.trans (ka.mono (S' := foot3 hb b g) (fun _ _ h => h.elim))))
      have hlta := hI4.lt
      have hage := K3.out.trans k4
      obtain ⟨a, ha⟩ : ∃ a, w4.heap.size = a := ⟨_, rfl⟩
      have hlta : hb < a ∧ b < a ∧ g < a := by have := hI4.lt; omega
      have hwa : w.heap.size ≤ a := by have := hage.size; omega
      clear H3 K3 hage k4 ka hI4
      go_wp2_with fail
      try rw [ha] at hh
      try rw [ha]
      clear ha
      generalize w4.alloc (.cells #[.int .i64 ((2 : Nat) : Int), .int .i64 (vt : Int), .int .i64 (vm : Int), .int .i64 (vn : Int)] 110) = w5 at *
      have c0 := cell_of_heap hh 0
      have c3 := cell_of_heap hh 3
      simp only [List.getElem?_toArray, List.getElem?_cons_zero, List.getElem?_cons_succ] at c0 c3
      have hcell := H5.out.lists (i := 4 * k + 3) (by omega)
      have hfz := H5.out.frozen (10 + (4 * k + 3))
      rw [show s.lists.getD (4 * k + 3) 0 = n from Hn.out, show 10 + (4 * k + 3) = 10 + k * 4 + 3 by omega] at hcell
      have hput := H5.out.putList (i := 4 * k + 3) (by omega) m
      rw [show 10 + (4 * k + 3) = 10 + k * 4 + 3 by omega] at hput hfz
      have H6 := Box.mk (hput.keeps0 ((Keeps.refl (fun _ => False) _).drew))
      have kq := ((Keeps.refl (fun z => z = hb) w5).setCell (p := ⟨hb, 10 + k * 4 + 3, none⟩) (fun _ => rfl) (.int .i64 (m : Int))).drew
      have K6 := Box.mk (K5.out.trans (kq.mono (S' := foot3 hb b g) (fun i _ h => Or.inl h)))
      have c0' := kq.cell c0 (by simp only; omega)
      have c3' := kq.cell c3 (by simp only; omega)
      clear kq hput hh H5 K5
      go_region
      clear c0 c3 hcell hfz
      generalize (w5.setCell ⟨hb, 10 + k * 4 + 3, none⟩ (.int .i64 (m : Int))).drew = w6 at *
      have htr := H6.out.tries
      have ftr := H6.out.frozen 43
      have H7 : Box (IsTH (w6.setCell ⟨hb, 43, none⟩ (.int .i64 0)) hb b g (taken s k m)) := ⟨H6.out.putTries 0⟩
      have hst6 := H6.out.store
      have hnow6 := H6.out.now
      simp only at hnow6
      have kq := (Keeps.refl (fun z => z = hb) w6).setCell (p := ⟨hb, 43, none⟩) (fun _ => rfl) (.int .i64 0)
      have K7 := Box.mk (K6.out.trans (kq.mono (S' := foot3 hb b g) (fun i _ h => Or.inl h)))
      have c0 := kq.cell c0' (by simp only; omega)
      have c3 := kq.cell c3' (by simp only; omega)
      have hha : hb ≠ a := by omega
      clear kq H6 K6
      go_wp2_with fail
      generalize w6.setCell ⟨hb, 43, none⟩ (.int .i64 0) = w7 at *
      clear hst6 hnow6 c0 c3 c0' c3' htr ftr
      have hnowc := H7.out.now
      simp only [taken, lset] at hnowc
      rw [Hnw.out] at hnowc
      go_region_held3 (fun w' => w'.cell? ⟨hb, 39, none⟩ = some (.int .i64 nw)) (first | exact Hcn.out _ hI9 | go_keep) (first | (go_at_call 70; refine (Hd.out.2 _).mono ?_; rintro e w2 ⟨rfl, rfl⟩) | (go_at_call 94; refine (move_is (w := w7.drew) (s := taken s k m) (H7.out.keeps0 ((Keeps.refl (fun _ => False) w7).drew)) Hm.out hc (by decide) (by omega)).mono ?_; rintro e w9 ⟨rfl, hI9, k9⟩))
      all_goals
        have K9 := Box.mk (K7.out.trans (show Keeps (foot3 hb b g) w7 _ from ⟨k9.os, k9.tape, k9.output, k9.size, k9.block⟩))
        have H9 := Box.mk hI9
        clear hI9 k9
        go_wp2_with fail
        go_ret
        exact ⟨rfl, H9.out, K9.out⟩

set_option maxRecDepth 100000 in
set_option maxHeartbeats 2000000 in
theorem scan_plain {hb b g : Nat} {s s' : TH} {w : World} {c x hd : Nat} (hI : IsTH w hb b g s) (hc : c < 4) (hz : ∀ j, j < c → lget s j 3 = 0) (hne : lget s c 3 ≠ 0) (hbe : oBehind s.W (thead c 3) = some x) (hr : rdh s.W x = some hd) (hbig : lget s c 3 < 1000000) (hnow : s.now ≤ 1) (hf : hform hd = 1) {s2 : TH} (hsf : shadeFields (taken s c (lget s c 3 - 1)) x (hn hd) 0 = some s2) (hm : tmove s2 x c (thead c 1) s2.now 1 = some s') :
    Calls Try.prog 65 #[.pointer (some ⟨hb, 0, none⟩)] w fun e w' => e = .returned (.bool true) ∧ IsTH w' hb b g s' ∧ Keeps (foot3 hb b g) w w' := by
  have hxb := (obehind_parts hbe).2.2
  obtain ⟨n, hn0⟩ : ∃ n, lget s c 3 = n := ⟨_, rfl⟩
  obtain ⟨m, hm0⟩ : ∃ m, n - 1 = m := ⟨_, rfl⟩
  rw [hn0] at hne hbig
  have hmb : m < 1000000 := by omega
  have hnn : (n : Int) - 1 = (m : Int) := by omega
  have hneI : ((n : Int) == 0) = false := by rw [beq_eq_false_iff_ne]; omega
  skip
  obtain ⟨vf, hvf⟩ : ∃ vf, hform hd = vf := ⟨_, rfl⟩
  obtain ⟨vt, hvt⟩ : ∃ vt, htag hd = vt := ⟨_, rfl⟩
  obtain ⟨vm, hvm⟩ : ∃ vm, hmark hd = vm := ⟨_, rfl⟩
  obtain ⟨vn, hvn⟩ : ∃ vn, hn hd = vn := ⟨_, rfl⟩
  have Hat : Box (∀ W, IsTH W hb b g s → Calls Try.prog 77 #[.pointer (some ⟨hb, 0, none⟩), .int .i64 x] W fun e w' => e = .returned (.agg #[.int .i64 (vf : Int), .int .i64 (vt : Int), .int .i64 (vm : Int), .int .i64 (vn : Int)]) ∧ IsTH w' hb b g s ∧ Keeps (foot3 hb b g) W w') := ⟨fun W hW => by
    have := at_is x hW hr
    rw [hvf, hvt, hvm, hvn] at this
    exact this⟩
  have hvf2 : vf = 1 := by omega
  subst hvf2
  obtain ⟨p3, hp3⟩ : ∃ p, thead c 3 = p := ⟨_, rfl⟩
  have hd3 : ∀ W, Calls Try.prog 70 #[.int .i64 c, .int .i64 3] W fun e w' => e = .returned (.int .i64 p3) ∧ w' = W := fun W => by rw [← hp3]; exact head_is c 3 W (by omega) (by omega)
  rw [hp3] at hbe
  obtain ⟨p1, hp1⟩ : ∃ p, thead c 1 = p := ⟨_, rfl⟩
  have hd1 : ∀ W, Calls Try.prog 70 #[.int .i64 c, .int .i64 1] W fun e w' => e = .returned (.int .i64 p1) ∧ w' = W := fun W => by rw [← hp1]; exact head_is c 1 W (by omega) (by omega)
  obtain ⟨nw, hnw⟩ : ∃ nw, s.now = nw := ⟨_, rfl⟩
  rw [hnw] at hnow
  have Hnw := Box.mk hnw
  rw [hn0, hm0, hvn] at hsf
  have hs2 : s2.now = nw := by
    have key : ∀ m j t, shadeFields t x m j = some s2 → s2.now = t.now := by
      intro m
      induction m with
      | zero => intro j t h; simp only [shadeFields, Option.some.injEq] at h; rw [h]
      | succ m ih =>
        intro j t h
        obtain ⟨v, u, -, -, h1, h2⟩ := shadeFields_step h
        rw [ih _ _ h2, (tshade_same h1).1]
    rw [key _ _ _ hsf]
    exact hnw
  rw [hp1, hs2] at hm
  have Hm := Box.mk hm
  have Hsf := Box.mk hsf
  have hvnb : vn < 256 := by rw [← hvn]; unfold hn; omega
  have Hcn : Box (∀ W, IsTH W hb b g s' → W.cell? ⟨hb, 39, none⟩ = some (.int .i64 nw)) := ⟨fun W hW => by
    have := hW.now
    rw [(tmove_same hm).1, hs2] at this
    exact this⟩
  clear hm hnw hsf hs2
  have Hd := Box.mk (And.intro hd3 hd1)
  have Hp1 := Box.mk hp1
  have Hbe := Box.mk hbe
  have H := Box.mk hI
  have Hz := Box.mk hz
  have Hn := Box.mk hn0
  have Hvn := Box.mk hvn
  have K0 := Box.mk (Keeps.refl (foot3 hb b g) w)
  clear hI hz hr hd3 hd1 hp3 hp1 hbe hn0 hm0 hvf hvt hvm hvn hf hne
  go_enter Try.func65, Try.ntmps65
  go_wp2_with fail
  go_loopw [12] (fun i wr => ∃ (k : Nat), k ≤ c ∧ i = .int .i64 k ∧ Box (IsTH wr hb b g s) ∧ Box (Keeps (foot3 hb b g) w wr)) (fun i _ => 4 - (intOf i).toNat)
  case atStart => exact ⟨0, Nat.zero_le _, rfl, H, K0⟩
  case round =>
    clear H K0
    obtain ⟨k, hk, rfl, HS, K⟩ := hrel
    by_cases hkc : k < c
    · have hk0 : (0 : Int) ≤ (k : Int) := by omega
      have hk1 : (k : Int) < 4 := by omega
      have hcell := HS.out.lists (i := 4 * k + 3) (by omega)
      rw [show s.lists.getD (4 * k + 3) 0 = 0 from Hz.out k hkc, show 10 + (4 * k + 3) = 10 + k * 4 + 3 by omega] at hcell
      go_wp2_with fail
      go_roundw
      case rel => exact ⟨k + 1, by omega, by go_num, HS, K⟩
      case measure => simp [intOf]; omega
    · have hkc' : k = c := by omega
      subst hkc'
      have hk0 : (0 : Int) ≤ (k : Int) := by omega
      have hk1 : (k : Int) < 4 := by omega
      have hcell := HS.out.lists (i := 4 * k + 3) (by omega)
      rw [show s.lists.getD (4 * k + 3) 0 = n from Hn.out, show 10 + (4 * k + 3) = 10 + k * 4 + 3 by omega] at hcell
      have hst := HS.out.store
      go_wp2_with fail
      clear hcell
      go_region_held3 (fun w' => w'.cell? ⟨hb, 0, none⟩ = some (.pointer (some ⟨b, 0, none⟩))) (first | exact kj.cell hst (by have := HS.out.ne; unfold foot; simp only; omega) | go_keep) (first | (go_at_call 70; refine (Hd.out.1 _).mono ?_; rintro e w2 ⟨rfl, rfl⟩) | (go_at_call 69; refine (obehind_is (w := wr.drew) (HS.out.keeps0 ((Keeps.refl (fun _ => False) wr).drew)).iw Hbe.out).mono ?_; rintro e w3 ⟨rfl, hI3, kj⟩))
      have kj' : Keeps (foot b g) wr w3 := ⟨kj.os, kj.tape, kj.output, kj.size, kj.block⟩
      have H3 := Box.mk (HS.out.ring kj' hI3)
      have K3 := Box.mk (K.out.trans (kj'.mono (S' := foot3 hb b g) (fun i _ h => Or.inr h)))
      clear kj kj' hI3 hst HS K
      go_wp2_with fail
      refine (Hat.out w3 H3.out).mono ?_
      rintro e w4 ⟨rfl, hI4, k4⟩
      have hh := heap_alloc_new w4 (.cells #[.int .i64 ((1 : Nat) : Int), .int .i64 (vt : Int), .int .i64 (vm : Int), .int .i64 (vn : Int)] 110)
      have ka := (Keeps.refl (fun _ => False) w4).alloc (.cells #[.int .i64 ((1 : Nat) : Int), .int .i64 (vt : Int), .int .i64 (vm : Int), .int .i64 (vn : Int)] 110)
      have H5 := Box.mk (hI4.keeps0 ka)
      have K5 := Box.mk (K3.out.trans (k4.trans (ka.mono (S' := foot3 hb b g) (fun _ _ h => h.elim))))
      have hlta := hI4.lt
      have hage := K3.out.trans k4
      obtain ⟨a, ha⟩ : ∃ a, w4.heap.size = a := ⟨_, rfl⟩
      have hlta : hb < a ∧ b < a ∧ g < a := by have := hI4.lt; omega
      have hwa : w.heap.size ≤ a := by have := hage.size; omega
      clear H3 K3 hage k4 ka hI4
      go_wp2_with fail
      try rw [ha] at hh
      try rw [ha]
      clear ha
      generalize w4.alloc (.cells #[.int .i64 ((1 : Nat) : Int), .int .i64 (vt : Int), .int .i64 (vm : Int), .int .i64 (vn : Int)] 110) = w5 at *
      have c0 := cell_of_heap hh 0
      have c3 := cell_of_heap hh 3
      simp only [List.getElem?_toArray, List.getElem?_cons_zero, List.getElem?_cons_succ] at c0 c3
      have hcell := H5.out.lists (i := 4 * k + 3) (by omega)
      have hfz := H5.out.frozen (10 + (4 * k + 3))
      rw [show s.lists.getD (4 * k + 3) 0 = n from Hn.out, show 10 + (4 * k + 3) = 10 + k * 4 + 3 by omega] at hcell
      have hput := H5.out.putList (i := 4 * k + 3) (by omega) m
      rw [show 10 + (4 * k + 3) = 10 + k * 4 + 3 by omega] at hput hfz
      have H6 := Box.mk (hput.keeps0 ((Keeps.refl (fun _ => False) _).drew))
      have kq := ((Keeps.refl (fun z => z = hb) w5).setCell (p := ⟨hb, 10 + k * 4 + 3, none⟩) (fun _ => rfl) (.int .i64 (m : Int))).drew
      have K6 := Box.mk (K5.out.trans (kq.mono (S' := foot3 hb b g) (fun i _ h => Or.inl h)))
      have c0' := kq.cell c0 (by simp only; omega)
      have c3' := kq.cell c3 (by simp only; omega)
      clear kq hput hh H5 K5
      go_region
      clear c0 c3 hcell hfz
      generalize (w5.setCell ⟨hb, 10 + k * 4 + 3, none⟩ (.int .i64 (m : Int))).drew = w6 at *
      have htr := H6.out.tries
      have ftr := H6.out.frozen 43
      have H7 : Box (IsTH (w6.setCell ⟨hb, 43, none⟩ (.int .i64 0)) hb b g (taken s k m)) := ⟨H6.out.putTries 0⟩
      have hst6 := H6.out.store
      have hnow6 := H6.out.now
      simp only at hnow6
      have kq := (Keeps.refl (fun z => z = hb) w6).setCell (p := ⟨hb, 43, none⟩) (fun _ => rfl) (.int .i64 0)
      have K7 := Box.mk (K6.out.trans (kq.mono (S' := foot3 hb b g) (fun i _ h => Or.inl h)))
      have c0 := kq.cell c0' (by simp only; omega)
      have c3 := kq.cell c3' (by simp only; omega)
      have hha : hb ≠ a := by omega
      clear kq H6 K6
      go_wp2_with fail
      generalize w6.setCell ⟨hb, 43, none⟩ (.int .i64 0) = w7 at *
      clear hst6 hnow6 c0 c3 c0' c3' htr ftr
      go_loopw [85] (fun i wr => ∃ (j : Nat) (sj : TH), j ≤ vn ∧ i = .int .i64 j ∧ Box (shadeFields sj x (vn - j) j = some s2) ∧ Box (IsTH wr hb b g sj) ∧ Box (sj.now = nw) ∧ Box (Keeps (foot3 hb b g) w wr)) (fun i _ => vn - (intOf i).toNat)
      case atStart => exact ⟨0, _, Nat.zero_le _, rfl, Hsf, H7, ⟨Hnw.out⟩, K7⟩
      case round =>
        clear H7 K7 Hsf
        obtain ⟨j, sj, hj, rfl, HN, HS, HW, K⟩ := hrel
        by_cases hjn : j < vn
        · have hj0 : (0 : Int) ≤ (j : Int) := by omega
          have hj1 : (j : Int) < (vn : Int) := by omega
          obtain ⟨v, t, hlt, hv, ht, hN'⟩ := shadeFields_step (m := vn - j - 1) (by rw [show vn - j - 1 + 1 = vn - j by omega]; exact HN.out)
          rw [show vn - j - 1 = vn - (j + 1) by omega] at hN'
          have HN' := Box.mk hN'
          have Ht := Box.mk ht
          obtain ⟨p, hp⟩ : ∃ p, x + 3 + j = p := ⟨_, rfl⟩
          have hpj : (x : Int) + 3 + (j : Int) = (p : Int) := by omega
          rw [hp] at hlt hv
          have Hg := Box.mk (And.intro hlt hv)
          have hst := HS.out.store
          clear hN' ht hp hlt hv HN
          go_wp2_with fail
          refine (wget_is HS.out.iw Hg.out.1).mono ?_
          rw [Hg.out.2]
          rintro e w8 ⟨rfl, hI8, k8⟩
          have H8 : Box (IsTH w8 hb b g sj) := ⟨HS.out.ring k8 hI8⟩
          have K8 := Box.mk (K.out.trans (k8.mono (S' := foot3 hb b g) (fun i _ h => Or.inr h)))
          clear hI8 k8 HS K hst Hg
          go_wp2_with fail
          refine (shade_is H8.out Ht.out (by rw [HW.out]; exact hnow)).mono ?_
          rintro e w9 ⟨rfl, hI9, k9⟩
          have H9 := Box.mk hI9
          have K9 := Box.mk (K8.out.trans k9)
          have HW9 : Box (t.now = nw) := ⟨by rw [(tshade_same Ht.out).1]; exact HW.out⟩
          clear hI9 k9 H8 K8
          go_wp2_with fail
          go_roundw
          case rel => exact ⟨j + 1, t, by omega, by go_num, HN', H9, HW9, K9⟩
          case measure => simp [intOf]; omega
        · have hjn' : j = vn := by omega
          subst hjn'
          have e : sj = s2 := by
            have h := HN.out
            simp only [Nat.sub_self, shadeFields, Option.some.injEq] at h
            exact h
          subst e
          have hnowc := HS.out.now
          rw [HW.out] at hnowc
          clear HN
          go_wp2_with fail
          go_region_held3 (fun w' => w'.cell? ⟨hb, 39, none⟩ = some (.int .i64 nw)) (first | exact Hcn.out _ hI9 | go_keep) (first | (go_at_call 70; refine (Hd.out.2 _).mono ?_; rintro e w2 ⟨rfl, rfl⟩) | (go_at_call 94; refine (move_is (w := wr.drew) (s := sj) (HS.out.keeps0 ((Keeps.refl (fun _ => False) wr).drew)) Hm.out hc (by decide) (by omega)).mono ?_; rintro e w9 ⟨rfl, hI9, k9⟩))
          all_goals
            have K9 := Box.mk (K.out.trans (show Keeps (foot3 hb b g) wr _ from ⟨k9.os, k9.tape, k9.output, k9.size, k9.block⟩))
            have H9 := Box.mk hI9
            clear hI9 k9
            go_wp2_with fail
            go_ret
            exact ⟨rfl, H9.out, K9.out⟩

set_option maxRecDepth 100000 in
set_option maxHeartbeats 2000000 in
theorem scan_weak {hb b g : Nat} {s s' : TH} {w : World} {c x hd : Nat} (hI : IsTH w hb b g s) (hc : c < 4) (hz : ∀ j, j < c → lget s j 3 = 0) (hne : lget s c 3 ≠ 0) (hbe : oBehind s.W (thead c 3) = some x) (hr : rdh s.W x = some hd) (hbig : lget s c 3 < 1000000) (hnow : s.now ≤ 1) (hf : hform hd = 3) {last : Nat} (hal : oAhead s.W 48 = some last) (hwb : s.wait < 1000000) (hm : tmove { taken s c (lget s c 3 - 1) with wait := s.wait + 1 } x c last s.now 1 = some s') :
    Calls Try.prog 65 #[.pointer (some ⟨hb, 0, none⟩)] w fun e w' => e = .returned (.bool true) ∧ IsTH w' hb b g s' ∧ Keeps (foot3 hb b g) w w' := by
  have hxb := (obehind_parts hbe).2.2
  obtain ⟨n, hn0⟩ : ∃ n, lget s c 3 = n := ⟨_, rfl⟩
  obtain ⟨m, hm0⟩ : ∃ m, n - 1 = m := ⟨_, rfl⟩
  rw [hn0] at hne hbig
  have hmb : m < 1000000 := by omega
  have hnn : (n : Int) - 1 = (m : Int) := by omega
  have hneI : ((n : Int) == 0) = false := by rw [beq_eq_false_iff_ne]; omega
  skip
  obtain ⟨vf, hvf⟩ : ∃ vf, hform hd = vf := ⟨_, rfl⟩
  obtain ⟨vt, hvt⟩ : ∃ vt, htag hd = vt := ⟨_, rfl⟩
  obtain ⟨vm, hvm⟩ : ∃ vm, hmark hd = vm := ⟨_, rfl⟩
  obtain ⟨vn, hvn⟩ : ∃ vn, hn hd = vn := ⟨_, rfl⟩
  have Hat : Box (∀ W, IsTH W hb b g s → Calls Try.prog 77 #[.pointer (some ⟨hb, 0, none⟩), .int .i64 x] W fun e w' => e = .returned (.agg #[.int .i64 (vf : Int), .int .i64 (vt : Int), .int .i64 (vm : Int), .int .i64 (vn : Int)]) ∧ IsTH w' hb b g s ∧ Keeps (foot3 hb b g) W w') := ⟨fun W hW => by
    have := at_is x hW hr
    rw [hvf, hvt, hvm, hvn] at this
    exact this⟩
  have hvf2 : vf = 3 := by omega
  subst hvf2
  obtain ⟨p3, hp3⟩ : ∃ p, thead c 3 = p := ⟨_, rfl⟩
  have hd3 : ∀ W, Calls Try.prog 70 #[.int .i64 c, .int .i64 3] W fun e w' => e = .returned (.int .i64 p3) ∧ w' = W := fun W => by rw [← hp3]; exact head_is c 3 W (by omega) (by omega)
  rw [hp3] at hbe
  obtain ⟨p1, hp1⟩ : ∃ p, thead c 1 = p := ⟨_, rfl⟩
  have hd1 : ∀ W, Calls Try.prog 70 #[.int .i64 c, .int .i64 1] W fun e w' => e = .returned (.int .i64 p1) ∧ w' = W := fun W => by rw [← hp1]; exact head_is c 1 W (by omega) (by omega)
  obtain ⟨nw, hnw⟩ : ∃ nw, s.now = nw := ⟨_, rfl⟩
  rw [hnw] at hnow
  have Hnw := Box.mk hnw
  obtain ⟨wt, hwt⟩ : ∃ wt, s.wait = wt := ⟨_, rfl⟩
  rw [hn0, hm0, hnw, hwt] at hm
  rw [hwt] at hwb
  have Hwt := Box.mk hwt
  have Hm := Box.mk hm
  have Hal := Box.mk hal
  have hlb := (oahead_parts hal).2.2
  clear hm hnw hal hwt
  have Hd := Box.mk (And.intro hd3 hd1)
  have Hp1 := Box.mk hp1
  have Hbe := Box.mk hbe
  have H := Box.mk hI
  have Hz := Box.mk hz
  have Hn := Box.mk hn0
  have Hvn := Box.mk hvn
  have K0 := Box.mk (Keeps.refl (foot3 hb b g) w)
  clear hI hz hr hd3 hd1 hp3 hp1 hbe hn0 hm0 hvf hvt hvm hvn hf hne
  go_enter Try.func65, Try.ntmps65
  go_wp2_with fail
  go_loopw [12] (fun i wr => ∃ (k : Nat), k ≤ c ∧ i = .int .i64 k ∧ Box (IsTH wr hb b g s) ∧ Box (Keeps (foot3 hb b g) w wr)) (fun i _ => 4 - (intOf i).toNat)
  case atStart => exact ⟨0, Nat.zero_le _, rfl, H, K0⟩
  case round =>
    clear H K0
    obtain ⟨k, hk, rfl, HS, K⟩ := hrel
    by_cases hkc : k < c
    · have hk0 : (0 : Int) ≤ (k : Int) := by omega
      have hk1 : (k : Int) < 4 := by omega
      have hcell := HS.out.lists (i := 4 * k + 3) (by omega)
      rw [show s.lists.getD (4 * k + 3) 0 = 0 from Hz.out k hkc, show 10 + (4 * k + 3) = 10 + k * 4 + 3 by omega] at hcell
      go_wp2_with fail
      go_roundw
      case rel => exact ⟨k + 1, by omega, by go_num, HS, K⟩
      case measure => simp [intOf]; omega
    · have hkc' : k = c := by omega
      subst hkc'
      have hk0 : (0 : Int) ≤ (k : Int) := by omega
      have hk1 : (k : Int) < 4 := by omega
      have hcell := HS.out.lists (i := 4 * k + 3) (by omega)
      rw [show s.lists.getD (4 * k + 3) 0 = n from Hn.out, show 10 + (4 * k + 3) = 10 + k * 4 + 3 by omega] at hcell
      have hst := HS.out.store
      go_wp2_with fail
      clear hcell
      go_region_held3 (fun w' => w'.cell? ⟨hb, 0, none⟩ = some (.pointer (some ⟨b, 0, none⟩))) (first | exact kj.cell hst (by have := HS.out.ne; unfold foot; simp only; omega) | go_keep) (first | (go_at_call 70; refine (Hd.out.1 _).mono ?_; rintro e w2 ⟨rfl, rfl⟩) | (go_at_call 69; refine (obehind_is (w := wr.drew) (HS.out.keeps0 ((Keeps.refl (fun _ => False) wr).drew)).iw Hbe.out).mono ?_; rintro e w3 ⟨rfl, hI3, kj⟩))
      have kj' : Keeps (foot b g) wr w3 := ⟨kj.os, kj.tape, kj.output, kj.size, kj.block⟩
      have H3 := Box.mk (HS.out.ring kj' hI3)
      have K3 := Box.mk (K.out.trans (kj'.mono (S' := foot3 hb b g) (fun i _ h => Or.inr h)))
      clear kj kj' hI3 hst HS K
      go_wp2_with fail
      refine (Hat.out w3 H3.out).mono ?_
      rintro e w4 ⟨rfl, hI4, k4⟩
      have hh := heap_alloc_new w4 (.cells #[.int .i64 ((3 : Nat) : Int), .int .i64 (vt : Int), .int .i64 (vm : Int), .int .i64 (vn : Int)] 110)
      have ka := (Keeps.refl (fun _ => False) w4).alloc (.cells #[.int .i64 ((3 : Nat) : Int), .int .i64 (vt : Int), .int .i64 (vm : Int), .int .i64 (vn : Int)] 110)
      have H5 := Box.mk (hI4.keeps0 ka)
      have K5 := Box.mk (K3.out.trans (k4.trans (ka.mono (S' := foot3 hb b g) (fun _ _ h => h.elim))))
      have hlta := hI4.lt
      have hage := K3.out.trans k4
      obtain ⟨a, ha⟩ : ∃ a, w4.heap.size = a := ⟨_, rfl⟩
      have hlta : hb < a ∧ b < a ∧ g < a := by have := hI4.lt; omega
      have hwa : w.heap.size ≤ a := by have := hage.size; omega
      clear H3 K3 hage k4 ka hI4
      go_wp2_with fail
      try rw [ha] at hh
      try rw [ha]
      clear ha
      generalize w4.alloc (.cells #[.int .i64 ((3 : Nat) : Int), .int .i64 (vt : Int), .int .i64 (vm : Int), .int .i64 (vn : Int)] 110) = w5 at *
      have c0 := cell_of_heap hh 0
      have c3 := cell_of_heap hh 3
      simp only [List.getElem?_toArray, List.getElem?_cons_zero, List.getElem?_cons_succ] at c0 c3
      have hcell := H5.out.lists (i := 4 * k + 3) (by omega)
      have hfz := H5.out.frozen (10 + (4 * k + 3))
      rw [show s.lists.getD (4 * k + 3) 0 = n from Hn.out, show 10 + (4 * k + 3) = 10 + k * 4 + 3 by omega] at hcell
      have hput := H5.out.putList (i := 4 * k + 3) (by omega) m
      rw [show 10 + (4 * k + 3) = 10 + k * 4 + 3 by omega] at hput hfz
      have H6 := Box.mk (hput.keeps0 ((Keeps.refl (fun _ => False) _).drew))
      have kq := ((Keeps.refl (fun z => z = hb) w5).setCell (p := ⟨hb, 10 + k * 4 + 3, none⟩) (fun _ => rfl) (.int .i64 (m : Int))).drew
      have K6 := Box.mk (K5.out.trans (kq.mono (S' := foot3 hb b g) (fun i _ h => Or.inl h)))
      have c0' := kq.cell c0 (by simp only; omega)
      have c3' := kq.cell c3 (by simp only; omega)
      clear kq hput hh H5 K5
      go_region
      clear c0 c3 hcell hfz
      generalize (w5.setCell ⟨hb, 10 + k * 4 + 3, none⟩ (.int .i64 (m : Int))).drew = w6 at *
      have htr := H6.out.tries
      have ftr := H6.out.frozen 43
      have H7 : Box (IsTH (w6.setCell ⟨hb, 43, none⟩ (.int .i64 0)) hb b g (taken s k m)) := ⟨H6.out.putTries 0⟩
      have hst6 := H6.out.store
      have hnow6 := H6.out.now
      simp only at hnow6
      have kq := (Keeps.refl (fun z => z = hb) w6).setCell (p := ⟨hb, 43, none⟩) (fun _ => rfl) (.int .i64 0)
      have K7 := Box.mk (K6.out.trans (kq.mono (S' := foot3 hb b g) (fun i _ h => Or.inl h)))
      have c0 := kq.cell c0' (by simp only; omega)
      have c3 := kq.cell c3' (by simp only; omega)
      have hha : hb ≠ a := by omega
      clear kq H6 K6
      go_wp2_with fail
      generalize w6.setCell ⟨hb, 43, none⟩ (.int .i64 0) = w7 at *
      clear hst6 hnow6 c0 c3 c0' c3' htr ftr
      refine (oahead_is (p := 48) H7.out.iw Hal.out).mono ?_
      rintro e w8 ⟨rfl, hI8, k8⟩
      have H8 : Box (IsTH w8 hb b g (taken s k m)) := ⟨H7.out.ring k8 hI8⟩
      have K8 := Box.mk (K7.out.trans (k8.mono (S' := foot3 hb b g) (fun i _ h => Or.inr h)))
      have hwc := H8.out.wait
      have fwc := H8.out.frozen 42
      have hnc := H8.out.now
      simp only [taken, lset] at hwc hnc
      rw [Hnw.out] at hnc
      rw [Hwt.out] at hwc
      have hput := H8.out.putWait (wt + 1)
      rw [show ((wt + 1 : Nat) : Int) = (wt : Int) + 1 by omega] at hput
      have HP := Box.mk hput
      have KP := Box.mk (K8.out.setCell (p := ⟨hb, 42, none⟩) (fun _ => Or.inl rfl) (.int .i64 ((wt : Int) + 1)))
      clear hput hI8 k8 H7 K7 H8 K8
      go_wp2_with fail
      refine (move_is (s := { taken s k m with wait := wt + 1 }) HP.out Hm.out hc (by decide) (by omega)).mono ?_
      rintro e w9 ⟨rfl, hI9, k9⟩
      have K9 := Box.mk (KP.out.trans k9)
      have H9 := Box.mk hI9
      clear hI9 k9 HP KP
      go_wp2_with fail
      go_ret
      exact ⟨rfl, H9.out, K9.out⟩

theorem scan_is {hb b g : Nat} {s : TH} {w : World} {r : Option TH} (hI : IsTH w hb b g s) (hs : tscan s = some r) (hnow : s.now ≤ 1) :
    Calls Try.prog 65 #[.pointer (some ⟨hb, 0, none⟩)] w fun e w' => e = .returned (.bool r.isSome) ∧ IsTH w' hb b g (r.getD s) ∧ Keeps (foot3 hb b g) w w' := by
  rcases tscan_parts hs with ⟨rfl, hz⟩ | ⟨c, s', hc, hz, hne, hat, rfl⟩
  · exact scan_none hI hz
  · obtain ⟨x, hd, hbe, hr, hbig, h⟩ := tscanAt_parts hat
    rcases h with ⟨hf, last, hal, hwb, hm⟩ | ⟨hf, s2, hsf, hm⟩ | ⟨hf, hm⟩ | ⟨hf, rfl⟩
    · exact scan_weak hI hc hz hne hbe hr hbig hnow hf hal hwb hm
    · exact scan_plain hI hc hz hne hbe hr hbig hnow hf hsf hm
    · exact scan_raw hI hc hz hne hbe hr hbig hnow hf hm
    · exact scan_other (s' := taken s c (lget s c 3 - 1)) hI hc hz hne hbe hr hbig hnow hf

end Go.Proofs.Ytbjlapfcnldpoaa
