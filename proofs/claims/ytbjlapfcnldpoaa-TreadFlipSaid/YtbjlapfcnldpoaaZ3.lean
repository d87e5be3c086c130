/- Part 3 of 11 of this proof's own texts, joined in build order by a program. -/
import Derived.Test.YtbjlapfcnldpoaaZ2
/- The heap's scan by its contract. -/
namespace Go.Proofs.Ytbjlapfcnldpoaa
set_option linter.unusedVariables false
set_option linter.unusedSimpArgs false
open Go.RowKit

theorem obehind_parts {W : List Nat} {p x : Nat} (h : oBehind W p = some x) : p + 2 < W.length ∧ wat W (p + 2) = x ∧ x ≤ 1048576 := by
  unfold oBehind isPlace at h
  simp only [Bool.and_eq_true, decide_eq_true_eq] at h
  split at h
  · rename_i h1
    injection h with h
    exact ⟨h1.1, h, by rw [← h]; exact h1.2⟩
  · cases h
theorem oahead_parts {W : List Nat} {p x : Nat} (h : oAhead W p = some x) : p + 2 < W.length ∧ wat W (p + 1) = x ∧ x ≤ 1048576 := by
  unfold oAhead isPlace at h
  simp only [Bool.and_eq_true, decide_eq_true_eq] at h
  split at h
  · rename_i h1
    injection h with h
    exact ⟨h1.1, h, by rw [← h]; exact h1.2⟩
  · cases h
theorem obehind_is {b g p x : Nat} {w : World} {W : List Nat} (hI : IsW w b g W) (h : oBehind W p = some x) :
    Calls Try.prog 69 #[.pointer (some ⟨b, 0, none⟩), .int .i64 p] w fun e w' => e = .returned (.tuple #[.int .i64 x, .nilIface]) ∧ IsW w' b g W ∧ Keeps (foot b g) w w' := by
  obtain ⟨h1, h2, h3⟩ := obehind_parts h
  exact rbehind_is hI h1 h2 h3
theorem oahead_is {b g p x : Nat} {w : World} {W : List Nat} (hI : IsW w b g W) (h : oAhead W p = some x) :
    Calls Try.prog 90 #[.pointer (some ⟨b, 0, none⟩), .int .i64 p] w fun e w' => e = .returned (.tuple #[.int .i64 x, .nilIface]) ∧ IsW w' b g W ∧ Keeps (foot b g) w w' := by
  obtain ⟨h1, h2, h3⟩ := oahead_parts h
  exact rahead_is hI h1 h2 h3
theorem rd_parts {W : List Nat} {p x : Nat} (h : rd W p = some x) : p < W.length ∧ wat W p = x := by
  unfold rd at h
  split at h
  · rename_i h1; injection h with h; exact ⟨h1, h⟩
  · cases h
theorem req_parts {p : Prop} [Decidable p] {u : Unit} (h : req (decide p) = some u) : p := by
  unfold req at h
  split at h
  · rename_i h1; simpa using h1
  · cases h

/-- What is left when a grey cell was taken. -/
def taken (s : TH) (c m : Nat) : TH := { lset s c 3 m with tries := 0 }
theorem tscanAt_parts {s s' : TH} {c : Nat} (h : tscanAt s c = some s') : ∃ x hd, oBehind s.W (thead c 3) = some x ∧ rdh s.W x = some hd ∧ lget s c 3 < 1000000 ∧
    ((hform hd = 3 ∧ ∃ last, oAhead s.W 48 = some last ∧ s.wait < 1000000 ∧ tmove { taken s c (lget s c 3 - 1) with wait := s.wait + 1 } x c last s.now 1 = some s') ∨
     (hform hd = 1 ∧ ∃ s2, shadeFields (taken s c (lget s c 3 - 1)) x (hn hd) 0 = some s2 ∧ tmove s2 x c (thead c 1) s2.now 1 = some s') ∨
     (hform hd = 2 ∧ tmove (taken s c (lget s c 3 - 1)) x c (thead c 1) s.now 1 = some s') ∨
     (hform hd = 0 ∧ s' = taken s c (lget s c 3 - 1))) := by
  unfold tscanAt at h
  simp only [Option.bind_eq_bind, Option.bind_eq_some_iff] at h
  obtain ⟨x, h1, hd, h2, u, h3, h4⟩ := h
  refine ⟨x, hd, h1, h2, req_parts h3, ?_⟩
  split at h4
  · rename_i hf
    simp only [Option.bind_eq_some_iff] at h4
    obtain ⟨last, h5, u, h6, h7⟩ := h4
    exact Or.inl ⟨hf, last, h5, req_parts h6, h7⟩
  · rename_i hf3
    split at h4
    · rename_i hf
      simp only [Option.bind_eq_some_iff] at h4
      obtain ⟨s2, h5, h7⟩ := h4
      exact Or.inr (Or.inl ⟨hf, s2, h5, h7⟩)
    · rename_i hf1
      split at h4
      · rename_i hf
        exact Or.inr (Or.inr (Or.inl ⟨hf, h4⟩))
      · rename_i hf2
        simp only [Option.pure_def, Option.some.injEq] at h4
        refine Or.inr (Or.inr (Or.inr ⟨?_, h4.symm⟩))
        have : hform hd < 4 := by unfold hform; omega
        omega
theorem tscan_parts {s : TH} {r : Option TH} (h : tscan s = some r) : (r = none ∧ ∀ c, c < 4 → lget s c 3 = 0) ∨ ∃ c s', c < 4 ∧ (∀ j, j < c → lget s j 3 = 0) ∧ lget s c 3 ≠ 0 ∧ tscanAt s c = some s' ∧ r = some s' := by
  unfold tscan at h
  split at h
  · rename_i h0
    simp only [Option.map_eq_some_iff] at h
    obtain ⟨s', h1, h2⟩ := h
    exact Or.inr ⟨0, s', by omega, fun j hj => by omega, h0, h1, h2.symm⟩
  · rename_i h0
    split at h
    · rename_i h1'
      simp only [Option.map_eq_some_iff] at h
      obtain ⟨s', h1, h2⟩ := h
      refine Or.inr ⟨1, s', by omega, fun j hj => ?_, h1', h1, h2.symm⟩
      have : j = 0 := by omega
      subst this; omega
    · rename_i h1'
      split at h
      · rename_i h2'
        simp only [Option.map_eq_some_iff] at h
        obtain ⟨s', h1, h2⟩ := h
        refine Or.inr ⟨2, s', by omega, fun j hj => ?_, h2', h1, h2.symm⟩
        have : j = 0 ∨ j = 1 := by omega
        rcases this with rfl | rfl <;> omega
      · rename_i h2'
        split at h
        · rename_i h3'
          simp only [Option.map_eq_some_iff] at h
          obtain ⟨s', h1, h2⟩ := h
          refine Or.inr ⟨3, s', by omega, fun j hj => ?_, h3', h1, h2.symm⟩
          have : j = 0 ∨ j = 1 ∨ j = 2 := by omega
          rcases this with rfl | rfl | rfl <;> omega
        · rename_i h3'
          injection h with h
          refine Or.inl ⟨h.symm, fun c hc => ?_⟩
          have : c = 0 ∨ c = 1 ∨ c = 2 ∨ c = 3 := by omega
          rcases this with rfl | rfl | rfl | rfl <;> omega
theorem shadeFields_step {s s' : TH} {x m j : Nat} (h : shadeFields s x (m + 1) j = some s') : ∃ v t, x + 3 + j < s.W.length ∧ wat s.W (x + 3 + j) = v ∧ tshade s v = some t ∧ shadeFields t x m (j + 1) = some s' := by
  simp only [shadeFields, Option.bind_eq_bind, Option.bind_eq_some_iff] at h
  obtain ⟨v, h1, t, h2, h3⟩ := h
  obtain ⟨h4, h5⟩ := rd_parts h1
  exact ⟨v, t, h4, h5, h2, h3⟩

set_option maxRecDepth 100000 in
set_option maxHeartbeats 2000000 in
theorem scan_none {hb b g : Nat} {s : TH} {w : World} (hI : IsTH w hb b g s) (hz : ∀ j, j < 4 → lget s j 3 = 0) :
    Calls Try.prog 65 #[.pointer (some ⟨hb, 0, none⟩)] w fun e w' => e = .returned (.bool false) ∧ IsTH w' hb b g s ∧ Keeps (foot3 hb b g) w w' := by
  have H := Box.mk hI
  have Hz := Box.mk hz
  have K0 := Box.mk (Keeps.refl (foot3 hb b g) w)
  clear hI hz
  go_enter Try.func65, Try.ntmps65
  go_wp2_with fail
  go_loopw [12] (fun i wr => ∃ (k : Nat), k ≤ 4 ∧ i = .int .i64 k ∧ Box (IsTH wr hb b g s) ∧ Box (Keeps (foot3 hb b g) w wr)) (fun i _ => 4 - (intOf i).toNat)
  case atStart => exact ⟨0, Nat.zero_le _, rfl, H, K0⟩
  case round =>
    clear H K0
    obtain ⟨k, hk, rfl, HS, K⟩ := hrel
    by_cases hk4 : k < 4
    · have hk0 : (0 : Int) ≤ (k : Int) := by omega
      have hk1 : (k : Int) < 4 := by omega
      have hcell := HS.out.lists (i := 4 * k + 3) (by omega)
      rw [show s.lists.getD (4 * k + 3) 0 = 0 from Hz.out k hk4, show 10 + (4 * k + 3) = 10 + k * 4 + 3 by omega] at hcell
      go_wp2_with fail
      go_roundw
      case rel => exact ⟨k + 1, by omega, by go_num, HS, K⟩
      case measure => simp [intOf]; omega
    · have hk4' : k = 4 := by omega
      subst hk4'
      go_wp2_with fail
      go_ret
      exact ⟨rfl, HS.out, K.out⟩

set_option maxRecDepth 100000 in
set_option maxHeartbeats 2000000 in
theorem scan_other {hb b g : Nat} {s s' : TH} {w : World} {c x hd : Nat} (hI : IsTH w hb b g s) (hc : c < 4) (hz : ∀ j, j < c → lget s j 3 = 0) (hne : lget s c 3 ≠ 0) (hbe : oBehind s.W (thead c 3) = some x) (hr : rdh s.W x = some hd) (hbig : lget s c 3 < 1000000) (hnow : s.now ≤ 1) (hf : hform hd = 0)  :
    Calls Try.prog 65 #[.pointer (some ⟨hb, 0, none⟩)] w fun e w' => e = .returned (.bool true) ∧ IsTH w' hb b g (taken s c (lget s c 3 - 1)) ∧ Keeps (foot3 hb b g) w w' := by
  have hxb := (obehind_parts hbe).2.2
  obtain ⟨n, hn0⟩ : ∃ n, lget s c 3 = n := ⟨_, rfl⟩
  obtain ⟨m, hm0⟩ : ∃ m, n - 1 = m := ⟨_, rfl⟩
  rw [hn0] at hne hbig
  have hmb : m < 1000000 := by omega
  have hnn : (n : Int) - 1 = (m : Int) := by omega
  have hneI : ((n : Int) == 0) = false := by rw [beq_eq_false_iff_ne]; omega
  have Hpost : Box (lget s c 3 - 1 = m) := ⟨by omega⟩
  obtain ⟨vf, hvf⟩ : ∃ vf, hform hd = vf := ⟨_, rfl⟩
  obtain ⟨vt, hvt⟩ : ∃ vt, htag hd = vt := ⟨_, rfl⟩
  obtain ⟨vm, hvm⟩ : ∃ vm, hmark hd = vm := ⟨_, rfl⟩
  obtain ⟨vn, hvn⟩ : ∃ vn, hn hd = vn := ⟨_, rfl⟩
  have Hat : Box (∀ W, IsTH W hb b g s → Calls Try.prog 77 #[.pointer (some ⟨hb, 0, none⟩), .int .i64 x] W fun e w' => e = .returned (.agg #[.int .i64 (vf : Int), .int .i64 (vt : Int), .int .i64 (vm : Int), .int .i64 (vn : Int)]) ∧ IsTH w' hb b g s ∧ Keeps (foot3 hb b g) W w') := ⟨fun W hW => by
    have := at_is x hW hr
    rw [hvf, hvt, hvm, hvn] at this
    exact this⟩
  have hvf2 : vf = 0 := by omega
  subst hvf2
  obtain ⟨p3, hp3⟩ : ∃ p, thead c 3 = p := ⟨_, rfl⟩
  have hd3 : ∀ W, Calls Try.prog 70 #[.int .i64 c, .int .i64 3] W fun e w' => e = .returned (.int .i64 p3) ∧ w' = W := fun W => by rw [← hp3]; exact head_is c 3 W (by omega) (by omega)
  rw [hp3] at hbe
  obtain ⟨p1, hp1⟩ : ∃ p, thead c 1 = p := ⟨_, rfl⟩
  have hd1 : ∀ W, Calls Try.prog 70 #[.int .i64 c, .int .i64 1] W fun e w' => e = .returned (.int .i64 p1) ∧ w' = W := fun W => by rw [← hp1]; exact head_is c 1 W (by omega) (by omega)
  skip
  have Hd := Box.mk (And.intro hd3 hd1)
  have Hp1 := Box.mk hp1
  have Hbe := Box.mk hbe
  have H := Box.mk hI
  have Hz := Box.mk hz
  have Hn := Box.mk hn0
  have Hvn := Box.mk hvn
  have K0 := Box.mk (Keeps.refl (foot3 hb b g) w)
  clear hI hz hr hd3 hd1 hp3 hp1 hbe hn0 hm0 hvf hvt hvm hvn hf hne
  go_enter Try.func65, Try.ntmps65
  go_wp2_with fail
  go_loopw [12] (fun i wr => ∃ (k : Nat), k ≤ c ∧ i = .int .i64 k ∧ Box (IsTH wr hb b g s) ∧ Box (Keeps (foot3 hb b g) w wr)) (fun i _ => 4 - (intOf i).toNat)
  case atStart => exact ⟨0, Nat.zero_le _, rfl, H, K0⟩
  case round =>
    clear H K0
    obtain ⟨k, hk, rfl, HS, K⟩ := hrel
    by_cases hkc : k < c
    · have hk0 : (0 : Int) ≤ (k : Int) := by omega
      have hk1 : (k : Int) < 4 := by omega
      have hcell := HS.out.lists (i := 4 * k + 3) (by omega)
      rw [show s.lists.getD (4 * k + 3) 0 = 0 from Hz.out k hkc, show 10 + (4 * k + 3) = 10 + k * 4 + 3 by omega] at hcell
      go_wp2_with fail
      go_roundw
      case rel => exact ⟨k + 1, by omega, by go_num, HS, K⟩
      case measure => simp [intOf]; omega
    · have hkc' : k = c := by omega
      subst hkc'
      have hk0 : (0 : Int) ≤ (k : Int) := by omega
      have hk1 : (k : Int) < 4 := by omega
      have hcell := HS.out.lists (i := 4 * k + 3) (by omega)
      rw [show s.lists.getD (4 * k + 3) 0 = n from Hn.out, show 10 + (4 * k + 3) = 10 + k * 4 + 3 by omega] at hcell
      have hst := HS.out.store
      go_wp2_with fail
      clear hcell
      go_region_held3 (fun w' => w'.cell? ⟨hb, 0, none⟩ = some (.pointer (some ⟨b, 0, none⟩))) (first | exact kj.cell hst (by have := HS.out.ne; unfold foot; simp only; omega) | go_keep) (first | (go_at_call 70; refine (Hd.out.1 _).mono ?_; rintro e w2 ⟨rfl, rfl⟩) | (go_at_call 69; refine (obehind_is (w := wr.drew) (HS.out.keeps0 ((Keeps.refl (fun _ => False) wr).drew)).iw Hbe.out).mono ?_; rintro e w3 ⟨rfl, hI3, kj⟩))
      have kj' : Keeps (foot b g) wr w3 := ⟨kj.os, kj.tape, kj.output, kj.size, kj.block⟩
      have H3 := Box.mk (HS.out.ring kj' hI3)
      have K3 := Box.mk (K.out.trans (kj'.mono (S' := foot3 hb b g) (fun i _ h => Or.inr h)))
      clear kj kj' hI3 hst HS K
      go_wp2_with fail
      refine (Hat.out w3 H3.out).mono ?_
      rintro e w4 ⟨rfl, hI4, k4⟩
      have hh := heap_alloc_new w4 (.cells #[.int .i64 ((0 : Nat) : Int), .int .i64 (vt : Int), .int .i64 (vm : Int), .int .i64 (vn : Int)] 110)
      have ka := (Keeps.refl (fun _ => False) w4).alloc (.cells #[.int .i64 ((0 : Nat) : Int), .int .i64 (vt : Int), .int .i64 (vm : Int), .int .i64 (vn : Int)] 110)
      have H5 := Box.mk (hI4.keeps0 ka)
      have K5 := Box.mk (K3.out.trans (k4.trans (ka.mono (S' := foot3 hb b g) (fun _ _ h => h.elim))))
      have hlta := hI4.lt
      have hage := K3.out.trans k4
      obtain ⟨a, ha⟩ : ∃ a, w4.heap.size = a := ⟨_, rfl⟩
      have hlta : hb < a ∧ b < a ∧ g < a := by have := hI4.lt; omega
      have hwa : w.heap.size ≤ a := by have := hage.size; omega
      clear H3 K3 hage k4 ka hI4
      go_wp2_with fail
      try rw [ha] at hh
      try rw [ha]
      clear ha
      generalize w4.alloc (.cells #[.int .i64 ((0 : Nat) : Int), .int .i64 (vt : Int), .int .i64 (vm : Int), .int .i64 (vn : Int)] 110) = w5 at *
      have c0 := cell_of_heap hh 0
      have c3 := cell_of_heap hh 3
      simp only [List.getElem?_toArray, List.getElem?_cons_zero, List.getElem?_cons_succ] at c0 c3
      have hcell := H5.out.lists (i := 4 * k + 3) (by omega)
      have hfz := H5.out.frozen (10 + (4 * k + 3))
      rw [show s.lists.getD (4 * k + 3) 0 = n from Hn.out, show 10 + (4 * k + 3) = 10 + k * 4 + 3 by omega] at hcell
      have hput := H5.out.putList (i := 4 * k + 3) (by omega) m
      rw [show 10 + (4 * k + 3) = 10 + k * 4 + 3 by omega] at hput hfz
      have H6 := Box.mk (hput.keeps0 ((Keeps.refl (fun _ => False) _).drew))
      have kq := ((Keeps.refl (fun z => z = hb) w5).setCell (p := ⟨hb, 10 + k * 4 + 3, none⟩) (fun _ => rfl) (.int .i64 (m : Int))).drew
      have K6 := Box.mk (K5.out.trans (kq.mono (S' := foot3 hb b g) (fun i _ h => Or.inl h)))
      have c0' := kq.cell c0 (by simp only; omega)
      have c3' := kq.cell c3 (by simp only; omega)
      clear kq hput hh H5 K5
      go_region
      clear c0 c3 hcell hfz
      generalize (w5.setCell ⟨hb, 10 + k * 4 + 3, none⟩ (.int .i64 (m : Int))).drew = w6 at *
      have htr := H6.out.tries
      have ftr := H6.out.frozen 43
      have H7 : Box (IsTH (w6.setCell ⟨hb, 43, none⟩ (.int .i64 0)) hb b g (taken s k m)) := ⟨H6.out.putTries 0⟩
      have hst6 := H6.out.store
      have hnow6 := H6.out.now
      simp only at hnow6
      have kq := (Keeps.refl (fun z => z = hb) w6).setCell (p := ⟨hb, 43, none⟩) (fun _ => rfl) (.int .i64 0)
      have K7 := Box.mk (K6.out.trans (kq.mono (S' := foot3 hb b g) (fun i _ h => Or.inl h)))
      have c0 := kq.cell c0' (by simp only; omega)
      have c3 := kq.cell c3' (by simp only; omega)
      have hha : hb ≠ a := by omega
      clear kq H6 K6
      go_wp2_with fail
      go_ret
      exact ⟨rfl, by rw [Hpost.out]; exact H7.out, K7.out⟩

set_option maxRecDepth 100000 in
set_option maxHeartbeats 2000000 in
theorem scan_raw {hb b g : Nat} {s s' : TH} {w : World} {c x hd : Nat} (hI : IsTH w hb b g s) (hc : c < 4) (hz : ∀ j, j < c → lget s j 3 = 0) (hne : lget s c 3 ≠ 0) (hbe : oBehind s.W (thead c 3) = some x) (hr : rdh s.W x = some hd) (hbig : lget s c 3 < 1000000) (hnow : s.now ≤ 1) (hf : hform hd = 2) (hm : tmove (taken s c (lget s c 3 - 1)) x c (thead c 1) s.now 1 = some s') :
    Calls Try.prog 65 #[.pointer (some ⟨hb, 0, none⟩)] w fun e w' => e = .returned (.bool true) ∧ IsTH w' hb b g s' ∧ Keeps (foot3 hb b g) w w' := by
  have hxb := (obehind_parts hbe).2.2
  obtain ⟨n, hn0⟩ : ∃ n, lget s c 3 = n := ⟨_, rfl⟩
  obtain ⟨m, hm0⟩ : ∃ m, n - 1 = m := ⟨_, rfl⟩
  rw [hn0] at hne hbig
  have hmb : m < 1000000 := by omega
  have hnn : (n : Int) - 1 = (m : Int) := by omega
  have hneI : ((n : Int) == 0) = false := by rw [beq_eq_false_iff_ne]; omega
  skip
  obtain ⟨vf, hvf⟩ : ∃ vf, hform hd = vf := ⟨_, rfl⟩
  obtain ⟨vt, hvt⟩ : ∃ vt, htag hd = vt := ⟨_, rfl⟩
  obtain ⟨vm, hvm⟩ : ∃ vm, hmark hd = vm := ⟨_, rfl⟩
  obtain ⟨vn, hvn⟩ : ∃ vn, hn hd = vn := ⟨_, rfl⟩
  have Hat : Box (∀ W, IsTH W hb b g s → Calls Try.prog 77 #[.pointer (some ⟨hb, 0, none⟩), .int .i64 x] W fun e w' => e = .returned (.agg #[.int .i64 (vf : Int), .int .i64 (vt : Int), .int .i64 (vm : Int), .int .i64 (vn : Int)]) ∧ IsTH w' hb b g s ∧ Keeps (foot3 hb b g) W w') := ⟨fun W hW => by
    have := at_is x hW hr
    rw [hvf, hvt, hvm, hvn] at this
    exact this⟩
  have hvf2 : vf = 2 := by omega
  subst hvf2
  obtain ⟨p3, hp3⟩ : ∃ p, thead c 3 = p := ⟨_, rfl⟩
  have hd3 : ∀ W, Calls Try.prog 70 #[.int .i64 c, .int .i64 3] W fun e w' => e = .returned (.int .i64 p3) ∧ w' = W := fun W => by rw [← hp3]; exact head_is c 3 W (by omega) (by omega)
  rw [hp3] at hbe
  obtain ⟨p1, hp1⟩ : ∃ p, thead c 1 = p := ⟨_, rfl⟩
  have hd1 : ∀ W, Calls Try.prog 70 #[.int .i64 c, .int .i64 1] W fun e w' => e = .returned (.int .i64 p1) ∧ w' = W := fun W => by rw [← hp1]; exact head_is c 1 W (by omega) (by omega)
  obtain ⟨nw, hnw⟩ : ∃ nw, s.now = nw := ⟨_, rfl⟩
  rw [hnw] at hnow
  have Hnw := Box.mk hnw
  rw [hn0, hm0, hp1, hnw] at hm
  have Hm := Box.mk hm
  have Hcn : Box (∀ W, IsTH W hb b g s' → W.cell? ⟨hb, 39, none⟩ = some (.int .i64 nw)) := ⟨fun W hW => by
    have := hW.now
    rw [(tmove_same hm).1] at this
    simp only [taken, lset] at this
    rw [hnw] at this
    exact this⟩
  clear hm hnw
  have Hd := Box.mk (And.intro hd3 hd1)
  have Hp1 := Box.mk hp1
  have Hbe := Box.mk hbe
  have H := Box.mk hI
  have Hz := Box.mk hz
  have Hn := Box.mk hn0
  have Hvn := Box.mk hvn
  have K0 := Box.mk (Keeps.refl (foot3 hb b g) w)
  clear hI hz hr hd3 hd1 hp3 hp1 hbe hn0 hm0 hvf hvt hvm hvn hf hne
  go_enter Try.func65, Try.ntmps65
  go_wp2_with fail
  go_loopw [12] (fun i wr => ∃ (k : Nat), k ≤ c ∧ i = .int .i64 k ∧ Box (IsTH wr hb b g s) ∧ Box (Keeps (foot3 hb b g) w wr)) (fun i _ => 4 - (intOf i).toNat)
  case atStart => exact ⟨0, Nat.zero_le _, rfl, H, K0⟩
  case round =>
    clear H K0
    obtain ⟨k, hk, rfl, HS, K⟩ := hrel
    by_cases hkc : k < c
    · have hk0 : (0 : Int) ≤ (k : Int) := by omega
      have hk1 : (k : Int) < 4 := by omega
      have hcell := HS.out.lists (i := 4 * k + 3) (by omega)
      rw [show s.lists.getD (4 * k + 3) 0 = 0 from Hz.out k hkc, show 10 + (4 * k + 3) = 10 + k * 4 + 3 by omega] at hcell
      go_wp2_with fail
      go_roundw
      case rel => exact ⟨k + 1, by omega, by go_num, HS, K⟩
      case measure => simp [intOf]; omega
    · have hkc' : k = c := by omega
      subst hkc'
      have hk0 : (0 : Int) ≤ (k : Int) := by omega
      have hk1 : (k : Int) < 4 := by omega
      have hcell := HS.out.lists (i := 4 * k + 3) (by omega)
      rw [show s.lists.getD (4 * k + 3) 0 = n from Hn.out, show 10 + (4 * k + 3) = 10 + k * 4 + 3 by omega] at hcell
      have hst := HS.out.store
      go_wp2_with fail
      clear hcell
      go_region_held3 (fun w' => w'.cell? ⟨hb, 0, none⟩ = some (.pointer (some ⟨b, 0, none⟩))) (first | exact kj.cell hst (by have := HS.out.ne; unfold foot; simp only; omega) | go_keep) (first | (go_at_call 70; refine (Hd.out.1 _).mono ?_; rintro e w2 ⟨rfl, rfl⟩) | (go_at_call 69; refine (obehind_is (w := wr.drew) (HS.out.keeps0 ((Keeps.refl (fun _ => False) wr).drew)).iw Hbe.out).mono ?_; rintro e w3 ⟨rfl, hI3, kj⟩))
      have kj' : Keeps (foot b g) wr w3 := ⟨kj.os, kj.tape, kj.output, kj.size, kj.block⟩
      have H3 := Box.mk (HS.out.ring kj' hI3)
      have K3 := Box.mk (K.out.trans (kj'.mono (S' := foot3 hb b g) (fun i _ h => Or.inr h)))
      clear kj kj' hI3 hst HS K
      go_wp2_with fail
      refine (Hat.out w3 H3.out).mono ?_
      rintro e w4 ⟨rfl, hI4, k4⟩
      have hh := heap_alloc_new w4 (.cells #[.int .i64 ((2 : Nat) : Int), .int .i64 (vt : Int), .int .i64 (vm : Int), .int .i64 (vn : Int)] 110)
      have ka := (Keeps.refl (fun _ => False) w4).alloc (.cells #[.int .i64 ((2 : Nat) : Int), .int .i64 (vt : Int), .int .i64 (vm : Int), .int .i64 (vn : Int)] 110)
      have H5 := Box.mk (hI4.keeps0 ka)
      have K5 := Box.mk (K3.out.trans (k4.trans (ka.mono (S' := foot3 hb b g) (fun _ _ h => h.elim))))
      have hlta := hI4.lt
      have hage := K3.out.trans k4
      obtain ⟨a, ha⟩ : ∃ a, w4.heap.size = a := ⟨_, rfl⟩
      have hlta : hb < a ∧ b < a ∧ g < a := by have := hI4.lt; omega
      have hwa : w.heap.size ≤ a := by have := hage.size; omega
      clear H3 K3 hage k4 ka hI4
      go_wp2_with fail
      try rw [ha] at hh
      try rw [ha]
      clear ha
      generalize w4.alloc (.cells #[.int .i64 ((2 : Nat) : Int), .int .i64 (vt : Int), .int .i64 (vm : Int), .int .i64 (vn : Int)] 110) = w5 at *
      have c0 := cell_of_heap hh 0
      have c3 := cell_of_heap hh 3
      simp only [List.getElem?_toArray, List.getElem?_cons_zero, List.getElem?_cons_succ] at c0 c3
      have hcell := H5.out.lists (i := 4 * k + 3) (by omega)
      have hfz := H5.out.frozen (10 + (4 * k + 3))
      rw [show s.lists.getD (4 * k + 3) 0 = n from Hn.out, show 10 + (4 * k + 3) = 10 + k * 4 + 3 by omega] at hcell
      have hput := H5.out.putList (i := 4 * k + 3) (by omega) m
      rw [show 10 + (4 * k + 3) = 10 + k * 4 + 3 by omega] at hput hfz
      have H6 := Box.mk (hput.keeps0 ((Keeps.refl (fun _ => False) _).drew))
      have kq := ((Keeps.refl (fun z => z = hb) w5).setCell (p := ⟨hb, 10 + k * 4 + 3, none⟩) (fun _ => rfl) (.int .i64 (m : Int))).drew
      have K6 := Box.mk (K5.out.trans (kq.mono (S' := foot3 hb b g) (fun i _ h => Or.inl h)))
      have c0' := kq.cell c0 (by simp only; omega)
      have c3' := kq.cell c3 (by simp only; omega)
      clear kq hput hh H5 K5
      go_region
      clear c0 c3 hcell hfz
      generalize (w5.setCell ⟨hb, 10 + k * 4 + 3, none⟩ (.int .i64 (m : Int))).drew = w6 at *
      have htr := H6.out.tries
      have ftr := H6.out.frozen 43
      have H7 : Box (IsTH (w6.setCell ⟨hb, 43, none⟩ (.int .i64 0)) hb b g (taken s k m)) := ⟨H6.out.putTries 0⟩
      have hst6 := H6.out.store
      have hnow6 := H6.out.now
      simp only at hnow6
      have kq := (Keeps.refl (fun z => z = hb) w6).setCell (p := ⟨hb, 43, none⟩) (fun _ => rfl) (.int .i64 0)
      have K7 := Box.mk (K6.out.trans (kq.mono (S' := foot3 hb b g) (fun i _ h => Or.inl h)))
      have c0 := kq.cell c0' (by simp only; omega)
      have c3 := kq.cell c3' (by simp only; omega)
      have hha : hb ≠ a := by omega
      clear kq H6 K6
      go_wp2_with fail
      generalize w6.setCell ⟨hb, 43, none⟩ (.int .i64 0) = w7 at *
      clear hst6 hnow6 c0 c3 c0' c3' htr ftr
      have hnowc := H7.out.now
      simp only [taken, lset] at hnowc
      rw [Hnw.out] at hnowc
      go_region_held3 (fun w' => w'.cell? ⟨hb, 39, none⟩ = some (.int .i64 nw)) (first | exact Hcn.out _ hI9 | go_keep) (first | (go_at_call 70; refine (Hd.out.2 _).mono ?_; rintro e w2 ⟨rfl, rfl⟩) | (go_at_call 94; refine (move_is (w := w7.drew) (s := taken s k m) (H7.out.keeps0 ((Keeps.refl (fun _ => False) w7).drew)) Hm.out hc (by decide) (by omega)).mono ?_; rintro e w9 ⟨rfl, hI9, k9⟩))
      all_goals
        have K9 := Box.mk (K7.out.trans (show Keeps (foot3 hb b g) w7 _ from ⟨k9.os, k9.tape, k9.output, k9.size, k9.block⟩))
        have H9 := Box.mk hI9
        clear hI9 k9
        go_wp2_with fail
        go_ret
        exact ⟨rfl, H9.out, K9.out⟩

set_option maxRecDepth 100000 in
set_option maxHeartbeats 2000000 in
theorem scan_plain {hb b g : Nat} {s s' : TH} {w : World} {c x hd : Nat} (hI : IsTH w hb b g s) (hc : c < 4) (hz : ∀ j, j < c → lget s j 3 = 0) (hne : lget s c 3 ≠ 0) (hbe : oBehind s.W (thead c 3) = some x) (hr : rdh s.W x = some hd) (hbig : lget s c 3 < 1000000) (hnow : s.now ≤ 1) (hf : hform hd = 1) {s2 : TH} (hsf : shadeFields (taken s c (lget s c 3 - 1)) x (hn hd) 0 = some s2) (hm : tmove s2 x c (thead c 1) s2.now 1 = some s') :
    Calls Try.prog 65 #[.pointer (some ⟨hb, 0, none⟩)] w fun e w' => e = .returned (.bool true) ∧ IsTH w' hb b g s' ∧ Keeps (foot3 hb b g) w w' := by
  have hxb := (obehind_parts hbe).2.2
  obtain ⟨n, hn0⟩ : ∃ n, lget s c 3 = n := ⟨_, rfl⟩
  obtain ⟨m, hm0⟩ : ∃ m, n - 1 = m := ⟨_, rfl⟩
  rw [hn0] at hne hbig
  have hmb : m < 1000000 := by omega
  have hnn : (n : Int) - 1 = (m : Int) := by omega
  have hneI : ((n : Int) == 0) = false := by rw [beq_eq_false_iff_ne]; omega
  skip
  obtain ⟨vf, hvf⟩ : ∃ vf, hform hd = vf := ⟨_, rfl⟩
  obtain ⟨vt, hvt⟩ : ∃ vt, htag hd = vt := ⟨_, rfl⟩
  obtain ⟨vm, hvm⟩ : ∃ vm, hmark hd = vm := ⟨_, rfl⟩
  obtain ⟨vn, hvn⟩ : ∃ vn, hn hd = vn := ⟨_, rfl⟩
  have Hat : Box (∀ W, IsTH W hb b g s → Calls Try.prog 77 #[.pointer (some ⟨hb, 0, none⟩), .int .i64 x] W fun e w' => e = .returned (.agg #[.int .i64 (vf : Int), .int .i64 (vt : Int), .int .i64 (vm : Int), .int .i64 (vn : Int)]) ∧ IsTH w' hb b g s ∧ Keeps (foot3 hb b g) W w') := ⟨fun W hW => by
    have := at_is x hW hr
    rw [hvf, hvt, hvm, hvn] at this
    exact this⟩
  have hvf2 : vf = 1 := by omega
  subst hvf2
  obtain ⟨p3, hp3⟩ : ∃ p, thead c 3 = p := ⟨_, rfl⟩
  have hd3 : ∀ W, Calls Try.prog 70 #[.int .i64 c, .int .i64 3] W fun e w' => e = .returned (.int .i64 p3) ∧ w' = W := fun W => by rw [← hp3]; exact head_is c 3 W (by omega) (by omega)
  rw [hp3] at hbe
  obtain ⟨p1, hp1⟩ : ∃ p, thead c 1 = p := ⟨_, rfl⟩
  have hd1 : ∀ W, Calls Try.prog 70 #[.int .i64 c, .int .i64 1] W fun e w' => e = .returned (.int .i64 p1) ∧ w' = W := fun W => by rw [← hp1]; exact head_is c 1 W (by omega) (by omega)
  obtain ⟨nw, hnw⟩ : ∃ nw, s.now = nw := ⟨_, rfl⟩
  rw [hnw] at hnow
  have Hnw := Box.mk hnw
  rw [hn0, hm0, hvn] at hsf
  have hs2 : s2.now = nw := by
    have key : ∀ m j t, shadeFields t x m j = some s2 → s2.now = t.now := by
      intro m
      induction m with
      | zero => intro j t h; simp only [shadeFields, Option.some.injEq] at h; rw [h]
      | succ m ih =>
        intro j t h
        obtain ⟨v, u, -, -, h1, h2⟩ := shadeFields_step h
        rw [ih _ _ h2, (tshade_same h1).1]
    rw [key _ _ _ hsf]
    exact hnw
  rw [hp1, hs2] at hm
  have Hm := Box.mk hm
  have Hsf := Box.mk hsf
  have hvnb : vn < 256 := by rw [← hvn]; unfold hn; omega
  have Hcn : Box (∀ W, IsTH W hb b g s' → W.cell? ⟨hb, 39, none⟩ = some (.int .i64 nw)) := ⟨fun W hW => by
    have := hW.now
    rw [(tmove_same hm).1, hs2] at this
    exact this⟩
  clear hm hnw hsf hs2
  have Hd := Box.mk (And.intro hd3 hd1)
  have Hp1 := Box.mk hp1
  have Hbe := Box.mk hbe
  have H := Box.mk hI
  have Hz := Box.mk hz
  have Hn := Box.mk hn0
  have Hvn := Box.mk hvn
  have K0 := Box.mk (Keeps.refl (foot3 hb b g) w)
  clear hI hz hr hd3 hd1 hp3 hp1 hbe hn0 hm0 hvf hvt hvm hvn hf hne
  go_enter Try.func65, Try.ntmps65
  go_wp2_with fail
  go_loopw [12] (fun i wr => ∃ (k : Nat), k ≤ c ∧ i = .int .i64 k ∧ Box (IsTH wr hb b g s) ∧ Box (Keeps (foot3 hb b g) w wr)) (fun i _ => 4 - (intOf i).toNat)
  case atStart => exact ⟨0, Nat.zero_le _, rfl, H, K0⟩
  case round =>
    clear H K0
    obtain ⟨k, hk, rfl, HS, K⟩ := hrel
    by_cases hkc : k < c
    · have hk0 : (0 : Int) ≤ (k : Int) := by omega
      have hk1 : (k : Int) < 4 := by omega
      have hcell := HS.out.lists (i := 4 * k + 3) (by omega)
      rw [show s.lists.getD (4 * k + 3) 0 = 0 from Hz.out k hkc, show 10 + (4 * k + 3) = 10 + k * 4 + 3 by omega] at hcell
      go_wp2_with fail
      go_roundw
      case rel => exact ⟨k + 1, by omega, by go_num, HS, K⟩
      case measure => simp [intOf]; omega
    · have hkc' : k = c := by omega
      subst hkc'
      have hk0 : (0 : Int) ≤ (k : Int) := by omega
      have hk1 : (k : Int) < 4 := by omega
      have hcell := HS.out.lists (i := 4 * k + 3) (by omega)
      rw [show s.lists.getD (4 * k + 3) 0 = n from Hn.out, show 10 + (4 * k + 3) = 10 + k * 4 + 3 by omega] at hcell
      have hst := HS.out.store
      go_wp2_with fail
      clear hcell
      go_region_held3 (fun w' => w'.cell? ⟨hb, 0, none⟩ = some (.pointer (some ⟨b, 0, none⟩))) (first | exact kj.cell hst (by have := HS.out.ne; unfold foot; simp only; omega) | go_keep) (first | (go_at_call 70; refine (Hd.out.1 _).mono ?_; rintro e w2 ⟨rfl, rfl⟩) | (go_at_call 69; refine (obehind_is (w := wr.drew) (HS.out.keeps0 ((Keeps.refl (fun _ => False) wr).drew)).iw Hbe.out).mono ?_; rintro e w3 ⟨rfl, hI3, kj⟩))
      have kj' : Keeps (foot b g) wr w3 := ⟨kj.os, kj.tape, kj.output, kj.size, kj.block⟩
      have H3 := Box.mk (HS.out.ring kj' hI3)
      have K3 := Box.mk (K.out.trans (kj'.mono (S' := foot3 hb b g) (fun i _ h => Or.inr h)))
      clear kj kj' hI3 hst HS K
      go_wp2_with fail
      refine (Hat.out w3 H3.out).mono ?_
      rintro e w4 ⟨rfl, hI4, k4⟩
      have hh := heap_alloc_new w4 (.cells #[.int .i64 ((1 : Nat) : Int), .int .i64 (vt : Int), .int .i64 (vm : Int), .int .i64 (vn : Int)] 110)
      have ka := (Keeps.refl (fun _ => False) w4).alloc (.cells #[.int .i64 ((1 : Nat) : Int), .int .i64 (vt : Int), .int .i64 (vm : Int), .int .i64 (vn : Int)] 110)
      have H5 := Box.mk (hI4.keeps0 ka)
      have K5 := Box.mk (K3.out.trans (k4.trans (ka.mono (S' := foot3 hb b g) (fun _ _ h => h.elim))))
      have hlta := hI4.lt
      have hage := K3.out.trans k4
      obtain ⟨a, ha⟩ : ∃ a, w4.heap.size = a := ⟨_, rfl⟩
      have hlta : hb < a ∧ b < a ∧ g < a := by have := hI4.lt; omega
      have hwa : w.heap.size ≤ a := by have := hage.size; omega
      clear H3 K3 hage k4 ka hI4
      go_wp2_with fail
      try rw [ha] at hh
      try rw [ha]
      clear ha
      generalize w4.alloc (.cells #[.int .i64 ((1 : Nat) : Int), .int .i64 (vt : Int), .int .i64 (vm : Int), .int .i64 (vn : Int)] 110) = w5 at *
      have c0 := cell_of_heap hh 0
      have c3 := cell_of_heap hh 3
      simp only [List.getElem?_toArray, List.getElem?_cons_zero, List.getElem?_cons_succ] at c0 c3
      have hcell := H5.out.lists (i := 4 * k + 3) (by omega)
      have hfz := H5.out.frozen (10 + (4 * k + 3))
      rw [show s.lists.getD (4 * k + 3) 0 = n from Hn.out, show 10 + (4 * k + 3) = 10 + k * 4 + 3 by omega] at hcell
      have hput := H5.out.putList (i := 4 * k + 3) (by omega) m
      rw [show 10 + (4 * k + 3) = 10 + k * 4 + 3 by omega] at hput hfz
      have H6 := Box.mk (hput.keeps0 ((Keeps.refl (fun _ => False) _).drew))
      have kq := ((Keeps.refl (fun z => z = hb) w5).setCell (p := ⟨hb, 10 + k * 4 + 3, none⟩) (fun _ => rfl) (.int .i64 (m : Int))).drew
      have K6 := Box.mk (K5.out.trans (kq.mono (S' := foot3 hb b g) (fun i _ h => Or.inl h)))
      have c0' := kq.cell c0 (by simp only; omega)
      have c3' := kq.cell c3 (by simp only; omega)
      clear kq hput hh H5 K5
      go_region
      clear c0 c3 hcell hfz
      generalize (w5.setCell ⟨hb, 10 + k * 4 + 3, none⟩ (.int .i64 (m : Int))).drew = w6 at *
      have htr := H6.out.tries
      have ftr := H6.out.frozen 43
      have H7 : Box (IsTH (w6.setCell ⟨hb, 43, none⟩ (.int .i64 0)) hb b g (taken s k m)) := ⟨H6.out.putTries 0⟩
      have hst6 := H6.out.store
      have hnow6 := H6.out.now
      simp only at hnow6
      have kq := (Keeps.refl (fun z => z = hb) w6).setCell (p := ⟨hb, 43, none⟩) (fun _ => rfl) (.int .i64 0)
      have K7 := Box.mk (K6.out.trans (kq.mono (S' := foot3 hb b g) (fun i _ h => Or.inl h)))
      have c0 := kq.cell c0' (by simp only; omega)
      have c3 := kq.cell c3' (by simp only; omega)
      have hha : hb ≠ a := by omega
      clear kq H6 K6
      go_wp2_with fail
      generalize w6.setCell ⟨hb, 43, none⟩ (.int .i64 0) = w7 at *
      clear hst6 hnow6 c0 c3 c0' c3' htr ftr
      go_loopw [85] (fun i wr => ∃ (j : Nat) (sj : TH), j ≤ vn ∧ i = .int .i64 j ∧ Box (shadeFields sj x (vn - j) j = some s2) ∧ Box (IsTH wr hb b g sj) ∧ Box (sj.now = nw) ∧ Box (Keeps (foot3 hb b g) w wr)) (fun i _ => vn - (intOf i).toNat)
      case atStart => exact ⟨0, _, Nat.zero_le _, rfl, Hsf, H7, ⟨Hnw.out⟩, K7⟩
      case round =>
        clear H7 K7 Hsf
        obtain ⟨j, sj, hj, rfl, HN, HS, HW, K⟩ := hrel
        by_cases hjn : j < vn
        · have hj0 : (0 : Int) ≤ (j : Int) := by omega
          have hj1 : (j : Int) < (vn : Int) := by omega
          obtain ⟨v, t, hlt, hv, ht, hN'⟩ := shadeFields_step (m := vn - j - 1) (by rw [show vn - j - 1 + 1 = vn - j by omega]; exact HN.out)
          rw [show vn - j - 1 = vn - (j + 1) by omega] at hN'
          have HN' := Box.mk hN'
          have Ht := Box.mk ht
          obtain ⟨p, hp⟩ : ∃ p, x + 3 + j = p := ⟨_, rfl⟩
          have hpj : (x : Int) + 3 + (j : Int) = (p : Int) := by omega
          rw [hp] at hlt hv
          have Hg := Box.mk (And.intro hlt hv)
          have hst := HS.out.store
          clear hN' ht hp hlt hv HN
          go_wp2_with fail
          refine (wget_is HS.out.iw Hg.out.1).mono ?_
          rw [Hg.out.2]
          rintro e w8 ⟨rfl, hI8, k8⟩
          have H8 : Box (IsTH w8 hb b g sj) := ⟨HS.out.ring k8 hI8⟩
          have K8 := Box.mk (K.out.trans (k8.mono (S' := foot3 hb b g) (fun i _ h => Or.inr h)))
          clear hI8 k8 HS K hst Hg
          go_wp2_with fail
          refine (shade_is H8.out Ht.out (by rw [HW.out]; exact hnow)).mono ?_
          rintro e w9 ⟨rfl, hI9, k9⟩
          have H9 := Box.mk hI9
          have K9 := Box.mk (K8.out.trans k9)
          have HW9 : Box (t.now = nw) := ⟨by rw [(tshade_same Ht.out).1]; exact HW.out⟩
          clear hI9 k9 H8 K8
          go_wp2_with fail
          go_roundw
          case rel => exact ⟨j + 1, t, by omega, by go_num, HN', H9, HW9, K9⟩
          case measure => simp [intOf]; omega
        · have hjn' : j = vn := by omega
          subst hjn'
          have e : sj = s2 := by
            have h := HN.out
            simp only [Nat.sub_self, shadeFields, Option.some.injEq] at h
            exact h
          subst e
          have hnowc := HS.out.now
          rw [HW.out] at hnowc
          clear HN
          go_wp2_with fail
          go_region_held3 (fun w' => w'.cell? ⟨hb, 39, none⟩ = some (.int .i64 nw)) (first | exact Hcn.out _ hI9 | go_keep) (first | (go_at_call 70; refine (Hd.out.2 _).mono ?_; rintro e w2 ⟨rfl, rfl⟩) | (go_at_call 94; refine (move_is (w := wr.drew) (s := sj) (HS.out.keeps0 ((Keeps.refl (fun _ => False) wr).drew)) Hm.out hc (by decide) (by omega)).mono ?_; rintro e w9 ⟨rfl, hI9, k9⟩))
          all_goals
            have K9 := Box.mk (K.out.trans (show Keeps (foot3 hb b g) wr _ from ⟨k9.os, k9.tape, k9.output, k9.size, k9.block⟩))
            have H9 := Box.mk hI9
            clear hI9 k9
            go_wp2_with fail
            go_ret
            exact ⟨rfl, H9.out, K9.out⟩

set_option maxRecDepth 100000 in
set_option maxHeartbeats 2000000 in
theorem scan_weak {hb b g : Nat} {s s' : TH} {w : World} {c x hd : Nat} (hI : IsTH w hb b g s) (hc : c < 4) (hz : ∀ j, j < c → lget s j 3 = 0) (hne : lget s c 3 ≠ 0) (hbe : oBehind s.W (thead c 3) = some x) (hr : rdh s.W x = some hd) (hbig : lget s c 3 < 1000000) (hnow : s.now ≤ 1) (hf : hform hd = 3) {last : Nat} (hal : oAhead s.W 48 = some last) (hwb : s.wait < 1000000) (hm : tmove { taken s c (lget s c 3 - 1) with wait := s.wait + 1 } x c last s.now 1 = some s') :
    Calls Try.prog 65 #[.pointer (some ⟨hb, 0, none⟩)] w fun e w' => e = .returned (.bool true) ∧ IsTH w' hb b g s' ∧ Keeps (foot3 hb b g) w w' := by
  have hxb := (obehind_parts hbe).2.2
  obtain ⟨n, hn0⟩ : ∃ n, lget s c 3 = n := ⟨_, rfl⟩
  obtain ⟨m, hm0⟩ : ∃ m, n - 1 = m := ⟨_, rfl⟩
  rw [hn0] at hne hbig
  have hmb : m < 1000000 := by omega
  have hnn : (n : Int) - 1 = (m : Int) := by omega
  have hneI : ((n : Int) == 0) = false := by rw [beq_eq_false_iff_ne]; omega
  skip
  obtain ⟨vf, hvf⟩ : ∃ vf, hform hd = vf := ⟨_, rfl⟩
  obtain ⟨vt, hvt⟩ : ∃ vt, htag hd = vt := ⟨_, rfl⟩
  obtain ⟨vm, hvm⟩ : ∃ vm, hmark hd = vm := ⟨_, rfl⟩
  obtain ⟨vn, hvn⟩ : ∃ vn, hn hd = vn := ⟨_, rfl⟩
  have Hat : Box (∀ W, IsTH W hb b g s → Calls Try.prog 77 #[.pointer (some ⟨hb, 0, none⟩), .int .i64 x] W fun e w' => e = .returned (.agg #[.int .i64 (vf : Int), .int .i64 (vt : Int), .int .i64 (vm : Int), .int .i64 (vn : Int)]) ∧ IsTH w' hb b g s ∧ Keeps (foot3 hb b g) W w') := ⟨fun W hW => by
    have := at_is x hW hr
    rw [hvf, hvt, hvm, hvn] at this
    exact this⟩
  have hvf2 : vf = 3 := by omega
  subst hvf2
  obtain ⟨p3, hp3⟩ : ∃ p, thead c 3 = p := ⟨_, rfl⟩
  have hd3 : ∀ W, Calls Try.prog 70 #[.int .i64 c, .int .i64 3] W fun e w' => e = .returned (.int .i64 p3) ∧ w' = W := fun W => by rw [← hp3]; exact head_is c 3 W (by omega) (by omega)
  rw [hp3] at hbe
  obtain ⟨p1, hp1⟩ : ∃ p, thead c 1 = p := ⟨_, rfl⟩
  have hd1 : ∀ W, Calls Try.prog 70 #[.int .i64 c, .int .i64 1] W fun e w' => e = .returned (.int .i64 p1) ∧ w' = W := fun W => by rw [← hp1]; exact head_is c 1 W (by omega) (by omega)
  obtain ⟨nw, hnw⟩ : ∃ nw, s.now = nw := ⟨_, rfl⟩
  rw [hnw] at hnow
  have Hnw := Box.mk hnw
  obtain ⟨wt, hwt⟩ : ∃ wt, s.wait = wt := ⟨_, rfl⟩
  rw [hn0, hm0, hnw, hwt] at hm
  rw [hwt] at hwb
  have Hwt := Box.mk hwt
  have Hm := Box.mk hm
  have Hal := Box.mk hal
  have hlb := (oahead_parts hal).2.2
  clear hm hnw hal hwt
  have Hd := Box.mk (And.intro hd3 hd1)
  have Hp1 := Box.mk hp1
  have Hbe := Box.mk hbe
  have H := Box.mk hI
  have Hz := Box.mk hz
  have Hn := Box.mk hn0
  have Hvn := Box.mk hvn
  have K0 := Box.mk (Keeps.refl (foot3 hb b g) w)
  clear hI hz hr hd3 hd1 hp3 hp1 hbe hn0 hm0 hvf hvt hvm hvn hf hne
  go_enter Try.func65, Try.ntmps65
  go_wp2_with fail
  go_loopw [12] (fun i wr => ∃ (k : Nat), k ≤ c ∧ i = .int .i64 k ∧ Box (IsTH wr hb b g s) ∧ Box (Keeps (foot3 hb b g) w wr)) (fun i _ => 4 - (intOf i).toNat)
  case atStart => exact ⟨0, Nat.zero_le _, rfl, H, K0⟩
  case round =>
    clear H K0
    obtain ⟨k, hk, rfl, HS, K⟩ := hrel
    by_cases hkc : k < c
    · have hk0 : (0 : Int) ≤ (k : Int) := by omega
      have hk1 : (k : Int) < 4 := by omega
      have hcell := HS.out.lists (i := 4 * k + 3) (by omega)
      rw [show s.lists.getD (4 * k + 3) 0 = 0 from Hz.out k hkc, show 10 + (4 * k + 3) = 10 + k * 4 + 3 by omega] at hcell
      go_wp2_with fail
      go_roundw
      case rel => exact ⟨k + 1, by omega, by go_num, HS, K⟩
      case measure => simp [intOf]; omega
    · have hkc' : k = c := by omega
      subst hkc'
      have hk0 : (0 : Int) ≤ (k : Int) := by omega
      have hk1 : (k : Int) < 4 := by omega
      have hcell := HS.out.lists (i := 4 * k + 3) (by omega)
      rw [show s.lists.getD (4 * k + 3) 0 = n from Hn.out, show 10 + (4 * k + 3) = 10 + k * 4 + 3 by omega] at hcell
      have hst := HS.out.store
      go_wp2_with fail
      clear hcell
      go_region_held3 (fun w' => w'.cell? ⟨hb, 0, none⟩ = some (.pointer (some ⟨b, 0, none⟩))) (first | exact kj.cell hst (by have := HS.out.ne; unfold foot; simp only; omega) | go_keep) (first | (go_at_call 70; refine (Hd.out.1 _).mono ?_; rintro e w2 ⟨rfl, rfl⟩) | (go_at_call 69; refine (obehind_is (w := wr.drew) (HS.out.keeps0 ((Keeps.refl (fun _ => False) wr).drew)).iw Hbe.out).mono ?_; rintro e w3 ⟨rfl, hI3, kj⟩))
      have kj' : Keeps (foot b g) wr w3 := ⟨kj.os, kj.tape, kj.output, kj.size, kj.block⟩
      have H3 := Box.mk (HS.out.ring kj' hI3)
      have K3 := Box.mk (K.out.trans (kj'.mono (S' := foot3 hb b g) (fun i _ h => Or.inr h)))
      clear kj kj' hI3 hst HS K
      go_wp2_with fail
      refine (Hat.out w3 H3.out).mono ?_
      rintro e w4 ⟨rfl, hI4, k4⟩
      have hh := heap_alloc_new w4 (.cells #[.int .i64 ((3 : Nat) : Int), .int .i64 (vt : Int), .int .i64 (vm : Int), .int .i64 (vn : Int)] 110)
      have ka := (Keeps.refl (fun _ => False) w4).alloc (.cells #[.int .i64 ((3 : Nat) : Int), .int .i64 (vt : Int), .int .i64 (vm : Int), .int .i64 (vn : Int)] 110)
      have H5 := Box.mk (hI4.keeps0 ka)
      have K5 := Box.mk (K3.out.trans (k4.trans (ka.mono (S' := foot3 hb b g) (fun _ _ h => h.elim))))
      have hlta := hI4.lt
      have hage := K3.out.trans k4
      obtain ⟨a, ha⟩ : ∃ a, w4.heap.size = a := ⟨_, rfl⟩
      have hlta : hb < a ∧ b < a ∧ g < a := by have := hI4.lt; omega
      have hwa : w.heap.size ≤ a := by have := hage.size; omega
      clear H3 K3 hage k4 ka hI4
      go_wp2_with fail
      try rw [ha] at hh
      try rw [ha]
      clear ha
      generalize w4.alloc (.cells #[.int .i64 ((3 : Nat) : Int), .int .i64 (vt : Int), .int .i64 (vm : Int), .int .i64 (vn : Int)] 110) = w5 at *
      have c0 := cell_of_heap hh 0
      have c3 := cell_of_heap hh 3
      simp only [List.getElem?_toArray, List.getElem?_cons_zero, List.getElem?_cons_succ] at c0 c3
      have hcell := H5.out.lists (i := 4 * k + 3) (by omega)
      have hfz := H5.out.frozen (10 + (4 * k + 3))
      rw [show s.lists.getD (4 * k + 3) 0 = n from Hn.out, show 10 + (4 * k + 3) = 10 + k * 4 + 3 by omega] at hcell
      have hput := H5.out.putList (i := 4 * k + 3) (by omega) m
      rw [show 10 + (4 * k + 3) = 10 + k * 4 + 3 by omega] at hput hfz
      have H6 := Box.mk (hput.keeps0 ((Keeps.refl (fun _ => False) _).drew))
      have kq := ((Keeps.refl (fun z => z = hb) w5).setCell (p := ⟨hb, 10 + k * 4 + 3, none⟩) (fun _ => rfl) (.int .i64 (m : Int))).drew
      have K6 := Box.mk (K5.out.trans (kq.mono (S' := foot3 hb b g) (fun i _ h => Or.inl h)))
      have c0' := kq.cell c0 (by simp only; omega)
      have c3' := kq.cell c3 (by simp only; omega)
      clear kq hput hh H5 K5
      go_region
      clear c0 c3 hcell hfz
      generalize (w5.setCell ⟨hb, 10 + k * 4 + 3, none⟩ (.int .i64 (m : Int))).drew = w6 at *
      have htr := H6.out.tries
      have ftr := H6.out.frozen 43
      have H7 : Box (IsTH (w6.setCell ⟨hb, 43, none⟩ (.int .i64 0)) hb b g (taken s k m)) := ⟨H6.out.putTries 0⟩
      have hst6 := H6.out.store
      have hnow6 := H6.out.now
      simp only at hnow6
      have kq := (Keeps.refl (fun z => z = hb) w6).setCell (p := ⟨hb, 43, none⟩) (fun _ => rfl) (.int .i64 0)
      have K7 := Box.mk (K6.out.trans (kq.mono (S' := foot3 hb b g) (fun i _ h => Or.inl h)))
      have c0 := kq.cell c0' (by simp only; omega)
      have c3 := kq.cell c3' (by simp only; omega)
      have hha : hb ≠ a := by omega
      clear kq H6 K6
      go_wp2_with fail
      generalize w6.setCell ⟨hb, 43, none⟩ (.int .i64 0) = w7 at *
      clear hst6 hnow6 c0 c3 c0' c3' htr ftr
      refine (oahead_is (p := 48) H7.out.iw Hal.out).mono ?_
      rintro e w8 ⟨rfl, hI8, k8⟩
      have H8 : Box (IsTH w8 hb b g (taken s k m)) := ⟨H7.out.ring k8 hI8⟩
      have K8 := Box.mk (K7.out.trans (k8.mono (S' := foot3 hb b g) (fun i _ h => Or.inr h)))
      have hwc := H8.out.wait
      have fwc := H8.out.frozen 42
      have hnc := H8.out.now
      simp only [taken, lset] at hwc hnc
      rw [Hnw.out] at hnc
      rw [Hwt.out] at hwc
      have hput := H8.out.putWait (wt + 1)
      rw [show ((wt + 1 : Nat) : Int) = (wt : Int) + 1 by omega] at hput
      have HP := Box.mk hput
      have KP := Box.mk (K8.out.setCell (p := ⟨hb, 42, none⟩) (fun _ => Or.inl rfl) (.int .i64 ((wt : Int) + 1)))
      clear hput hI8 k8 H7 K7 H8 K8
      go_wp2_with fail
      refine (move_is (s := { taken s k m with wait := wt + 1 }) HP.out Hm.out hc (by decide) (by omega)).mono ?_
      rintro e w9 ⟨rfl, hI9, k9⟩
      have K9 := Box.mk (KP.out.trans k9)
      have H9 := Box.mk hI9
      clear hI9 k9 HP KP
      go_wp2_with fail
      go_ret
      exact ⟨rfl, H9.out, K9.out⟩

theorem scan_is {hb b g : Nat} {s : TH} {w : World} {r : Option TH} (hI : IsTH w hb b g s) (hs : tscan s = some r) (hnow : s.now ≤ 1) :
    Calls Try.prog 65 #[.pointer (some ⟨hb, 0, none⟩)] w fun e w' => e = .returned (.bool r.isSome) ∧ IsTH w' hb b g (r.getD s) ∧ Keeps (foot3 hb b g) w w' := by
  rcases tscan_parts hs with ⟨rfl, hz⟩ | ⟨c, s', hc, hz, hne, hat, rfl⟩
  · exact scan_none hI hz
  · obtain ⟨x, hd, hbe, hr, hbig, h⟩ := tscanAt_parts hat
    rcases h with ⟨hf, last, hal, hwb, hm⟩ | ⟨hf, s2, hsf, hm⟩ | ⟨hf, hm⟩ | ⟨hf, rfl⟩
    · exact scan_weak hI hc hz hne hbe hr hbig hnow hf hal hwb hm
    · exact scan_plain hI hc hz hne hbe hr hbig hnow hf hsf hm
    · exact scan_raw hI hc hz hne hbe hr hbig hnow hf hm
    · exact scan_other (s' := taken s c (lget s c 3 - 1)) hI hc hz hne hbe hr hbig hnow hf

end Go.Proofs.Ytbjlapfcnldpoaa

/- The heap's look where none waits, and Increment, by contracts. -/
namespace Go.Proofs.Ytbjlapfcnldpoaa
set_option linter.unusedVariables false
set_option linter.unusedSimpArgs false
open Go.RowKit

set_option maxRecDepth 100000 in
theorem tlook_none {hb b g : Nat} {s : TH} {w : World} (hI : IsTH w hb b g s) (hw : s.wait = 0) :
    Calls Try.prog 66 #[.pointer (some ⟨hb, 0, none⟩)] w fun e w' => e = .returned (.bool false) ∧ w' = w := by
  have hc := hI.wait
  rw [hw] at hc
  clear hI hw
  go_enter Try.func66, Try.ntmps66
  go_wp2_with fail
  go_ret
  exact ⟨rfl, rfl⟩

theorem tstep_parts {s s' : TH} (h : tstep s = some s') : (s.marking = false ∧ tflip s = some s') ∨ (s.marking = true ∧ (tscan s = some (some s') ∨ tscan s = some none ∧ s.wait = 0 ∧ tend s = some s')) := by
  unfold tstep at h
  split at h
  · rename_i hm
    refine Or.inr ⟨hm, ?_⟩
    cases hs : tscan s with
    | none => rw [hs] at h; cases h
    | some r =>
      rw [hs] at h
      cases r with
      | some t =>
        left
        have : some t = some s' := h
        rw [this]
      | none =>
        right
        refine ⟨rfl, ?_⟩
        have h2 : (do match ← tlook s with
          | some s => return s
          | none => tend s : Option TH) = some s' := h
        unfold tlook at h2
        split at h2
        · rename_i hw
          exact ⟨hw, h2⟩
        · cases h2
  · rename_i hm
    exact Or.inl ⟨by simpa using hm, h⟩

theorem shadeFields_same {s s' : TH} {x : Nat} : ∀ {m j : Nat}, shadeFields s x m j = some s' → s'.now = s.now ∧ s'.roots = s.roots ∧ s'.marking = s.marking ∧ s'.start = s.start ∧ s'.count = s.count ∧ s'.k = s.k ∧ s'.cycles = s.cycles ∧ s'.wait = s.wait ∧ s'.tries = s.tries := by
  intro m
  induction m generalizing s with
  | zero => intro j h; simp only [shadeFields, Option.some.injEq] at h; rw [h]; exact ⟨rfl, rfl, rfl, rfl, rfl, rfl, rfl, rfl, rfl⟩
  | succ m ih =>
    intro j h
    obtain ⟨v, t, -, -, h1, h2⟩ := shadeFields_step h
    have e1 := ih h2
    have e2 := tshade_same h1
    obtain ⟨a1, a2, a3, a4, a5, a6, a7, a8, a9⟩ := e1
    obtain ⟨b1, b2, b3, b4, b5, b6, b7, b8, b9⟩ := e2
    exact ⟨by rw [a1, b1], by rw [a2, b2], by rw [a3, b3], by rw [a4, b4], by rw [a5, b5], by rw [a6, b6], by rw [a7, b7], by rw [a8, b8], by rw [a9, b9]⟩
theorem tscanAt_same {s s' : TH} {c : Nat} (h : tscanAt s c = some s') : s'.now = s.now ∧ s'.roots = s.roots ∧ s'.marking = s.marking ∧ s'.start = s.start ∧ s'.count = s.count ∧ s'.k = s.k ∧ s'.cycles = s.cycles := by
  obtain ⟨x, hd, -, -, -, h⟩ := tscanAt_parts h
  rcases h with ⟨-, last, -, -, hm⟩ | ⟨-, s2, hsf, hm⟩ | ⟨-, hm⟩ | ⟨-, rfl⟩
  · obtain ⟨a1, a2, a3, a4, a5, a6, a7, a8, a9⟩ := tmove_same hm
    exact ⟨a1, a2, a3, a4, a5, a6, a7⟩
  · obtain ⟨a1, a2, a3, a4, a5, a6, a7, a8, a9⟩ := tmove_same hm
    obtain ⟨b1, b2, b3, b4, b5, b6, b7, b8, b9⟩ := shadeFields_same hsf
    exact ⟨by rw [a1, b1]; rfl, by rw [a2, b2]; rfl, by rw [a3, b3]; rfl, by rw [a4, b4]; rfl, by rw [a5, b5]; rfl, by rw [a6, b6]; rfl, by rw [a7, b7]; rfl⟩
  · obtain ⟨a1, a2, a3, a4, a5, a6, a7, a8, a9⟩ := tmove_same hm
    exact ⟨a1, a2, a3, a4, a5, a6, a7⟩
  · exact ⟨rfl, rfl, rfl, rfl, rfl, rfl, rfl⟩
theorem tend1_same {s s' : TH} {c : Nat} (h : tend1 s c = some s') : s'.now = s.now ∧ s'.roots = s.roots ∧ s'.marking = s.marking ∧ s'.start = s.start ∧ s'.count = s.count ∧ s'.k = s.k ∧ s'.cycles = s.cycles := by
  obtain ⟨W, -, -, rfl⟩ := tend1_parts h
  exact ⟨rfl, rfl, rfl, rfl, rfl, rfl, rfl⟩
theorem tendN_same {s : TH} : ∀ {n : Nat} {s' : TH}, tendN n s = some s' → s'.now = s.now ∧ s'.roots = s.roots ∧ s'.marking = s.marking ∧ s'.start = s.start ∧ s'.count = s.count ∧ s'.k = s.k ∧ s'.cycles = s.cycles := by
  intro n
  induction n with
  | zero => intro s' h; simp only [tendN, Option.some.injEq] at h; rw [h]; exact ⟨rfl, rfl, rfl, rfl, rfl, rfl, rfl⟩
  | succ n ih =>
    intro s' h
    simp only [tendN, Option.bind_eq_some_iff] at h
    obtain ⟨t, h1, h2⟩ := h
    obtain ⟨a1, a2, a3, a4, a5, a6, a7⟩ := ih h1
    obtain ⟨b1, b2, b3, b4, b5, b6, b7⟩ := tend1_same h2
    exact ⟨by rw [b1, a1], by rw [b2, a2], by rw [b3, a3], by rw [b4, a4], by rw [b5, a5], by rw [b6, a6], by rw [b7, a7]⟩
theorem tend_same {s s' : TH} (h : tend s = some s') : s'.now = s.now ∧ s'.roots = s.roots ∧ s'.start = s.start ∧ s'.count = s.count ∧ s'.k = s.k := by
  obtain ⟨s4, h4, -, rfl⟩ := tend_parts h
  obtain ⟨a1, a2, a3, a4, a5, a6, a7⟩ := tendN_same h4
  exact ⟨a1, a2, a4, a5, a6⟩
theorem tflipN_same {s : TH} : ∀ {n : Nat} {s' : TH}, tflipN n s = some s' → s'.now = s.now ∧ s'.roots = s.roots ∧ s'.start = s.start ∧ s'.count = s.count ∧ s'.k = s.k := by
  intro n
  induction n with
  | zero => intro s' h; simp only [tflipN, Option.some.injEq] at h; rw [h]; exact ⟨rfl, rfl, rfl, rfl, rfl⟩
  | succ n ih =>
    intro s' h
    simp only [tflipN, Option.bind_eq_some_iff] at h
    obtain ⟨t, h1, h2⟩ := h
    obtain ⟨a1, a2, a3, a4, a5⟩ := ih h1
    obtain ⟨W, -, rfl⟩ := tflip1_parts h2
    exact ⟨a1, a2, a3, a4, a5⟩
theorem shadeAll_same : ∀ {l : List Nat} {s s' : TH}, shadeAll l s = some s' → s'.now = s.now ∧ s'.roots = s.roots ∧ s'.start = s.start ∧ s'.count = s.count ∧ s'.k = s.k := by
  intro l
  induction l with
  | nil => intro s s' h; simp only [shadeAll, Option.some.injEq] at h; rw [h]; exact ⟨rfl, rfl, rfl, rfl, rfl⟩
  | cons x l ih =>
    intro s s' h
    simp only [shadeAll, Option.bind_eq_some_iff] at h
    obtain ⟨t, h1, h2⟩ := h
    obtain ⟨a1, a2, a3, a4, a5⟩ := ih h2
    obtain ⟨b1, b2, b3, b4, b5, b6, b7, b8, b9⟩ := tshade_same h1
    exact ⟨by rw [a1, b1], by rw [a2, b2], by rw [a3, b4], by rw [a4, b5], by rw [a5, b6]⟩
theorem tflip_same {s s' : TH} (h : tflip s = some s') : s'.now = 1 - s.now ∧ s'.roots = s.roots ∧ s'.start = s.start ∧ s'.count = s.count ∧ s'.k = s.k := by
  obtain ⟨s4, h4, h5⟩ := tflip_parts h
  obtain ⟨a1, a2, a3, a4, a5⟩ := tflipN_same h4
  obtain ⟨b1, b2, b3, b4, b5⟩ := shadeAll_same h5
  exact ⟨by rw [b1, a1], by rw [b2, a2], by rw [b3, a3], by rw [b4, a4], by rw [b5, a5]⟩
/-- What a step leaves. -/
theorem tstep_same {s s' : TH} (h : tstep s = some s') (hn : s.now ≤ 1) : s'.now ≤ 1 ∧ s'.roots = s.roots ∧ s'.start = s.start ∧ s'.count = s.count ∧ s'.k = s.k := by
  rcases tstep_parts h with ⟨-, h1⟩ | ⟨-, h1 | ⟨-, -, h1⟩⟩
  · obtain ⟨a1, a2, a3, a4, a5⟩ := tflip_same h1
    exact ⟨by omega, a2, a3, a4, a5⟩
  · rcases tscan_parts h1 with ⟨h2, -⟩ | ⟨c, t, -, -, -, h2, h3⟩
    · cases h2
    · injection h3 with h3
      subst h3
      obtain ⟨a1, a2, a3, a4, a5, a6, a7⟩ := tscanAt_same h2
      exact ⟨by omega, a2, a4, a5, a6⟩
  · obtain ⟨a1, a2, a3, a4, a5⟩ := tend_same h1
    exact ⟨by omega, a2, a3, a4, a5⟩
theorem tincr_same : ∀ {n : Nat} {s s' : TH}, tincr n s = some s' → s.now ≤ 1 → s'.now ≤ 1 ∧ s'.roots = s.roots ∧ s'.start = s.start ∧ s'.count = s.count ∧ s'.k = s.k := by
  intro n
  induction n with
  | zero => intro s s' h hn; simp only [tincr, Option.some.injEq] at h; rw [← h]; exact ⟨hn, rfl, rfl, rfl, rfl⟩
  | succ n ih =>
    intro s s' h hn
    simp only [tincr, Option.bind_eq_some_iff] at h
    obtain ⟨t, h1, h2⟩ := h
    obtain ⟨b1, b2, b3, b4, b5⟩ := tstep_same h1 hn
    obtain ⟨a1, a2, a3, a4, a5⟩ := ih h2 b1
    exact ⟨a1, by rw [a2, b2], by rw [a3, b3], by rw [a4, b4], by rw [a5, b5]⟩
theorem tincr_step {s s' : TH} {m : Nat} (h : tincr (m + 1) s = some s') : ∃ t, tstep s = some t ∧ tincr m t = some s' := by
  simpa only [tincr, Option.bind_eq_some_iff] using h

set_option maxRecDepth 100000 in
set_option maxHeartbeats 2000000 in
theorem incr_is {hb b g n : Nat} {s s' : TH} {w : World} (hI : IsTH w hb b g s) (hs : tincr n s = some s') (hnow : s.now ≤ 1) (hn : n ≤ 1000000) :
    Calls Try.prog 18 #[.pointer (some ⟨hb, 0, none⟩), .int .i64 n] w fun e w' => e = .returned (.tuple #[]) ∧ IsTH w' hb b g s' ∧ Keeps (foot3 hb b g) w w' := by
  have H := Box.mk hI
  have Hs := Box.mk hs
  have Hnow := Box.mk hnow
  have K0 := Box.mk (Keeps.refl (foot3 hb b g) w)
  clear hI hs hnow
  go_enter Try.func18, Try.ntmps18
  go_wp2_with fail
  go_loopw [7] (fun i wr => ∃ (j : Nat) (sj : TH), j ≤ n ∧ i = .int .i64 j ∧ Box (tincr (n - j) sj = some s') ∧ Box (IsTH wr hb b g sj) ∧ Box (sj.now ≤ 1) ∧ Box (Keeps (foot3 hb b g) w wr)) (fun i _ => n - (intOf i).toNat)
  case atStart => exact ⟨0, s, Nat.zero_le _, rfl, Hs, H, Hnow, K0⟩
  case round =>
    clear H K0 Hs Hnow
    obtain ⟨j, sj, hj, rfl, HN, HS, HW, K⟩ := hrel
    by_cases hjn : j < n
    · have hj0 : (0 : Int) ≤ (j : Int) := by omega
      have hj1 : (j : Int) < (n : Int) := by omega
      obtain ⟨t, ht, hN'⟩ := tincr_step (m := n - j - 1) (by rw [show n - j - 1 + 1 = n - j by omega]; exact HN.out)
      rw [show n - j - 1 = n - (j + 1) by omega] at hN'
      have HN' := Box.mk hN'
      have HW2 : Box (t.now ≤ 1) := ⟨(tstep_same ht HW.out).1⟩
      rcases tstep_parts ht with ⟨hm, h1⟩ | ⟨hm, h1 | ⟨h1, hwt, h2⟩⟩
      · have hmk := HS.out.marking
        rw [hm] at hmk
        have H1 := Box.mk h1
        clear h1 hm ht hN' HN
        go_wp2_with fail
        refine (flip_is HS.out H1.out HW.out).mono ?_
        rintro e w2 ⟨rfl, hI2, k2⟩
        have H2 := Box.mk hI2
        have K2 := Box.mk (K.out.trans k2)
        clear hI2 k2 HS K hmk
        go_wp2_with fail
        go_roundw
        case rel => exact ⟨j + 1, t, by omega, by go_num, HN', H2, HW2, K2⟩
        case measure => simp [intOf]; omega
      · have hmk := HS.out.marking
        rw [hm] at hmk
        have H1 := Box.mk h1
        clear h1 hm ht hN' HN
        go_wp2_with fail
        refine (scan_is HS.out H1.out HW.out).mono ?_
        rintro e w2 ⟨rfl, hI2, k2⟩
        simp only [Option.isSome_some, Option.getD_some] at hI2 ⊢
        have H2 := Box.mk hI2
        have K2 := Box.mk (K.out.trans k2)
        clear hI2 k2 HS K hmk
        go_wp2_with fail
        go_roundw
        case rel => exact ⟨j + 1, t, by omega, by go_num, HN', H2, HW2, K2⟩
        case measure => simp [intOf]; omega
      · have hmk := HS.out.marking
        rw [hm] at hmk
        have H1 := Box.mk h1
        have Hend := Box.mk h2
        have Hwt := Box.mk hwt
        clear h1 hm ht hN' HN h2 hwt
        go_wp2_with fail
        refine (scan_is HS.out H1.out HW.out).mono ?_
        rintro e w2 ⟨rfl, hI2, k2⟩
        simp only [Option.isSome_none, Option.getD_none] at hI2 ⊢
        have H2 := Box.mk hI2
        have K2 := Box.mk (K.out.trans k2)
        clear hI2 k2 HS K hmk
        go_wp2_with fail
        refine (tlook_none H2.out Hwt.out).mono ?_
        rintro e w3 ⟨rfl, rfl⟩
        go_wp2_with fail
        refine (end_is H2.out Hend.out).mono ?_
        rintro e w3 ⟨rfl, hI3, k3⟩
        have H3 := Box.mk hI3
        have K3 := Box.mk (K2.out.trans k3)
        clear hI3 k3 H2 K2
        go_wp2_with fail
        go_roundw
        case rel => exact ⟨j + 1, t, by omega, by go_num, HN', H3, HW2, K3⟩
        case measure => simp [intOf]; omega
    · have hjn' : j = n := by omega
      subst hjn'
      have e : sj = s' := by
        have h := HN.out
        simp only [Nat.sub_self, tincr, Option.some.injEq] at h
        exact h
      subst e
      clear HN
      go_wp2_with fail
      go_end0
      exact ⟨rfl, HS.out, K.out⟩

end Go.Proofs.Ytbjlapfcnldpoaa

/- The heap's registers, sizes and shapes by contracts: Class, register, Root, SetRoot, Value, Free, Shape. -/
namespace Go.Proofs.Ytbjlapfcnldpoaa
set_option linter.unusedVariables false
set_option linter.unusedSimpArgs false
open Go.RowKit

theorem szAt (k : Nat) (hk : k < 4) (w : World) : (Instr.index 28 (.agg #[.int .i64 3, .int .i64 7, .int .i64 31, .int .i64 127]) (.int .i64 k)).run Try.prog w = .ok (.int .i64 (szs k : Nat)) w := by
  have : k = 0 ∨ k = 1 ∨ k = 2 ∨ k = 3 := by omega
  rcases this with rfl | rfl | rfl | rfl
  · exact szAt0 w
  · exact szAt1 w
  · exact szAt2 w
  · exact szAt3 w

/-- How many of the first k sizes are too small for n fields. -/
def cnt (n : Nat) : Nat → Nat
  | 0 => 0
  | k + 1 => cnt n k + if szs k < n then 1 else 0
theorem cnt_cls (n : Nat) (hn : n ≤ 127) : cnt n 4 = tcls n := by
  have h : ∀ n : Fin 128, cnt n.1 4 = tcls n.1 := by decide +kernel
  exact h ⟨n, by omega⟩
theorem cnt_le (n k : Nat) : cnt n k ≤ k := by
  induction k with
  | zero => exact Nat.le_refl _
  | succ k ih => unfold cnt; split <;> omega

set_option maxRecDepth 100000 in
theorem cls_is (n : Nat) (w : World) (hn : n ≤ 127) :
    Calls Try.prog 60 #[.int .i64 n] w fun e w' => e = .returned (.int .i64 (tcls n : Nat)) ∧ Keeps (fun _ => False) w w' := by
  rw [← cnt_cls n hn]
  go_enter Try.func60, Try.ntmps60
  go_wp2_with fail
  refine (sizes_is _).mono ?_
  rintro e w1 ⟨rfl, k1⟩
  have K1 := Box.mk k1
  clear k1
  go_wp2_with fail
  go_loop [3, 13] (fun c i => ∃ k x : Nat, k ≤ 4 ∧ i = .int .i64 k ∧ c = .int .i64 x ∧ x ≤ 4 ∧ Box (cnt n k = x)) (fun _ i => 4 - (intOf i).toNat)
  case atStart => exact ⟨0, 0, Nat.zero_le _, rfl, rfl, by omega, ⟨rfl⟩⟩
  case round =>
    obtain ⟨k, x, hk, rfl, rfl, hx, HX⟩ := hrel
    by_cases hk4 : k < 4
    · have hix := szAt k hk4 w1
      have hx3 : x ≤ 3 := by have := cnt_le n k; rw [HX.out] at this; omega
      obtain ⟨m, hm⟩ : ∃ m, szs k = m := ⟨_, rfl⟩
      rw [hm] at hix
      have HM := Box.mk hm
      clear hm
      by_cases hlt : m < n
      · have HN : Box (cnt n (k + 1) = x + 1) := ⟨by simp only [cnt]; rw [HX.out, HM.out, if_pos hlt]⟩
        go_wp2_with fail
        go_round
        case rel => exact ⟨k + 1, x + 1, by omega, by go_num, by go_num, by omega, HN⟩
        case measure => simp [intOf]; omega
      · have HN : Box (cnt n (k + 1) = x) := ⟨by simp only [cnt]; rw [HX.out, HM.out, if_neg hlt]; omega⟩
        go_wp2_with fail
        go_round
        case rel => exact ⟨k + 1, x, by omega, by go_num, rfl, by omega, HN⟩
        case measure => simp [intOf]; omega
    · have hk5 : ¬ ((k : Int) < 4) := by omega
      have H4 : Box (k = 4) := ⟨by omega⟩
      clear hk4
      go_wp2_with fail
      go_ret
      exact ⟨by have h5 := HX.out; rw [H4.out] at h5; rw [h5]; rfl, K1.out⟩

theorem cls_no (n : Int) (w : World) (hn : n < 0 ∨ 127 < n) :
    Calls Try.prog 60 #[.int .i64 n] w fun e w' => e = .returned (.int .i64 (-1)) ∧ w' = w := by
  rcases hn with h | h
  · go_enter Try.func60, Try.ntmps60
    go_wp2_with fail
    go_ret
    exact ⟨rfl, rfl⟩
  · go_enter Try.func60, Try.ntmps60
    go_wp2_with fail
    go_ret
    exact ⟨rfl, rfl⟩

theorem register_ok (i : Int) (p : Addr) (w : World) (h : 0 ≤ i) (h2 : i < 12) :
    Calls Try.prog 62 #[.pointer (some p), .int .i64 i] w fun e w' => e = .returned .nilIface ∧ w' = w := by
  go_enter Try.func62, Try.ntmps62
  go_wp2_with fail
  go_ret
  exact ⟨rfl, rfl⟩
theorem register_no (i : Int) (p : Addr) (w : World) (h : i < 0 ∨ 12 ≤ i) :
    Calls Try.prog 62 #[.pointer (some p), .int .i64 i] w fun e w' => e = .returned (.iface 97 (.int .i64 3)) ∧ w' = w := by
  rcases h with h | h
  · go_enter Try.func62, Try.ntmps62
    go_wp2_with fail
    go_ret
    exact ⟨rfl, rfl⟩
  · go_enter Try.func62, Try.ntmps62
    go_wp2_with fail
    go_ret
    exact ⟨rfl, rfl⟩
theorem register_nil (i : Int) (w : World) :
    Calls Try.prog 62 #[.pointer none, .int .i64 i] w fun e w' => e = .returned (.iface 97 (.int .i64 1)) ∧ w' = w := by
  go_enter Try.func62, Try.ntmps62
  go_wp2_with fail
  go_ret
  exact ⟨rfl, rfl⟩

theorem root_is {hb b g i : Nat} {s : TH} {w : World} (hI : IsTH w hb b g s) (hi : i < 12) :
    Calls Try.prog 20 #[.pointer (some ⟨hb, 0, none⟩), .int .i64 i] w fun e w' => e = .returned (.tuple #[.int .u64 (s.roots.getD i 0 : Nat), .nilIface]) ∧ w' = w := by
  have hc := hI.roots hi
  clear hI
  go_enter Try.func20, Try.ntmps20
  go_wp2_with fail
  refine (register_ok _ _ _ (by omega) (by omega)).mono ?_
  rintro e w' ⟨rfl, rfl⟩
  go_wp2_with fail
  go_ret2
  exact ⟨rfl, rfl⟩
theorem root_nil (i : Int) (w : World) :
    Calls Try.prog 20 #[.pointer none, .int .i64 i] w fun e w' => e = .returned (.tuple #[.int .u64 0, .iface 97 (.int .i64 1)]) ∧ w' = w := by
  go_enter Try.func20, Try.ntmps20
  go_wp2_with fail
  refine (register_nil _ _).mono ?_
  rintro e w' ⟨rfl, rfl⟩
  go_wp2_with fail
  go_ret2
  exact ⟨rfl, rfl⟩

/-- May a word stand where values do? -/
def tvalue (s : TH) (x : Nat) : Bool := (tplace s x).isSome || !tcell x

theorem wkind_ne2 {x : Nat} (hx : x < 18446744073709551616) (h : tcell x = false) : (wkind (x : Int) != 2) = true := by
  rw [bne_iff_ne]
  intro e
  have := (wkind_cell x hx).1.1 e
  rw [h] at this
  cases this
theorem wkind_eq2 {x : Nat} (hx : x < 18446744073709551616) (h : tcell x = true) : (wkind (x : Int) != 2) = false := by
  rw [bne_eq_false_iff_eq]
  exact (wkind_cell x hx).1.2 h
theorem isWd_nat {x : Nat} (hx : x < 18446744073709551616) : IsWd (x : Int) := by unfold IsWd; omega

set_option maxRecDepth 100000 in
theorem value_is {hb b g x : Nat} {s : TH} {w : World} (hI : IsTH w hb b g s) (hx : x < 18446744073709551616) :
    Calls Try.prog 63 #[.pointer (some ⟨hb, 0, none⟩), .int .u64 x] w fun e w' => e = .returned (.bool (tvalue s x)) ∧ Keeps (fun _ => False) w w' := by
  have H := Box.mk hI
  have Hx := Box.mk hx
  have Hk := Box.mk (wkind_is (x : Int) · (isWd_nat hx))
  clear hI hx
  obtain ⟨v, hv⟩ : ∃ v, tvalue s x = v := ⟨_, rfl⟩
  rw [hv]
  have HV := Box.mk hv
  clear hv
  go_enter Try.func63, Try.ntmps63
  go_wp2_with fail
  refine (place_is x H.out Hx.out).mono ?_
  rintro e w1 ⟨⟨p, c, ok, rfl, hok, -⟩, k1⟩
  have HO := Box.mk hok
  have K1 := Box.mk k1
  clear hok k1
  cases ok with
  | true =>
    have hvt : v = true := by rw [← HV.out]; unfold tvalue; rw [← HO.out]; rfl
    subst hvt
    go_wp2_with fail
    go_ret
    exact ⟨rfl, K1.out⟩
  | false =>
    cases htc : tcell x with
    | true =>
      have hvt : v = false := by rw [← HV.out]; unfold tvalue; rw [← HO.out, htc]; rfl
      subst hvt
      have hk2 := wkind_eq2 Hx.out htc
      clear htc
      go_wp2_with fail
      refine (Hk.out _).mono ?_
      rintro e w' ⟨rfl, rfl⟩
      go_wp2_with fail
      go_ret
      exact ⟨rfl, K1.out⟩
    | false =>
      have hvt : v = true := by rw [← HV.out]; unfold tvalue; rw [htc]; simp
      subst hvt
      have hk2 := wkind_ne2 Hx.out htc
      clear htc
      go_wp2_with fail
      refine (Hk.out _).mono ?_
      rintro e w' ⟨rfl, rfl⟩
      go_wp2_with fail
      go_ret
      exact ⟨rfl, K1.out⟩

set_option maxRecDepth 100000 in
theorem setroot_is {hb b g i x : Nat} {s : TH} {w : World} (hI : IsTH w hb b g s) (hi : i < 12) (hx : x < 18446744073709551616) (hv : tvalue s x = true) :
    Calls Try.prog 17 #[.pointer (some ⟨hb, 0, none⟩), .int .i64 i, .int .u64 x] w fun e w' => e = .returned .nilIface ∧ IsTH w' hb b g (setRoot s i x) ∧ Keeps (foot3 hb b g) w w' := by
  have H := Box.mk hI
  have Hv := Box.mk (And.intro hx hv)
  clear hI hx hv
  go_enter Try.func17, Try.ntmps17
  go_wp2_with fail
  refine (register_ok _ _ _ (by omega) (by omega)).mono ?_
  rintro e w' ⟨rfl, rfl⟩
  go_wp2_with fail
  refine (value_is H.out Hv.out.1).mono ?_
  rw [Hv.out.2]
  rintro e w1 ⟨rfl, k1⟩
  have H1 := Box.mk (H.out.keeps0 k1)
  have K1 := Box.mk (k1.mono (S' := foot3 hb b g) (fun _ _ h => h.elim))
  clear k1
  have hc := H1.out.roots hi
  have hf := H1.out.frozen (26 + i)
  have HP := Box.mk (H1.out.putRoot hi x)
  have KP := Box.mk (K1.out.setCell (p := ⟨hb, 26 + i, none⟩) (fun _ => Or.inl rfl) (.int .u64 (x : Int)))
  clear H H1 K1
  go_wp2_with fail
  go_ret
  exact ⟨rfl, HP.out, KP.out⟩
theorem setroot_range {hb b g : Nat} (i x : Int) {s : TH} {w : World} (hI : IsTH w hb b g s) (hi : i < 0 ∨ 12 ≤ i) :
    Calls Try.prog 17 #[.pointer (some ⟨hb, 0, none⟩), .int .i64 i, .int .u64 x] w fun e w' => e = .returned (.iface 97 (.int .i64 3)) ∧ w' = w := by
  clear hI
  have Hi := Box.mk hi
  clear hi
  go_enter Try.func17, Try.ntmps17
  go_wp2_with fail
  refine (register_no _ _ _ Hi.out).mono ?_
  rintro e w' ⟨rfl, rfl⟩
  go_wp2_with fail
  go_ret
  exact ⟨rfl, rfl⟩
theorem setroot_nil (i x : Int) {w : World} :
    Calls Try.prog 17 #[.pointer none, .int .i64 i, .int .u64 x] w fun e w' => e = .returned (.iface 97 (.int .i64 1)) ∧ w' = w := by
  go_enter Try.func17, Try.ntmps17
  go_wp2_with fail
  refine (register_nil _ _).mono ?_
  rintro e w' ⟨rfl, rfl⟩
  go_wp2_with fail
  go_ret
  exact ⟨rfl, rfl⟩

theorem free_is {hb b g c : Nat} {s : TH} {w : World} (hI : IsTH w hb b g s) (hc : c < 4) :
    Calls Try.prog 36 #[.pointer (some ⟨hb, 0, none⟩), .int .i64 c] w fun e w' => e = .returned (.int .i64 (lget s c 0 : Nat)) ∧ w' = w := by
  have hcell := hI.lists (i := 4 * c + 0) (by omega)
  rw [show 10 + (4 * c + 0) = 10 + c * 4 by omega] at hcell
  unfold lget
  clear hI
  go_enter Try.func36, Try.ntmps36
  go_wp2_with fail
  go_ret
  exact ⟨rfl, rfl⟩
theorem free_nil (c : Int) {w : World} :
    Calls Try.prog 36 #[.pointer none, .int .i64 c] w fun e w' => e = .returned (.int .i64 0) ∧ w' = w := by
  go_enter Try.func36, Try.ntmps36
  go_wp2_with fail
  go_ret
  exact ⟨rfl, rfl⟩

theorem shape_nil (x : Int) (w : World) :
    Calls Try.prog 22 #[.pointer none, .int .u64 x] w fun e w' => e = .returned (.tuple #[.int .i64 0, .int .i64 0, .int .i64 0, .iface 97 (.int .i64 1)]) ∧ w' = w := by
  go_enter Try.func22, Try.ntmps22
  go_wp2_with fail
  exact bodyPost_ret (v := .tuple #[.int .i64 0, .int .i64 0, .int .i64 0, .iface 97 (.int .i64 1)]) (by simp [results, Try.results22, go_sem]) rfl ⟨rfl, rfl⟩
set_option maxRecDepth 100000 in
theorem shape_no {hb b g x : Nat} {s : TH} {w : World} (hI : IsTH w hb b g s) (hx : x < 18446744073709551616) (hp : tplace s x = none) :
    Calls Try.prog 22 #[.pointer (some ⟨hb, 0, none⟩), .int .u64 x] w fun e w' => e = .returned (.tuple #[.int .i64 0, .int .i64 0, .int .i64 0, .iface 97 (.int .i64 2)]) ∧ Keeps (fun _ => False) w w' := by
  have H := Box.mk (And.intro hI (And.intro hx hp))
  clear hI hx hp
  go_enter Try.func22, Try.ntmps22
  go_wp2_with fail
  refine (place_is x H.out.1 H.out.2.1).mono ?_
  rintro e w1 ⟨⟨p, c, ok, rfl, hok, -⟩, k1⟩
  rw [H.out.2.2] at hok
  subst hok
  have K1 := Box.mk k1
  clear k1 H
  simp only [Option.isSome_none]
  go_wp2_with fail
  exact bodyPost_ret (v := .tuple #[.int .i64 0, .int .i64 0, .int .i64 0, .iface 97 (.int .i64 2)]) (by simp [results, Try.results22, go_sem]) rfl ⟨rfl, K1.out⟩
set_option maxRecDepth 100000 in
theorem shape_is {hb b g x q k h : Nat} {s : TH} {w : World} (hI : IsTH w hb b g s) (hx : x < 18446744073709551616) (hp : tplace s x = some (q, k)) (hr : rdh s.W q = some h) :
    Calls Try.prog 22 #[.pointer (some ⟨hb, 0, none⟩), .int .u64 x] w fun e w' => e = .returned (.tuple #[.int .i64 (hform h : Nat), .int .i64 (htag h : Nat), .int .i64 (hn h : Nat), .nilIface]) ∧ IsTH w' hb b g s ∧ Keeps (foot3 hb b g) w w' := by
  have H := Box.mk (And.intro hI (And.intro hx hp))
  have HR := Box.mk hr
  obtain ⟨vf, hvf⟩ : ∃ vf, hform h = vf := ⟨_, rfl⟩
  obtain ⟨vt, hvt⟩ : ∃ vt, htag h = vt := ⟨_, rfl⟩
  obtain ⟨vm, hvm⟩ : ∃ vm, hmark h = vm := ⟨_, rfl⟩
  obtain ⟨vn, hvn⟩ : ∃ vn, hn h = vn := ⟨_, rfl⟩
  have Hat : Box (∀ W, IsTH W hb b g s → Calls Try.prog 77 #[.pointer (some ⟨hb, 0, none⟩), .int .i64 q] W fun e w' => e = .returned (.agg #[.int .i64 (vf : Int), .int .i64 (vt : Int), .int .i64 (vm : Int), .int .i64 (vn : Int)]) ∧ IsTH w' hb b g s ∧ Keeps (foot3 hb b g) W w') := ⟨fun W hW => by
    have := at_is q hW hr
    rw [hvf, hvt, hvm, hvn] at this
    exact this⟩
  rw [hvf, hvt, hvn]
  clear hI hx hp hr hvf hvt hvm hvn HR
  go_enter Try.func22, Try.ntmps22
  go_wp2_with fail
  refine (place_is x H.out.1 H.out.2.1).mono ?_
  rintro e w1 ⟨⟨p, c, ok, rfl, hok, hpc⟩, k1⟩
  obtain ⟨rfl, rfl⟩ := hpc _ _ H.out.2.2
  rw [H.out.2.2] at hok
  subst hok
  have H1 := Box.mk (H.out.1.keeps0 k1)
  have K1 := Box.mk (k1.mono (S' := foot3 hb b g) (fun _ _ h => h.elim))
  clear k1 H hpc
  simp only [Option.isSome_some]
  go_wp2_with fail
  refine (Hat.out _ H1.out).mono ?_
  rintro e w2 ⟨rfl, hI2, k2⟩
  have H2 := Box.mk (hI2.keeps0 ((Keeps.refl (fun _ => False) w2).alloc (.cells #[.int .i64 (vf : Int), .int .i64 (vt : Int), .int .i64 (vm : Int), .int .i64 (vn : Int)] 110)))
  have K2 := Box.mk ((K1.out.trans k2).alloc (.cells #[.int .i64 (vf : Int), .int .i64 (vt : Int), .int .i64 (vm : Int), .int .i64 (vn : Int)] 110))
  clear hI2 k2 H1 K1
  go_wp2_with fail
  go_quiet (fail)
  go_wp2_with fail
  exact bodyPost_ret (v := .tuple #[.int .i64 (vf : Int), .int .i64 (vt : Int), .int .i64 (vn : Int), .nilIface]) (by simp [results, Try.results22, go_sem]) rfl ⟨rfl, H2.out.keeps0 ((Keeps.refl (fun _ => False) _).drewN _), K2.out.drewN _⟩

end Go.Proofs.Ytbjlapfcnldpoaa

/- The heap's lay by its contract: all lists made, all cells free. -/
namespace Go.Proofs.Ytbjlapfcnldpoaa
set_option linter.unusedVariables false
set_option linter.unusedSimpArgs false
open Go.RowKit

theorem oInit_parts {W W' : List Nat} {p : Nat} (h : oInit W p = some W') : p + 2 < W.length ∧ W' = setAll W [(p, 1, p), (p, 2, p)] := by
  unfold oInit isPlace at h
  simp only [decide_eq_true_eq] at h
  split at h
  · rename_i h1; injection h with h; exact ⟨h1, h.symm⟩
  · cases h
theorem oinit_is {b g p : Nat} {w : World} {W W' : List Nat} (hI : IsW w b g W) (h : oInit W p = some W') :
    Calls Try.prog 89 #[.pointer (some ⟨b, 0, none⟩), .int .i64 p] w fun e w' => e = .returned .nilIface ∧ IsW w' b g W' ∧ Keeps (foot b g) w w' := by
  obtain ⟨h1, rfl⟩ := oInit_parts h
  exact rinit_is hI h1
theorem oinsert_is {b g p q : Nat} {w : World} {W W' : List Nat} (hI : IsW w b g W) (h : oInsert W p q = some W') :
    Calls Try.prog 72 #[.pointer (some ⟨b, 0, none⟩), .int .i64 p, .int .i64 q] w fun e w' => e = .returned .nilIface ∧ IsW w' b g W' ∧ Keeps (foot b g) w w' := by
  obtain ⟨h1, h2, h3, rfl⟩ := oInsert_parts h
  exact rinsert_is hI h1 h2 rfl h3
theorem oremove_is {b g q : Nat} {w : World} {W W' : List Nat} (hI : IsW w b g W) (h : oRemove W q = some W') :
    Calls Try.prog 71 #[.pointer (some ⟨b, 0, none⟩), .int .i64 q] w fun e w' => e = .returned .nilIface ∧ IsW w' b g W' ∧ Keeps (foot b g) w w' := by
  obtain ⟨h1, h2, h3, rfl⟩ := oRemove_parts h
  exact rremove_is hI h1 rfl rfl h2 h3

theorem initAll_step {W W' : List Nat} {m i : Nat} (h : initAll W (m + 1) i = some W') : ∃ W1, oInit W (3 * i) = some W1 ∧ initAll W1 m (i + 1) = some W' := by
  simpa only [initAll, Option.bind_eq_some_iff] using h
theorem layC_step {W W' : List Nat} {s c n m i : Nat} (h : layC W s c n (m + 1) i = some W') : ∃ last W1 W2, oAhead W (thead c 0) = some last ∧ oInit W (s + i * (3 + n)) = some W1 ∧ oInsert W1 last (s + i * (3 + n)) = some W2 ∧ layC W2 s c n m (i + 1) = some W' := by
  simp only [layC, Option.bind_eq_bind, Option.bind_eq_some_iff] at h
  obtain ⟨a, h1, b, h2, c, h3, h4⟩ := h
  exact ⟨a, b, c, h1, h2, h3, h4⟩
def lay1 (s : TH) (c : Nat) : Option TH := (layC s.W (s.start.getD c 0) c (szs c) (s.count.getD c 0) 0).map fun W => lset { s with W := W } c 0 (s.count.getD c 0)
def layN : Nat → TH → Option TH
  | 0, s => some s
  | c + 1, s => (layN c s).bind fun s => lay1 s c
def tlay (s : TH) : Option TH := (initAll s.W 17 0).bind fun W => layN 4 { s with W := W }
theorem layN_step {s s4 : TH} (h : layN 4 s = some s4) {k : Nat} (hk : k < 4) {sk : TH} (hs : layN k s = some sk) : ∃ s', lay1 sk k = some s' ∧ layN (k + 1) s = some s' := by
  have hall : ∀ j, j ≤ 4 → (layN j s).isSome = true := by
    have h4 : (layN 4 s).isSome = true := by rw [h]; rfl
    have down : ∀ j, (layN (j + 1) s).isSome = true → (layN j s).isSome = true := by
      intro j hj
      cases hn : layN j s with
      | none => simp [layN, hn] at hj
      | some x => rfl
    intro j hj
    have h3 := down 3 h4
    have h2 := down 2 h3
    have h1 := down 1 h2
    have h0 := down 0 h1
    match j, hj with
    | 0, _ => exact h0
    | 1, _ => exact h1
    | 2, _ => exact h2
    | 3, _ => exact h3
    | 4, _ => exact h4
  have := hall (k + 1) (by omega)
  simp only [layN, hs, Option.bind_some] at this ⊢
  cases ht : lay1 sk k with
  | none => rw [ht] at this; cases this
  | some s' => exact ⟨s', rfl, rfl⟩
theorem lay1_parts {s s' : TH} {c : Nat} (h : lay1 s c = some s') : ∃ W, layC s.W (s.start.getD c 0) c (szs c) (s.count.getD c 0) 0 = some W ∧ s' = lset { s with W := W } c 0 (s.count.getD c 0) := by
  unfold lay1 at h
  simp only [Option.map_eq_some_iff] at h
  obtain ⟨W, h1, h2⟩ := h
  exact ⟨W, h1, h2.symm⟩
theorem layN_same {s : TH} : ∀ {n : Nat} {s' : TH}, layN n s = some s' → s'.start = s.start ∧ s'.count = s.count := by
  intro n
  induction n with
  | zero => intro s' h; simp only [layN, Option.some.injEq] at h; rw [h]; exact ⟨rfl, rfl⟩
  | succ n ih =>
    intro s' h
    simp only [layN, Option.bind_eq_some_iff] at h
    obtain ⟨t, h1, h2⟩ := h
    obtain ⟨a1, a2⟩ := ih h1
    obtain ⟨W, -, rfl⟩ := lay1_parts h2
    exact ⟨a1, a2⟩
theorem szs_le (k : Nat) : szs k ≤ 127 := by
  unfold szs
  match k with
  | 0 => simp
  | 1 => simp
  | 2 => simp
  | 3 => simp
  | n + 4 => simp

set_option maxRecDepth 100000 in
set_option maxHeartbeats 4000000 in
theorem lay_is {hb b g : Nat} {s s' : TH} {w : World} (hI : IsTH w hb b g s) (hs : tlay s = some s') (hst : ∀ c, s.start.getD c 0 ≤ 1048576) (hct : ∀ c, s.count.getD c 0 ≤ 4000) :
    Calls Try.prog 57 #[.pointer (some ⟨hb, 0, none⟩)] w fun e w' => e = .returned (.tuple #[]) ∧ IsTH w' hb b g s' ∧ Keeps (foot3 hb b g) w w' := by
  unfold tlay at hs
  simp only [Option.bind_eq_some_iff] at hs
  obtain ⟨W0, hs0, hs4⟩ := hs
  have H := Box.mk hI
  have Hs0 := Box.mk hs0
  have Hs4 := Box.mk hs4
  have Hb := Box.mk (And.intro hst hct)
  have K0 := Box.mk (Keeps.refl (foot3 hb b g) w)
  clear hI hs0 hs4 hst hct
  go_enter Try.func57, Try.ntmps57
  go_wp2_with fail
  go_loopw [2] (fun i wr => ∃ (k p : Nat) (W : List Nat), k ≤ 17 ∧ p ≤ 51 ∧ Box (p = 3 * k) ∧ i = .int .i64 p ∧ Box (initAll W (17 - k) k = some W0) ∧ Box (IsTH wr hb b g { s with W := W }) ∧ Box (Keeps (foot3 hb b g) w wr)) (fun i _ => 51 - (intOf i).toNat)
  case atStart => exact ⟨0, 0, s.W, by omega, by omega, ⟨rfl⟩, rfl, Hs0, H, K0⟩
  case round =>
    clear H K0 Hs0
    obtain ⟨k, p, W, hk, hp, HP, rfl, HN, HS, K⟩ := hrel
    by_cases hp51 : p < 51
    · have hk17 : k < 17 := by have := HP.out; omega
      obtain ⟨W1, h1, h2⟩ := initAll_step (m := 17 - k - 1) (by rw [show 17 - k - 1 + 1 = 17 - k by omega]; exact HN.out)
      rw [show 17 - k - 1 = 17 - (k + 1) by omega] at h2
      rw [← HP.out] at h1
      have H1 := Box.mk h1
      have H2 := Box.mk h2
      have hstore := HS.out.store
      clear h1 h2 HN
      go_wp2_with fail
      refine (oinit_is HS.out.iw H1.out).mono ?_
      rintro e w2 ⟨rfl, hI2, k2⟩
      have H3 : Box (IsTH w2 hb b g { s with W := W1 }) := ⟨HS.out.ring k2 hI2⟩
      have K2 := Box.mk (K.out.trans (k2.mono (S' := foot3 hb b g) (fun i _ h => Or.inr h)))
      have HPn : Box (p + 3 = 3 * (k + 1)) := ⟨by have := HP.out; omega⟩
      have hp48 : p + 3 ≤ 51 := by have := HP.out; omega
      clear hI2 k2 HS K hstore
      go_wp2_with fail
      go_roundw
      case rel => exact ⟨k + 1, p + 3, W1, by omega, by omega, HPn, by go_num, H2, H3, K2⟩
      case measure => simp [intOf]; omega
    · have hk17 : k = 17 := by have := HP.out; omega
      subst hk17
      have e : W = W0 := by
        have h := HN.out
        simp only [Nat.sub_self, initAll, Option.some.injEq] at h
        exact h
      subst e
      clear HN HP
      go_wp2_with fail
      refine (sizes_is _).mono ?_
      rintro e w1 ⟨rfl, k1⟩
      have H1 := Box.mk (HS.out.keeps0 k1)
      have K1 := Box.mk (K.out.trans (k1.mono (S' := foot3 hb b g) (fun _ _ h => h.elim)))
      clear k1 HS K
      go_wp2_with fail
      go_loopw [20] (fun i wr => ∃ (k : Nat) (sk : TH), k ≤ 4 ∧ i = .int .i64 k ∧ Box (layN k { s with W := W } = some sk) ∧ Box (IsTH wr hb b g sk) ∧ Box (Keeps (foot3 hb b g) w wr)) (fun i _ => 4 - (intOf i).toNat)
      case atStart => exact ⟨0, _, Nat.zero_le _, rfl, ⟨rfl⟩, H1, K1⟩
      case round =>
        clear H1 K1
        obtain ⟨k, sk, hk, rfl, HN, HS, K⟩ := hrel
        obtain ⟨wo, hwo⟩ : ∃ wo : World, wo = wr := ⟨_, rfl⟩
        subst hwo
        by_cases hk4 : k < 4
        · have hk0 : (0 : Int) ≤ (k : Int) := by omega
          have hk1 : (k : Int) < 4 := by omega
          obtain ⟨s1, ht, hN'⟩ := layN_step Hs4.out hk4 HN.out
          obtain ⟨hsm1, hsm2⟩ := layN_same HN.out
          obtain ⟨Wc, hlc, rfl⟩ := lay1_parts ht
          have hb1 := Hb.out.1 k
          have hb2 := Hb.out.2 k
          have e1 : sk.start.getD k 0 = s.start.getD k 0 := by rw [hsm1]
          have e2 : sk.count.getD k 0 = s.count.getD k 0 := by rw [hsm2]
          rw [← e1] at hb1
          rw [← e2] at hb2
          obtain ⟨st, hst⟩ : ∃ x, sk.start.getD k 0 = x := ⟨_, rfl⟩
          obtain ⟨n, hn⟩ : ∃ x, sk.count.getD k 0 = x := ⟨_, rfl⟩
          obtain ⟨sz, hsz⟩ : ∃ x, szs k = x := ⟨_, rfl⟩
          have hszb := szs_le k
          have hix := fun w => szAt k hk4 w
          have hcc := HS.out.count (i := k) hk4
          rw [hn] at hb2 hlc hN' hcc
          rw [hst] at hb1 hlc
          rw [hsz] at hix hlc hszb
          have HST := Box.mk (And.intro hst hn)
          have HLC := Box.mk hlc
          have HN' := Box.mk hN'
          clear hN' ht hlc hst hn hsz e1 e2 hsm1 hsm2 HN
          go_wp2_with fail
          clear hcc
          go_loopw [30] (fun i wr => ∃ (j : Nat) (W' : List Nat), j ≤ n ∧ i = .int .i64 j ∧ Box (layC W' st k sz (n - j) j = some Wc) ∧ Box (IsTH wr hb b g { sk with W := W' }) ∧ Box (Keeps (foot3 hb b g) w wr)) (fun i _ => n - (intOf i).toNat)
          case atStart => exact ⟨0, sk.W, Nat.zero_le _, rfl, HLC, HS, K⟩
          case round =>
            clear HS K HLC
            obtain ⟨j, W', hj, rfl, HL, HS, K⟩ := hrel
            by_cases hjn : j < n
            · obtain ⟨last, W1, W2, h1, h2, h3, h4⟩ := layC_step (m := n - j - 1) (by rw [show n - j - 1 + 1 = n - j by omega]; exact HL.out)
              rw [show n - j - 1 = n - (j + 1) by omega] at h4
              obtain ⟨q, hq⟩ : ∃ q, j * (3 + sz) = q := ⟨_, rfl⟩
              have hqb : q ≤ 520000 := by
                rw [← hq]
                have := Nat.mul_le_mul (show j ≤ 4000 by omega) (show 3 + sz ≤ 130 by omega)
                omega
              have hmul : IntKind.i64.wrap ((j : Int) * (3 + (sz : Int))) = (q : Int) := by
                have e : (j : Int) * (3 + (sz : Int)) = (q : Int) := by rw [← hq]; push_cast; rfl
                rw [e]
                simp only [IntKind.wrap]
                simp [IntKind.bits, IntKind.signed]
                omega
              have hmul2 : wrap64 ((j : Int) * (3 + (sz : Int))) = (q : Int) := by
                have e : (j : Int) * (3 + (sz : Int)) = (q : Int) := by rw [← hq]; push_cast; rfl
                rw [e]
                unfold wrap64
                omega
              rw [hq] at h2 h3
              obtain ⟨z, hz⟩ : ∃ z, st + q = z := ⟨_, rfl⟩
              have hzi : (st : Int) + (q : Int) = (z : Int) := by omega
              rw [hz] at h2 h3
              obtain ⟨p0, hp0⟩ : ∃ p, thead k 0 = p := ⟨_, rfl⟩
              have hd0 : ∀ W, Calls Try.prog 70 #[.int .i64 k, .int .i64 0] W fun e w' => e = .returned (.int .i64 p0) ∧ w' = W := fun W => by rw [← hp0]; exact head_is k 0 W (by omega) (by omega)
              rw [hp0] at h1
              have Hd := Box.mk hd0
              have H1 := Box.mk h1
              have H2 := Box.mk h2
              have H3 := Box.mk h3
              have H4 := Box.mk h4
              have hsc := HS.out.start (i := k) (by omega)
              simp only at hsc
              rw [HST.out.1] at hsc
              have hstore := HS.out.store
              clear h1 h2 h3 h4 hd0 hp0 hz hq HL
              go_wp2_with fail
              clear hsc
              go_region_held3 (fun w' => w'.cell? ⟨hb, 0, none⟩ = some (.pointer (some ⟨b, 0, none⟩))) (first | exact kj.cell hstore (by have := HS.out.ne; unfold foot; simp only; omega) | go_keep) (first | (go_at_call 70; refine (Hd.out _).mono ?_; rintro e w2 ⟨rfl, rfl⟩) | (go_at_call 90; refine (oahead_is (w := wr.drew) (HS.out.keeps0 ((Keeps.refl (fun _ => False) wr).drew)).iw H1.out).mono ?_; rintro e w3 ⟨rfl, hI3, kj⟩))
              have kj' : Keeps (foot b g) wr w3 := ⟨kj.os, kj.tape, kj.output, kj.size, kj.block⟩
              have HA := Box.mk (HS.out.ring kj' hI3)
              have KA := Box.mk (K.out.trans (kj'.mono (S' := foot3 hb b g) (fun i _ h => Or.inr h)))
              have hstore3 := HA.out.store
              clear kj kj' hI3 hstore HS K hmul hmul2
              go_wp2_with fail
              refine (oinit_is HA.out.iw H2.out).mono ?_
              rintro e w4 ⟨rfl, hI4, k4⟩
              have HB : Box (IsTH w4 hb b g { sk with W := W1 }) := ⟨HA.out.ring k4 hI4⟩
              have KB := Box.mk (KA.out.trans (k4.mono (S' := foot3 hb b g) (fun i _ h => Or.inr h)))
              have hstore4 := HB.out.store
              clear hI4 k4 HA KA hstore3
              go_wp2_with fail
              refine (oinsert_is HB.out.iw H3.out).mono ?_
              rintro e w5 ⟨rfl, hI5, k5⟩
              have HC : Box (IsTH w5 hb b g { sk with W := W2 }) := ⟨HB.out.ring k5 hI5⟩
              have KC := Box.mk (KB.out.trans (k5.mono (S' := foot3 hb b g) (fun i _ h => Or.inr h)))
              clear hI5 k5 HB KB hstore4
              go_wp2_with fail
              go_roundw
              case rel => exact ⟨j + 1, W2, by omega, by go_num, H4, HC, KC⟩
              case measure => simp [intOf]; omega
            · have hjn' : j = n := by omega
              subst hjn'
              have e : W' = Wc := by
                have h := HL.out
                simp only [Nat.sub_self, layC, Option.some.injEq] at h
                exact h
              subst e
              have hcc := HS.out.count (i := k) hk4
              simp only at hcc
              rw [HST.out.2] at hcc
              have hlc := HS.out.lists (i := 4 * k + 0) (by omega)
              have hlf := HS.out.frozen (10 + (4 * k + 0))
              have hput := HS.out.putList (i := 4 * k + 0) (by omega) j
              rw [show 10 + (4 * k + 0) = 10 + k * 4 by omega] at hlc hlf hput
              have HP := Box.mk (hput.keeps0 ((Keeps.refl (fun _ => False) _).drew))
              have KP := Box.mk (((K.out.setCell (p := ⟨hb, 10 + k * 4, none⟩) (fun _ => Or.inl rfl) (.int .i64 (j : Int)))).drew)
              clear hput HS K HL
              go_wp2_with fail
              go_region
              clear hcc hlc hlf
              go_wp2_with fail
              go_roundw
              case rel => exact ⟨k + 1, _, by omega, by go_num, HN', HP, KP⟩
              case measure => simp [intOf]; omega
        · have hk4' : k = 4 := by omega
          subst hk4'
          have e : sk = s' := by
            have h := HN.out
            rw [Hs4.out] at h
            injection h with h
            exact h.symm
          subst e
          go_wp2_with fail
          go_end0
          exact ⟨rfl, HS.out, K.out⟩

end Go.Proofs.Ytbjlapfcnldpoaa

/- A new heap, by contract. -/
namespace Go.Proofs.Ytbjlapfcnldpoaa
set_option linter.unusedVariables false
set_option linter.unusedSimpArgs false
open Go.RowKit

/-- A heap's cells before it has a store. -/
def hcellsP (p : Value) (s : TH) : List Value := p :: (hcells 0 s).tail
structure IsRaw (w : World) (hb : Nat) (p : Value) (s : TH) : Prop where
  head : w.heap[hb]? = some (.cells (hcellsP p s).toArray 95 (0, 0))
  ls : THlen s
theorem hP_get (p : Value) (s : TH) (i : Nat) : (hcellsP p s)[1 + i]? = (hcells 0 s)[1 + i]? := by
  rw [Nat.add_comm]; rfl
theorem hP_set {p v : Value} {s s' : TH} {i : Nat} (h : (hcells 0 s).set (1 + i) v = hcells 0 s') : (hcellsP p s).set (1 + i) v = hcellsP p s' := by
  unfold hcellsP
  rw [← h, Nat.add_comm]
  rfl
theorem hs_start (b : Nat) {s : TH} (h : THlen s) {i : Nat} (hi : i < 5) (x : Nat) : (hcells b s).set (1 + i) (nI x) = hcells b { s with start := s.start.set i x } := by
  have := set_seg (A := [.pointer (some ⟨b, 0, none⟩)]) (l := s.start) (C := s.count.map nI ++ (s.lists.map nI ++ (s.roots.map nU ++ [nI s.k, nI s.now, .bool s.marking, nI s.cycles, nI s.wait, nI s.tries]))) (f := nI) 1 i x rfl (by rw [h.a]; exact hi)
  simpa [hcells] using this
section
variable {w w' : World} {hb : Nat} {p : Value} {s : TH}
theorem IsRaw.cell (h : IsRaw w hb p s) (i : Nat) : w.cell? ⟨hb, i, none⟩ = (hcellsP p s)[i]? := by
  rw [cell_of_heap h.head]
  simp
theorem IsRaw.frozen (h : IsRaw w hb p s) (i : Nat) : w.frozen? ⟨hb, i, none⟩ = false := frozen_of_heap h.head i
theorem IsRaw.keeps (h : IsRaw w hb p s) {S : Nat → Prop} (k : Keeps S w w') (h1 : ¬ S hb) : IsRaw w' hb p s := ⟨k.heap h.head h1, h.ls⟩
theorem IsRaw.start (h : IsRaw w hb p s) {i : Nat} (hi : i < 5) : w.cell? ⟨hb, 1 + i, none⟩ = some (.int .i64 (s.start.getD i 0 : Nat)) := by rw [h.cell, hP_get, hc_start 0 h.ls hi]; rfl
theorem IsRaw.roots (h : IsRaw w hb p s) {i : Nat} (hi : i < 12) : w.cell? ⟨hb, 26 + i, none⟩ = some (.int .u64 (s.roots.getD i 0 : Nat)) := by
  rw [show 26 + i = 1 + (25 + i) by omega, h.cell, hP_get, show 1 + (25 + i) = 26 + i by omega, hc_roots 0 h.ls hi]; rfl
theorem IsRaw.putStart (h : IsRaw w hb p s) {i : Nat} (hi : i < 5) (x : Nat) : IsRaw (w.setCell ⟨hb, 1 + i, none⟩ (.int .i64 x)) hb p { s with start := s.start.set i x } := by
  refine ⟨?_, ⟨by simpa using h.ls.a, h.ls.b, h.ls.c, h.ls.d⟩⟩
  rw [heap_setCell_at h.head, ← hP_set (hs_start 0 h.ls hi x)]
  simp [nI]
theorem IsRaw.fill (h : IsRaw w hb p s) {b g : Nat} {W : List Nat} (hw : IsW w b g W) (h1 : hb ≠ b) (h2 : hb ≠ g) : IsTH (w.setCell ⟨hb, 0, none⟩ (.pointer (some ⟨b, 0, none⟩))) hb b g { s with W := W } := by
  have k : Keeps (fun z => z = hb) w (w.setCell ⟨hb, 0, none⟩ (.pointer (some ⟨b, 0, none⟩))) := (Keeps.refl (fun z => z = hb) w).setCell (p := ⟨hb, 0, none⟩) (fun _ => rfl) _
  refine ⟨?_, hw.keeps k (fun e => h1 e.symm) (fun e => h2 e.symm), ⟨h.ls.a, h.ls.b, h.ls.c, h.ls.d⟩, h1, h2⟩
  rw [heap_setCell_at h.head]
  simp [hcellsP, hcells]
end

/-- Before the store is there. -/
def raw0 (c0 c1 c2 c3 k : Nat) : TH := ⟨[0, 0, 0, 0, 0], [c0, c1, c2, c3], [0, 0, 0, 0, 0, 0, 0, 0, 0, 0, 0, 0, 0, 0, 0, 0], [0, 0, 0, 0, 0, 0, 0, 0, 0, 0, 0, 0], k, 0, false, 0, 0, 0, []⟩
def starting (c0 c1 c2 c3 k : Nat) : List Nat := (starts [c0, c1, c2, c3]).take k ++ List.replicate (5 - k) 0
theorem starting_set (c0 c1 c2 c3 k : Nat) (hk : k < 5) : (starting c0 c1 c2 c3 k).set k ((starts [c0, c1, c2, c3]).getD k 0) = starting c0 c1 c2 c3 (k + 1) := by
  have : k = 0 ∨ k = 1 ∨ k = 2 ∨ k = 3 ∨ k = 4 := by omega
  rcases this with rfl | rfl | rfl | rfl | rfl <;> rfl
theorem starts_step (c0 c1 c2 c3 k : Nat) (hk : k < 4) : (starts [c0, c1, c2, c3]).getD (k + 1) 0 = (starts [c0, c1, c2, c3]).getD k 0 + [c0, c1, c2, c3].getD k 0 * (3 + szs k) := by
  have : k = 0 ∨ k = 1 ∨ k = 2 ∨ k = 3 := by omega
  rcases this with rfl | rfl | rfl | rfl <;> simp [starts, szs]
theorem starts_le (c0 c1 c2 c3 k : Nat) (h0 : c0 ≤ 4000) (h1 : c1 ≤ 4000) (h2 : c2 ≤ 4000) (h3 : c3 ≤ 4000) : (starts [c0, c1, c2, c3]).getD k 0 ≤ 720051 := by
  match k with
  | 0 => simp [starts]
  | 1 => simp [starts]; omega
  | 2 => simp [starts]; omega
  | 3 => simp [starts]; omega
  | 4 => simp [starts]; omega
  | n + 5 => simp [starts]
theorem starting_len (c0 c1 c2 c3 k : Nat) (hk : k ≤ 5) : (starting c0 c1 c2 c3 k).length = 5 := by
  unfold starting
  simp [starts]
  omega
theorem get4_le (c0 c1 c2 c3 k : Nat) (h0 : c0 ≤ 4000) (h1 : c1 ≤ 4000) (h2 : c2 ≤ 4000) (h3 : c3 ≤ 4000) : [c0, c1, c2, c3].getD k 0 ≤ 4000 := by
  match k with
  | 0 => exact h0
  | 1 => exact h1
  | 2 => exact h2
  | 3 => exact h3
  | n + 4 => simp

/-- The counts' block. -/
structure IsCounts (w : World) (cb c0 c1 c2 c3 : Nat) : Prop where
  head : w.heap[cb]? = some (.cells #[.int .i64 (c0 : Int), .int .i64 (c1 : Int), .int .i64 (c2 : Int), .int .i64 (c3 : Int)] 28 (0, 0))
theorem IsCounts.keeps {w w' : World} {cb c0 c1 c2 c3 : Nat} (h : IsCounts w cb c0 c1 c2 c3) {S : Nat → Prop} (k : Keeps S w w') (h1 : ¬ S cb) : IsCounts w' cb c0 c1 c2 c3 := ⟨k.heap h.head h1⟩
theorem IsCounts.cell {w : World} {cb c0 c1 c2 c3 : Nat} (h : IsCounts w cb c0 c1 c2 c3) {k : Nat} (hk : k < 4) : w.cell? ⟨cb, k, none⟩ = some (.int .i64 ([c0, c1, c2, c3].getD k 0 : Nat)) := by
  rw [cell_of_heap h.head]
  have : k = 0 ∨ k = 1 ∨ k = 2 ∨ k = 3 := by omega
  rcases this with rfl | rfl | rfl | rfl <;> rfl

/-- The state before lay. -/
def pre (c0 c1 c2 c3 k : Nat) : TH := ⟨starts [c0, c1, c2, c3], [c0, c1, c2, c3], [0, 0, 0, 0, 0, 0, 0, 0, 0, 0, 0, 0, 0, 0, 0, 0], List.replicate 12 12, k, 0, false, 0, 0, 0, List.replicate ((starts [c0, c1, c2, c3]).getD 4 0) 0⟩
def rooting (k : Nat) : List Nat := List.replicate k 12 ++ List.replicate (12 - k) 0
theorem rooting_set (k : Nat) (hk : k < 12) : (rooting k).set k 12 = rooting (k + 1) := by
  have : k = 0 ∨ k = 1 ∨ k = 2 ∨ k = 3 ∨ k = 4 ∨ k = 5 ∨ k = 6 ∨ k = 7 ∨ k = 8 ∨ k = 9 ∨ k = 10 ∨ k = 11 := by omega
  rcases this with rfl | rfl | rfl | rfl | rfl | rfl | rfl | rfl | rfl | rfl | rfl | rfl <;> rfl

set_option maxRecDepth 100000 in
set_option maxHeartbeats 4000000 in
theorem tnew_is {c0 c1 c2 c3 k : Nat} {s : TH} {w : World} (h0 : c0 ≤ 4000) (h1 : c1 ≤ 4000) (h2 : c2 ≤ 4000) (h3 : c3 ≤ 4000) (hk1 : 1 ≤ k) (hk2 : k ≤ 64) (hs : tlay (pre c0 c1 c2 c3 k) = some s) :
    Calls Try.prog 14 #[.agg #[.int .i64 (c0 : Int), .int .i64 (c1 : Int), .int .i64 (c2 : Int), .int .i64 (c3 : Int)], .int .i64 k] w fun e w' => ∃ hb b g, e = .returned (.tuple #[.pointer (some ⟨hb, 0, none⟩), .nilIface]) ∧ IsTH w' hb b g s ∧
      Keeps (fun _ => False) w w' ∧ w.heap.size ≤ hb ∧ w.heap.size ≤ b ∧ w.heap.size ≤ g := by
  have Hs := Box.mk hs
  have Hc := Box.mk (And.intro h0 (And.intro h1 (And.intro h2 h3)))
  clear hs
  go_enter Try.func14, Try.ntmps14
  go_wp2_with fail
  have HC0 : IsCounts ((w.alloc (.cells #[.int .i64 (c0 : Int), .int .i64 (c1 : Int), .int .i64 (c2 : Int), .int .i64 (c3 : Int)] 28)).alloc (.cells #[.pointer none, .int .i64 0, .int .i64 0, .int .i64 0, .int .i64 0, .int .i64 0, .int .i64 (c0 : Int), .int .i64 (c1 : Int), .int .i64 (c2 : Int), .int .i64 (c3 : Int), .int .i64 0, .int .i64 0, .int .i64 0, .int .i64 0, .int .i64 0, .int .i64 0, .int .i64 0, .int .i64 0, .int .i64 0, .int .i64 0, .int .i64 0, .int .i64 0, .int .i64 0, .int .i64 0, .int .i64 0, .int .i64 0, .int .u64 0, .int .u64 0, .int .u64 0, .int .u64 0, .int .u64 0, .int .u64 0, .int .u64 0, .int .u64 0, .int .u64 0, .int .u64 0, .int .u64 0, .int .u64 0, .int .i64 (k : Int), .int .i64 0, .bool false, .int .i64 0, .int .i64 0, .int .i64 0] 95)) w.heap.size c0 c1 c2 c3 :=
    ⟨Keeps.heap ((Keeps.refl (fun _ => False) _).alloc _) (heap_alloc_new w _) (fun h => h)⟩
  have HR0 : IsRaw ((w.alloc (.cells #[.int .i64 (c0 : Int), .int .i64 (c1 : Int), .int .i64 (c2 : Int), .int .i64 (c3 : Int)] 28)).alloc (.cells #[.pointer none, .int .i64 0, .int .i64 0, .int .i64 0, .int .i64 0, .int .i64 0, .int .i64 (c0 : Int), .int .i64 (c1 : Int), .int .i64 (c2 : Int), .int .i64 (c3 : Int), .int .i64 0, .int .i64 0, .int .i64 0, .int .i64 0, .int .i64 0, .int .i64 0, .int .i64 0, .int .i64 0, .int .i64 0, .int .i64 0, .int .i64 0, .int .i64 0, .int .i64 0, .int .i64 0, .int .i64 0, .int .i64 0, .int .u64 0, .int .u64 0, .int .u64 0, .int .u64 0, .int .u64 0, .int .u64 0, .int .u64 0, .int .u64 0, .int .u64 0, .int .u64 0, .int .u64 0, .int .u64 0, .int .i64 (k : Int), .int .i64 0, .bool false, .int .i64 0, .int .i64 0, .int .i64 0] 95)) (w.heap.size + 1) (.pointer none) (raw0 c0 c1 c2 c3 k) := by
    refine ⟨?_, ⟨rfl, rfl, rfl, rfl⟩⟩
    have := heap_alloc_new (w.alloc (.cells #[.int .i64 (c0 : Int), .int .i64 (c1 : Int), .int .i64 (c2 : Int), .int .i64 (c3 : Int)] 28)) (.cells #[.pointer none, .int .i64 0, .int .i64 0, .int .i64 0, .int .i64 0, .int .i64 0, .int .i64 (c0 : Int), .int .i64 (c1 : Int), .int .i64 (c2 : Int), .int .i64 (c3 : Int), .int .i64 0, .int .i64 0, .int .i64 0, .int .i64 0, .int .i64 0, .int .i64 0, .int .i64 0, .int .i64 0, .int .i64 0, .int .i64 0, .int .i64 0, .int .i64 0, .int .i64 0, .int .i64 0, .int .i64 0, .int .i64 0, .int .u64 0, .int .u64 0, .int .u64 0, .int .u64 0, .int .u64 0, .int .u64 0, .int .u64 0, .int .u64 0, .int .u64 0, .int .u64 0, .int .u64 0, .int .u64 0, .int .i64 (k : Int), .int .i64 0, .bool false, .int .i64 0, .int .i64 0, .int .i64 0] 95)
    rw [show (w.alloc (.cells #[.int .i64 (c0 : Int), .int .i64 (c1 : Int), .int .i64 (c2 : Int), .int .i64 (c3 : Int)] 28)).heap.size = w.heap.size + 1 by simp] at this
    exact this
  have K0 : Keeps (fun _ => False) w ((w.alloc (.cells #[.int .i64 (c0 : Int), .int .i64 (c1 : Int), .int .i64 (c2 : Int), .int .i64 (c3 : Int)] 28)).alloc (.cells #[.pointer none, .int .i64 0, .int .i64 0, .int .i64 0, .int .i64 0, .int .i64 0, .int .i64 (c0 : Int), .int .i64 (c1 : Int), .int .i64 (c2 : Int), .int .i64 (c3 : Int), .int .i64 0, .int .i64 0, .int .i64 0, .int .i64 0, .int .i64 0, .int .i64 0, .int .i64 0, .int .i64 0, .int .i64 0, .int .i64 0, .int .i64 0, .int .i64 0, .int .i64 0, .int .i64 0, .int .i64 0, .int .i64 0, .int .u64 0, .int .u64 0, .int .u64 0, .int .u64 0, .int .u64 0, .int .u64 0, .int .u64 0, .int .u64 0, .int .u64 0, .int .u64 0, .int .u64 0, .int .u64 0, .int .i64 (k : Int), .int .i64 0, .bool false, .int .i64 0, .int .i64 0, .int .i64 0] 95)) := ((Keeps.refl _ w).alloc _).alloc _
  generalize ((w.alloc (.cells #[.int .i64 (c0 : Int), .int .i64 (c1 : Int), .int .i64 (c2 : Int), .int .i64 (c3 : Int)] 28)).alloc (.cells #[.pointer none, .int .i64 0, .int .i64 0, .int .i64 0, .int .i64 0, .int .i64 0, .int .i64 (c0 : Int), .int .i64 (c1 : Int), .int .i64 (c2 : Int), .int .i64 (c3 : Int), .int .i64 0, .int .i64 0, .int .i64 0, .int .i64 0, .int .i64 0, .int .i64 0, .int .i64 0, .int .i64 0, .int .i64 0, .int .i64 0, .int .i64 0, .int .i64 0, .int .i64 0, .int .i64 0, .int .i64 0, .int .i64 0, .int .u64 0, .int .u64 0, .int .u64 0, .int .u64 0, .int .u64 0, .int .u64 0, .int .u64 0, .int .u64 0, .int .u64 0, .int .u64 0, .int .u64 0, .int .u64 0, .int .i64 (k : Int), .int .i64 0, .bool false, .int .i64 0, .int .i64 0, .int .i64 0] 95)) = w1 at *
  obtain ⟨cb, hcb⟩ : ∃ cb, w.heap.size = cb := ⟨_, rfl⟩
  have Hcb := Box.mk hcb
  rw [hcb] at HC0 HR0 ⊢
  clear hcb
  have HC := Box.mk HC0
  have HR := Box.mk HR0
  have K := Box.mk K0
  clear HC0 HR0 K0
  refine (sizes_is _).mono ?_
  rintro e w2 ⟨rfl, k2⟩
  have HC2 := Box.mk (HC.out.keeps k2 (fun h => h))
  have HR2 := Box.mk (HR.out.keeps k2 (fun h => h))
  have K2 := Box.mk (K.out.trans k2)
  clear HC HR K k2
  go_wp2_with fail
  go_loopw [7, 16] (fun at_ i wr => ∃ (j p : Nat), j ≤ 4 ∧ i = .int .i64 j ∧ at_ = .int .i64 p ∧ p ≤ 720051 ∧ Box ((starts [c0, c1, c2, c3]).getD j 0 = p) ∧ Box (IsCounts wr cb c0 c1 c2 c3) ∧ Box (IsRaw wr (cb + 1) (.pointer none) { raw0 c0 c1 c2 c3 k with start := starting c0 c1 c2 c3 j }) ∧ Box (Keeps (fun _ => False) w wr)) (fun _ i _ => 4 - (intOf i).toNat)
  case atStart => exact ⟨0, 51, Nat.zero_le _, rfl, rfl, by omega, ⟨rfl⟩, HC2, HR2, K2⟩
  case round =>
    clear HC2 HR2 K2
    obtain ⟨j, p, hj, rfl, rfl, hp, HP, HC, HR, K⟩ := hrel
    by_cases hj4 : j < 4
    · have hj0 : (0 : Int) ≤ (j : Int) := by omega
      have hj1 : (j : Int) < 4 := by omega
      have hix := fun w => szAt j hj4 w
      have hstep := starts_step c0 c1 c2 c3 j hj4
      have hnb := starts_le c0 c1 c2 c3 (j + 1) Hc.out.1 Hc.out.2.1 Hc.out.2.2.1 Hc.out.2.2.2
      have hset := starting_set c0 c1 c2 c3 j (by omega)
      have hcj := HC.out.cell hj4
      have hcb := get4_le c0 c1 c2 c3 j Hc.out.1 Hc.out.2.1 Hc.out.2.2.1 Hc.out.2.2.2
      have hszb := szs_le j
      rw [HP.out] at hstep hset
      obtain ⟨sz, hsz⟩ : ∃ x, szs j = x := ⟨_, rfl⟩
      obtain ⟨n, hn⟩ : ∃ x, [c0, c1, c2, c3].getD j 0 = x := ⟨_, rfl⟩
      rw [hsz] at hix hstep hszb
      rw [hn] at hstep hcj hcb
      obtain ⟨q, hq⟩ : ∃ q, n * (3 + sz) = q := ⟨_, rfl⟩
      rw [hq] at hstep
      rw [hstep] at hnb
      have hqb : q ≤ 520000 := by
        rw [← hq]
        have := Nat.mul_le_mul (show n ≤ 4000 by omega) (show 3 + sz ≤ 130 by omega)
        omega
      have hmul : IntKind.i64.wrap ((n : Int) * (3 + (sz : Int))) = (q : Int) := by
        have e : (n : Int) * (3 + (sz : Int)) = (q : Int) := by rw [← hq]; push_cast; rfl
        rw [e]
        simp only [IntKind.wrap]
        simp [IntKind.bits, IntKind.signed]
        omega
      have hmul2 : wrap64 ((n : Int) * (3 + (sz : Int))) = (q : Int) := by
        have e : (n : Int) * (3 + (sz : Int)) = (q : Int) := by rw [← hq]; push_cast; rfl
        rw [e]
        unfold wrap64
        omega
      have hsum : wrap64 ((p : Int) + (q : Int)) = (p : Int) + (q : Int) := by unfold wrap64; omega
      have HST := Box.mk hstep
      have hsc := HR.out.start (i := j) (by omega)
      have hsf := HR.out.frozen (1 + j)
      have hput := HR.out.putStart (i := j) (by omega) p
      simp only at hput
      rw [hset] at hput
      have HP2 := Box.mk hput
      have kq : Keeps (fun z => z = cb + 1) wr (wr.setCell ⟨cb + 1, 1 + j, none⟩ (.int .i64 (p : Int))) := (Keeps.refl (fun z => z = cb + 1) wr).setCell (p := ⟨cb + 1, 1 + j, none⟩) (fun _ => rfl) _
      have HCn := Box.mk (HC.out.keeps kq (by omega))
      have hcj2 := HCn.out.cell hj4
      rw [hn] at hcj2
      have KP := Box.mk (K.out.setCell (p := ⟨cb + 1, 1 + j, none⟩) (fun h => by have := Hcb.out; simp only at h; omega) (.int .i64 (p : Int)))
      clear hput hset hsz hn hq hstep kq HC HR K
      go_wp2_with fail
      go_roundw
      case rel => exact ⟨j + 1, p + q, by omega, by go_num, by go_num, hnb, HST, HCn, HP2, KP⟩
      case measure => simp [intOf]; omega
    · have H4 : Box (j = 4) := ⟨by omega⟩
      have hj5 : ¬ ((j : Int) < 4) := by omega
      clear hj4
      have hsc := HR.out.start (i := 4) (by omega)
      have hsf := HR.out.frozen (1 + 4)
      have hput := HR.out.putStart (i := 4) (by omega) p
      have hset := starting_set c0 c1 c2 c3 4 (by omega)
      have hp4 := HP.out
      rw [H4.out] at hp4
      rw [hp4] at hset
      rw [H4.out] at hput
      simp only at hput
      rw [hset] at hput
      have HP2 := Box.mk hput
      have KP := Box.mk (K.out.setCell (p := ⟨cb + 1, 1 + 4, none⟩) (fun h => by have := Hcb.out; simp only at h; omega) (.int .i64 (p : Int)))
      have Hp4 := Box.mk hp4
      clear hput hset hp4 HC HR K
      go_wp2_with fail
      refine (rnew_is p _ (by omega)).mono ?_
      rintro e w3 ⟨b, g, rfl, hw3, k3, hb3, hg3⟩
      have hbg : cb + 1 < (wr.setCell ⟨cb + 1, 1 + 4, none⟩ (.int .i64 (p : Int))).heap.size := lt_of_heap HP2.out.head
      have hsz : w.heap.size ≤ (wr.setCell ⟨cb + 1, 1 + 4, none⟩ (.int .i64 (p : Int))).heap.size := KP.out.size
      have HR3 := HP2.out.keeps k3 (fun h => h)
      have hn1 : cb + 1 ≠ b := by simp only [Nat.reduceAdd] at hbg hb3; omega
      have hn2 : cb + 1 ≠ g := by simp only [Nat.reduceAdd] at hbg hg3; omega
      have HT := Box.mk (HR3.fill hw3 hn1 hn2)
      have c30 : w3.cell? ⟨cb + 1, 0, none⟩ = some (.pointer none) := by rw [HR3.cell]; rfl
      have f30 := HR3.frozen 0
      have Hbg : Box (w.heap.size ≤ b ∧ w.heap.size ≤ g) := ⟨by simp only [Nat.reduceAdd] at hsz hb3 hg3; omega, by simp only [Nat.reduceAdd] at hsz hb3 hg3; omega⟩
      have KT := Box.mk ((KP.out.trans k3).setCell (p := ⟨cb + 1, 0, none⟩) (fun h => by have := Hcb.out; simp only at h; omega) (.pointer (some ⟨b, 0, none⟩)))
      clear HR3 hw3 k3 hb3 hg3 hbg hsz HP2 KP hn1 hn2 hsc hsf
      go_wp2_with fail
      clear c30 f30
      go_loopw [70] (fun i wr => ∃ (j : Nat), j ≤ 12 ∧ i = .int .i64 j ∧ Box (IsTH wr (cb + 1) b g { pre c0 c1 c2 c3 k with roots := rooting j }) ∧ Box (Keeps (fun _ => False) w wr)) (fun i _ => 12 - (intOf i).toNat)
      case atStart =>
        refine ⟨0, Nat.zero_le _, rfl, ⟨?_⟩, KT⟩
        have h := HT.out
        rw [← Hp4.out] at h
        exact h
      case round =>
        clear HT KT
        obtain ⟨i, hi, rfl, HT, KT⟩ := hrel
        by_cases hi12 : i < 12
        · have hi0 : (0 : Int) ≤ (i : Int) := by omega
          have hi1 : (i : Int) < 12 := by omega
          have hrc := HT.out.roots hi12
          have hrf := HT.out.frozen (26 + i)
          have hput := HT.out.putRoot hi12 12
          simp only at hput
          rw [rooting_set i hi12] at hput
          have HT2 := Box.mk hput
          have KT2 := Box.mk (KT.out.setCell (p := ⟨cb + 1, 26 + i, none⟩) (fun h => by have := Hcb.out; simp only at h; omega) (.int .u64 ((12 : Nat) : Int)))
          clear hput
          go_wp2_with fail
          go_region_held3 (fun w' => True) (first | trivial | go_keep) (first | (go_at_call 24; refine (wvoid_is _).mono ?_; rintro e w4 ⟨rfl, rfl⟩) | fail)
          have HT3 := Box.mk (HT2.out.keeps0 ((Keeps.refl (fun _ => False) _).drew))
          have KT3 := Box.mk (KT2.out.drew)
          clear hrc hrf HT2 KT2 HT KT
          go_wp2_with fail
          go_roundw
          case rel => exact ⟨i + 1, by omega, by go_num, HT3, KT3⟩
          case measure => simp [intOf]; omega
        · have H12 : Box (i = 12) := ⟨by omega⟩
          have hi5 : ¬ ((i : Int) < 12) := by omega
          clear hi12
          have HT2 : Box (IsTH wr (cb + 1) b g (pre c0 c1 c2 c3 k)) := ⟨by have h := HT.out; rw [H12.out] at h; exact h⟩
          clear HT
          go_wp2_with fail
          refine (lay_is HT2.out Hs.out (fun c => Nat.le_trans (starts_le c0 c1 c2 c3 c Hc.out.1 Hc.out.2.1 Hc.out.2.2.1 Hc.out.2.2.2) (by decide)) (fun c => get4_le c0 c1 c2 c3 c Hc.out.1 Hc.out.2.1 Hc.out.2.2.1 Hc.out.2.2.2)).mono ?_
          rintro e w5 ⟨rfl, hI5, k5⟩
          have H5 := Box.mk hI5
          have K5 : Box (Keeps (fun _ => False) w w5) := ⟨KT.out.trans' k5 (fun z hz h => by have := Hcb.out; have := Hbg.out; unfold foot3 at h; omega)⟩
          clear hI5 k5 HT2 KT
          go_wp2_with fail
          go_ret2
          exact ⟨cb + 1, b, g, rfl, H5.out, K5.out, by have := Hcb.out; omega, Hbg.out.1, Hbg.out.2⟩

end Go.Proofs.Ytbjlapfcnldpoaa

