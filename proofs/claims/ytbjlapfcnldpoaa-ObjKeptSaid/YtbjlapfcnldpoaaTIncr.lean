/- The heap's look where none waits, and Increment, by contracts. -/
import Derived.Test.YtbjlapfcnldpoaaTScan
namespace Go.Proofs.Ytbjlapfcnldpoaa
set_option linter.unusedVariables false
set_option linter.unusedSimpArgs false
open Go.RowKit

set_option maxRecDepth 100000 in
theorem tlook_none {hb b g : Nat} {s : TH} {w : World} (hI : IsTH w hb b g s) (hw : s.wait = 0) :
    Calls Try.prog 66 #[.pointer (some ⟨hb, 0, none⟩)] w fun e w' => e = .returned (.bool false) ∧ w' = w := by
  have hc := hI.wait
  rw [hw] at hc
  clear hI hw
  go_enter Try.func66, Try.ntmps66
  go_wp2_with fail
  go_ret
  exact ⟨rfl, rfl⟩

theorem tstep_parts {s s' : TH} (h : tstep s = some s') : (s.marking = false ∧ tflip s = some s') ∨ (s.marking = true ∧ (tscan s = some (some s') ∨ tscan s = some none ∧ s.wait = 0 ∧ tend s = some s')) := by
  unfold tstep at h
  split at h
  · rename_i hm
    refine Or.inr ⟨hm, ?_⟩
    cases hs : tscan s with
    | none => rw [hs] at h; cases h
    | some r =>
      rw [hs] at h
      cases r with
      | some t =>
        left
        have : some t = some s' := h
        rw [this]
      | none =>
        right
        refine ⟨rfl, ?_⟩
        have h2 : (do match ← tlook s with
          | some s => return s
          | none => tend s : Option TH) = some s' := h
        unfold tlook at h2
        split at h2
        · rename_i hw
          exact ⟨hw, h2⟩
        · cases h2
  · rename_i hm
    exact Or.inl ⟨by simpa using hm, h⟩

theorem shadeFields_same {s s' : TH} {x : Nat} : ∀ {m j : Nat}, shadeFields s x m j = some s' → s'.now = s.now ∧ s'.roots = s.roots ∧ s'.marking = s.marking ∧ s'.start = s.start ∧ s'.count = s.count ∧ s'.k = s.k ∧ s'.cycles = s.cycles ∧ s'.wait = s.wait ∧ s'.tries = s.tries := by
  intro m
  induction m generalizing s with
  | zero => intro j h; simp only [shadeFields, Option.some.injEq] at h; rw [h]; exact ⟨rfl, rfl, rfl, rfl, rfl, rfl, rfl, rfl, rfl⟩
  | succ m ih =>
    intro j h
    obtain ⟨v, t, -, -, h1, h2⟩ := shadeFields_step h
    have e1 := ih h2
    have e2 := tshade_same h1
    obtain ⟨a1, a2, a3, a4, a5, a6, a7, a8, a9⟩ := e1
    obtain ⟨b1, b2, b3, b4, b5, b6, b7, b8, b9⟩ := e2
    exact ⟨by rw [a1, b1], by rw [a2, b2], by rw [a3, b3], by rw [a4, b4], by rw [a5, b5], by rw [a6, b6], by rw [a7, b7], by rw [a8, b8], by rw [a9, b9]⟩
theorem tscanAt_same {s s' : TH} {c : Nat} (h : tscanAt s c = some s') : s'.now = s.now ∧ s'.roots = s.roots ∧ s'.marking = s.marking ∧ s'.start = s.start ∧ s'.count = s.count ∧ s'.k = s.k ∧ s'.cycles = s.cycles := by
  obtain ⟨x, hd, -, -, -, h⟩ := tscanAt_parts h
  rcases h with ⟨-, last, -, -, hm⟩ | ⟨-, s2, hsf, hm⟩ | ⟨-, hm⟩ | ⟨-, rfl⟩
  · obtain ⟨a1, a2, a3, a4, a5, a6, a7, a8, a9⟩ := tmove_same hm
    exact ⟨a1, a2, a3, a4, a5, a6, a7⟩
  · obtain ⟨a1, a2, a3, a4, a5, a6, a7, a8, a9⟩ := tmove_same hm
    obtain ⟨b1, b2, b3, b4, b5, b6, b7, b8, b9⟩ := shadeFields_same hsf
    exact ⟨by rw [a1, b1]; rfl, by rw [a2, b2]; rfl, by rw [a3, b3]; rfl, by rw [a4, b4]; rfl, by rw [a5, b5]; rfl, by rw [a6, b6]; rfl, by rw [a7, b7]; rfl⟩
  · obtain ⟨a1, a2, a3, a4, a5, a6, a7, a8, a9⟩ := tmove_same hm
    exact ⟨a1, a2, a3, a4, a5, a6, a7⟩
  · exact ⟨rfl, rfl, rfl, rfl, rfl, rfl, rfl⟩
theorem tend1_same {s s' : TH} {c : Nat} (h : tend1 s c = some s') : s'.now = s.now ∧ s'.roots = s.roots ∧ s'.marking = s.marking ∧ s'.start = s.start ∧ s'.count = s.count ∧ s'.k = s.k ∧ s'.cycles = s.cycles := by
  obtain ⟨W, -, -, rfl⟩ := tend1_parts h
  exact ⟨rfl, rfl, rfl, rfl, rfl, rfl, rfl⟩
theorem tendN_same {s : TH} : ∀ {n : Nat} {s' : TH}, tendN n s = some s' → s'.now = s.now ∧ s'.roots = s.roots ∧ s'.marking = s.marking ∧ s'.start = s.start ∧ s'.count = s.count ∧ s'.k = s.k ∧ s'.cycles = s.cycles := by
  intro n
  induction n with
  | zero => intro s' h; simp only [tendN, Option.some.injEq] at h; rw [h]; exact ⟨rfl, rfl, rfl, rfl, rfl, rfl, rfl⟩
  | succ n ih =>
    intro s' h
    simp only [tendN, Option.bind_eq_some_iff] at h
    obtain ⟨t, h1, h2⟩ := h
    obtain ⟨a1, a2, a3, a4, a5, a6, a7⟩ := ih h1
    obtain ⟨b1, b2, b3, b4, b5, b6, b7⟩ := tend1_same h2
    exact ⟨by rw [b1, a1], by rw [b2, a2], by rw [b3, a3], by rw [b4, a4], by rw [b5, a5], by rw [b6, a6], by rw [b7, a7]⟩
theorem tend_same {s s' : TH} (h : tend s = some s') : s'.now = s.now ∧ s'.roots = s.roots ∧ s'.start = s.start ∧ s'.count = s.count ∧ s'.k = s.k := by
  obtain ⟨s4, h4, -, rfl⟩ := tend_parts h
  obtain ⟨a1, a2, a3, a4, a5, a6, a7⟩ := tendN_same h4
  exact ⟨a1, a2, a4, a5, a6⟩
theorem tflipN_same {s : TH} : ∀ {n : Nat} {s' : TH}, tflipN n s = some s' → s'.now = s.now ∧ s'.roots = s.roots ∧ s'.start = s.start ∧ s'.count = s.count ∧ s'.k = s.k := by
  intro n
  induction n with
  | zero => intro s' h; simp only [tflipN, Option.some.injEq] at h; rw [h]; exact ⟨rfl, rfl, rfl, rfl, rfl⟩
  | succ n ih =>
    intro s' h
    simp only [tflipN, Option.bind_eq_some_iff] at h
    obtain ⟨t, h1, h2⟩ := h
    obtain ⟨a1, a2, a3, a4, a5⟩ := ih h1
    obtain ⟨W, -, rfl⟩ := tflip1_parts h2
    exact ⟨a1, a2, a3, a4, a5⟩
theorem shadeAll_same : ∀ {l : List Nat} {s s' : TH}, shadeAll l s = some s' → s'.now = s.now ∧ s'.roots = s.roots ∧ s'.start = s.start ∧ s'.count = s.count ∧ s'.k = s.k := by
  intro l
  induction l with
  | nil => intro s s' h; simp only [shadeAll, Option.some.injEq] at h; rw [h]; exact ⟨rfl, rfl, rfl, rfl, rfl⟩
  | cons x l ih =>
    intro s s' h
    simp only [shadeAll, Option.bind_eq_some_iff] at h
    obtain ⟨t, h1, h2⟩ := h
    obtain ⟨a1, a2, a3, a4, a5⟩ := ih h2
    obtain ⟨b1, b2, b3, b4, b5, b6, b7, b8, b9⟩ := tshade_same h1
    exact ⟨by rw [a1, b1], by rw [a2, b2], by rw [a3, b4], by rw [a4, b5], by rw [a5, b6]⟩
theorem tflip_same {s s' : TH} (h : tflip s = some s') : s'.now = 1 - s.now ∧ s'.roots = s.roots ∧ s'.start = s.start ∧ s'.count = s.count ∧ s'.k = s.k := by
  obtain ⟨s4, h4, h5⟩ := tflip_parts h
  obtain ⟨a1, a2, a3, a4, a5⟩ := tflipN_same h4
  obtain ⟨b1, b2, b3, b4, b5⟩ := shadeAll_same h5
  exact ⟨by rw [b1, a1], by rw [b2, a2], by rw [b3, a3], by rw [b4, a4], by rw [b5, a5]⟩
/-- What a step leaves. -/
theorem tstep_same {s s' : TH} (h : tstep s = some s') (hn : s.now ≤ 1) : s'.now ≤ 1 ∧ s'.roots = s.roots ∧ s'.start = s.start ∧ s'.count = s.count ∧ s'.k = s.k := by
  rcases tstep_parts h with ⟨-, h1⟩ | ⟨-, h1 | ⟨-, -, h1⟩⟩
  · obtain ⟨a1, a2, a3, a4, a5⟩ := tflip_same h1
    exact ⟨by omega, a2, a3, a4, a5⟩
  · rcases tscan_parts h1 with ⟨h2, -⟩ | ⟨c, t, -, -, -, h2, h3⟩
    · cases h2
    · injection h3 with h3
      subst h3
      obtain ⟨a1, a2, a3, a4, a5, a6, a7⟩ := tscanAt_same h2
      exact ⟨by omega, a2, a4, a5, a6⟩
  · obtain ⟨a1, a2, a3, a4, a5⟩ := tend_same h1
    exact ⟨by omega, a2, a3, a4, a5⟩
theorem tincr_same : ∀ {n : Nat} {s s' : TH}, tincr n s = some s' → s.now ≤ 1 → s'.now ≤ 1 ∧ s'.roots = s.roots ∧ s'.start = s.start ∧ s'.count = s.count ∧ s'.k = s.k := by
  intro n
  induction n with
  | zero => intro s s' h hn; simp only [tincr, Option.some.injEq] at h; rw [← h]; exact ⟨hn, rfl, rfl, rfl, rfl⟩
  | succ n ih =>
    intro s s' h hn
    simp only [tincr, Option.bind_eq_some_iff] at h
    obtain ⟨t, h1, h2⟩ := h
    obtain ⟨b1, b2, b3, b4, b5⟩ := tstep_same h1 hn
    obtain ⟨a1, a2, a3, a4, a5⟩ := ih h2 b1
    exact ⟨a1, by rw [a2, b2], by rw [a3, b3], by rw [a4, b4], by rw [a5, b5]⟩
theorem tincr_step {s s' : TH} {m : Nat} (h : tincr (m + 1) s = some s') : ∃ t, tstep s = some t ∧ tincr m t = some s' := by
  simpa only [tincr, Option.bind_eq_some_iff] using h

set_option maxRecDepth 100000 in
set_option maxHeartbeats 2000000 in
theorem incr_is {hb b g n : Nat} {s s' : TH} {w : World} (hI : IsTH w hb b g s) (hs : tincr n s = some s') (hnow : s.now ≤ 1) (hn : n ≤ 1000000) :
    Calls Try.prog 18 #[.pointer (some ⟨hb, 0, none⟩), .int .i64 n] w fun e w' => e = .returned (.tuple #[]) ∧ IsTH w' hb b g s' ∧ Keeps (foot3 hb b g) w w' := by
  have H := Box.mk hI
  have Hs := Box.mk hs
  have Hnow := Box.mk hnow
  have K0 := Box.mk (Keeps.refl (foot3 hb b g) w)
  clear hI hs hnow
  go_enter Try.func18, Try.ntmps18
  go_wp2_with fail
  go_loopw [7] (fun i wr => ∃ (j : Nat) (sj : TH), j ≤ n ∧ i = .int .i64 j ∧ Box (tincr (n - j) sj = some s') ∧ Box (IsTH wr hb b g sj) ∧ Box (sj.now ≤ 1) ∧ Box (Keeps (foot3 hb b g) w wr)) (fun i _ => n - (intOf i).toNat)
  case atStart => exact ⟨0, s, Nat.zero_le _, rfl, Hs, H, Hnow, K0⟩
  case round =>
    clear H K0 Hs Hnow
    obtain ⟨j, sj, hj, rfl, HN, HS, HW, K⟩ := hrel
    by_cases hjn : j < n
    · have hj0 : (0 : Int) ≤ (j : Int) := by omega
      have hj1 : (j : Int) < (n : Int) := by omega
      obtain ⟨t, ht, hN'⟩ := tincr_step (m := n - j - 1) (by rw [show n - j - 1 + 1 = n - j by omega]; exact HN.out)
      rw [show n - j - 1 = n - (j + 1) by omega] at hN'
      have HN' := Box.mk hN'
      have HW2 : Box (t.now ≤ 1) := ⟨(tstep_same ht HW.out).1⟩
      rcases tstep_parts ht with ⟨hm, h1⟩ | ⟨hm, h1 | ⟨h1, hwt, h2⟩⟩
      · have hmk := HS.out.marking
        rw [hm] at hmk
        have H1 := Box.mk h1
        clear h1 hm ht hN' HN
        go_wp2_with fail
        refine (flip_is HS.out H1.out HW.out).mono ?_
        rintro e w2 ⟨rfl, hI2, k2⟩
        have H2 := Box.mk hI2
        have K2 := Box.mk (K.out.trans k2)
        clear hI2 k2 HS K hmk
        go_wp2_with fail
        go_roundw
        case rel => exact ⟨j + 1, t, by omega, by go_num, HN', H2, HW2, K2⟩
        case measure => simp [intOf]; omega
      · have hmk := HS.out.marking
        rw [hm] at hmk
        have H1 := Box.mk h1
        clear h1 hm ht hN' HN
        go_wp2_with fail
        refine (scan_is HS.out H1.out HW.out).mono ?_
        rintro e w2 ⟨rfl, hI2, k2⟩
        simp only [Option.isSome_some, Option.getD_some] at hI2 ⊢
        have H2 := Box.mk hI2
        have K2 := Box.mk (K.out.trans k2)
        clear hI2 k2 HS K hmk
        go_wp2_with fail
        go_roundw
        case rel => exact ⟨j + 1, t, by omega, by go_num, HN', H2, HW2, K2⟩
        case measure => simp [intOf]; omega
      · have hmk := HS.out.marking
        rw [hm] at hmk
        have H1 := Box.mk h1
        have Hend := Box.mk h2
        have Hwt := Box.mk hwt
        clear h1 hm ht hN' HN h2 hwt
        go_wp2_with fail
        refine (scan_is HS.out H1.out HW.out).mono ?_
        rintro e w2 ⟨rfl, hI2, k2⟩
        simp only [Option.isSome_none, Option.getD_none] at hI2 ⊢
        have H2 := Box.mk hI2
        have K2 := Box.mk (K.out.trans k2)
        clear hI2 k2 HS K hmk
        go_wp2_with fail
        refine (tlook_none H2.out Hwt.out).mono ?_
        rintro e w3 ⟨rfl, rfl⟩
        go_wp2_with fail
        refine (end_is H2.out Hend.out).mono ?_
        rintro e w3 ⟨rfl, hI3, k3⟩
        have H3 := Box.mk hI3
        have K3 := Box.mk (K2.out.trans k3)
        clear hI3 k3 H2 K2
        go_wp2_with fail
        go_roundw
        case rel => exact ⟨j + 1, t, by omega, by go_num, HN', H3, HW2, K3⟩
        case measure => simp [intOf]; omega
    · have hjn' : j = n := by omega
      subst hjn'
      have e : sj = s' := by
        have h := HN.out
        simp only [Nat.sub_self, tincr, Option.some.injEq] at h
        exact h
      subst e
      clear HN
      go_wp2_with fail
      go_end0
      exact ⟨rfl, HS.out, K.out⟩

end Go.Proofs.Ytbjlapfcnldpoaa
