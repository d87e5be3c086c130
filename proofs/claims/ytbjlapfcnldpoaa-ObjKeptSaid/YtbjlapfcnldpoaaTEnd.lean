/- The heap's end of a cycle by its contract; joins. -/
import Derived.Test.YtbjlapfcnldpoaaTShade
namespace Go.Proofs.Ytbjlapfcnldpoaa
set_option linter.unusedVariables false
set_option linter.unusedSimpArgs false
open Go.RowKit

theorem ojoin_is {b g p q : Nat} {w : World} {W W' : List Nat} (hI : IsW w b g W) (h : oJoin W p q = some W') :
    Calls Try.prog 93 #[.pointer (some ⟨b, 0, none⟩), .int .i64 p, .int .i64 q] w fun e w' => e = .returned .nilIface ∧ IsW w' b g W' ∧ Keeps (foot b g) w w' := by
  unfold oJoin isPlace at h
  simp only [Bool.and_eq_true, decide_eq_true_eq] at h
  split at h
  · rename_i hpq
    split at h
    · rename_i hf
      injection h with h
      subst h
      exact rjoin_none hI hpq.1 hpq.2 hf
    · rename_i hf
      split at h
      · rename_i hh
        injection h with h
        subst h
        exact rjoin_is hI hpq.1 hpq.2 rfl rfl rfl hh.1.1 hh.1.2 hh.2 (by rw [beq_eq_false_iff_ne]; omega)
      · cases h
  · cases h

theorem tend1_parts {s s' : TH} {c : Nat} (h : tend1 s c = some s') : ∃ W, oJoin s.W (thead c 0) (thead c 2) = some W ∧ lget s c 0 + lget s c 2 < 1000000 ∧ s' = lset (lset { s with W := W } c 0 (lget s c 0 + lget s c 2)) c 2 0 := by
  unfold tend1 at h
  simp only [Option.bind_eq_bind, Option.bind_eq_some_iff] at h
  obtain ⟨W, h1, u, h2, h3⟩ := h
  refine ⟨W, h1, ?_, ?_⟩
  · unfold req at h2
    split at h2
    · rename_i h4; simpa using h4
    · cases h2
  · simp only [Option.pure_def, Option.some.injEq] at h3
    exact h3.symm
/-- So many sizes' lists are joined. -/
def tendN : Nat → TH → Option TH
  | 0, s => some s
  | k + 1, s => (tendN k s).bind (fun s => tend1 s k)
theorem tend_parts {s s' : TH} (h : tend s = some s') : ∃ s4, tendN 4 s = some s4 ∧ s4.cycles < 1000000 ∧ s' = { s4 with marking := false, cycles := s4.cycles + 1 } := by
  unfold tend at h
  simp only [Option.bind_eq_bind, Option.bind_eq_some_iff] at h
  obtain ⟨s1, h1, s2, h2, s3, h3, s4, h4, u, h5, h6⟩ := h
  refine ⟨s4, ?_, ?_, ?_⟩
  · simp [tendN, h1, h2, h3, h4]
  · unfold req at h5
    split at h5
    · rename_i h7; simpa using h7
    · cases h5
  · simp only [Option.pure_def, Option.some.injEq] at h6
    exact h6.symm
theorem tendN_step {s s4 : TH} (h : tendN 4 s = some s4) {k : Nat} (hk : k < 4) {sk : TH} (hs : tendN k s = some sk) : ∃ s', tend1 sk k = some s' ∧ tendN (k + 1) s = some s' := by
  have hall : ∀ j, j ≤ 4 → (tendN j s).isSome = true := by
    have h4 : (tendN 4 s).isSome = true := by rw [h]; rfl
    have down : ∀ j, (tendN (j + 1) s).isSome = true → (tendN j s).isSome = true := by
      intro j hj
      cases hn : tendN j s with
      | none => simp [tendN, hn] at hj
      | some x => rfl
    intro j hj
    have h3 := down 3 h4
    have h2 := down 2 h3
    have h1 := down 1 h2
    have h0 := down 0 h1
    match j, hj with
    | 0, _ => exact h0
    | 1, _ => exact h1
    | 2, _ => exact h2
    | 3, _ => exact h3
    | 4, _ => exact h4
  have := hall (k + 1) (by omega)
  simp only [tendN, hs, Option.bind_some] at this ⊢
  cases ht : tend1 sk k with
  | none => rw [ht] at this; cases this
  | some s' => exact ⟨s', rfl, rfl⟩

set_option maxRecDepth 100000 in
set_option maxHeartbeats 2000000 in
theorem end_is {hb b g : Nat} {s s' : TH} {w : World} (hI : IsTH w hb b g s) (hs : tend s = some s') :
    Calls Try.prog 67 #[.pointer (some ⟨hb, 0, none⟩)] w fun e w' => e = .returned (.tuple #[]) ∧ IsTH w' hb b g s' ∧ Keeps (foot3 hb b g) w w' := by
  obtain ⟨s4, h4, hcy, rfl⟩ := tend_parts hs
  have H := Box.mk hI
  have H4 := Box.mk h4
  have K0 := Box.mk (Keeps.refl (foot3 hb b g) w)
  clear hI hs h4
  go_enter Try.func67, Try.ntmps67
  go_wp2_with fail
  go_loopw [3] (fun i wr => ∃ (k : Nat) (sk : TH), k ≤ 4 ∧ i = .int .i64 k ∧ Box (tendN k s = some sk) ∧ Box (IsTH wr hb b g sk) ∧ Box (Keeps (foot3 hb b g) w wr)) (fun i _ => 4 - (intOf i).toNat)
  case atStart => exact ⟨0, s, Nat.zero_le _, rfl, ⟨rfl⟩, H, K0⟩
  case round =>
    clear H K0
    obtain ⟨k, sk, hk, rfl, HN, HS, K⟩ := hrel
    by_cases hk4 : k < 4
    · have hk0 : (0 : Int) ≤ (k : Int) := by omega
      have hk1 : (k : Int) < 4 := by omega
      obtain ⟨s', ht, hN'⟩ := tendN_step H4.out hk4 HN.out
      obtain ⟨W, hj, hsum, rfl⟩ := tend1_parts ht
      obtain ⟨n0, hn0⟩ : ∃ n, lget sk k 0 = n := ⟨_, rfl⟩
      obtain ⟨n2, hn2⟩ : ∃ n, lget sk k 2 = n := ⟨_, rfl⟩
      rw [hn0, hn2] at hN' hsum
      obtain ⟨p0, hp0⟩ : ∃ p, thead k 0 = p := ⟨_, rfl⟩
      obtain ⟨p2, hp2⟩ : ∃ p, thead k 2 = p := ⟨_, rfl⟩
      have hd0 : ∀ W, Calls Try.prog 70 #[.int .i64 k, .int .i64 0] W fun e w' => e = .returned (.int .i64 p0) ∧ w' = W := fun W => by rw [← hp0]; exact head_is k 0 W (by omega) (by omega)
      have hd2 : ∀ W, Calls Try.prog 70 #[.int .i64 k, .int .i64 2] W fun e w' => e = .returned (.int .i64 p2) ∧ w' = W := fun W => by rw [← hp2]; exact head_is k 2 W (by omega) (by omega)
      rw [hp0, hp2] at hj
      have Hd := Box.mk (And.intro hd0 hd2)
      have Hj := Box.mk hj
      have HN' := Box.mk hN'
      have Hn := Box.mk (And.intro hn0 hn2)
      have hst := HS.out.store
      clear hd0 hd2 hj hN' ht hn0 hn2 hp0 hp2 HN
      go_wp2_with fail
      go_region_held3 (fun w' => w'.cell? ⟨hb, 0, none⟩ = some (.pointer (some ⟨b, 0, none⟩))) (first | exact kj.cell hst (by have := HS.out.ne; unfold foot; simp only; omega) | go_keep) (first | (go_at_call 70; refine (Hd.out.1 _).mono ?_; rintro e w2 ⟨rfl, rfl⟩) | (go_at_call 70; refine (Hd.out.2 _).mono ?_; rintro e w2 ⟨rfl, rfl⟩) | (go_at_call 93; refine (ojoin_is (w := wr.drew) (HS.out.keeps0 ((Keeps.refl (fun _ => False) wr).drew)).iw Hj.out).mono ?_; rintro e w3 ⟨rfl, hI3, kj⟩))
      have kj' : Keeps (foot b g) wr w3 := ⟨kj.os, kj.tape, kj.output, kj.size, kj.block⟩
      have H3 := Box.mk (HS.out.ring kj' hI3)
      have K3 := Box.mk (K.out.trans (kj'.mono (S' := foot3 hb b g) (fun i _ h => Or.inr h)))
      obtain ⟨ns, hns⟩ : ∃ ns, n0 + n2 = ns := ⟨_, rfl⟩
      have hns3 : (n0 : Int) + (n2 : Int) = (ns : Int) := by omega
      have hnsb : ns < 1000000 := by omega
      rw [hns] at HN'
      have hc0 := H3.out.lists (i := 4 * k + 0) (by omega)
      have hc2 := H3.out.lists (i := 4 * k + 2) (by omega)
      have hf0 := H3.out.frozen (10 + (4 * k + 0))
      have hput := H3.out.putList (i := 4 * k + 0) (by omega) ns
      rw [show sk.lists.getD (4 * k + 0) 0 = n0 from Hn.out.1, show 10 + (4 * k + 0) = 10 + k * 4 by omega] at hc0
      rw [show sk.lists.getD (4 * k + 2) 0 = n2 from Hn.out.2, show 10 + (4 * k + 2) = 10 + k * 4 + 2 by omega] at hc2
      rw [show 10 + (4 * k + 0) = 10 + k * 4 by omega] at hf0 hput
      have HP := Box.mk (hput.keeps0 ((Keeps.refl (fun _ => False) _).drew))
      have KP := Box.mk (K3.out.setCell (p := ⟨hb, 10 + k * 4, none⟩) (fun _ => Or.inl rfl) (.int .i64 (ns : Int))).drew
      clear hput kj kj' hI3 hst H3 K3 HS K hns hsum
      go_wp2_with fail
      go_region
      generalize (w3.setCell ⟨hb, 10 + k * 4, none⟩ (.int .i64 (ns : Int))).drew = w4 at *
      clear hc0 hc2 hf0
      have hf2 := HP.out.frozen (10 + (4 * k + 2))
      have hc2 := HP.out.lists (i := 4 * k + 2) (by omega)
      have hput := HP.out.putList (i := 4 * k + 2) (by omega) 0
      rw [show 10 + (4 * k + 2) = 10 + k * 4 + 2 by omega] at hf2 hput hc2
      have HP2 := Box.mk hput
      have KP2 := Box.mk (KP.out.setCell (p := ⟨hb, 10 + k * 4 + 2, none⟩) (fun _ => Or.inl rfl) (.int .i64 ((0 : Nat) : Int)))
      clear hput HP KP
      go_wp2_with fail
      go_roundw
      case rel => exact ⟨k + 1, _, by omega, by go_num, HN', HP2, KP2⟩
      case measure => simp [intOf]; omega
    · have hk4' : k = 4 := by omega
      subst hk4'
      have e : sk = s4 := by
        have h := HN.out
        rw [H4.out] at h
        injection h with h
        exact h.symm
      subst e
      have hm := HS.out.marking
      have hc := HS.out.cycles
      have fm := HS.out.frozen 40
      have HP := Box.mk (HS.out.putMarking false)
      have KP := Box.mk (K.out.setCell (p := ⟨hb, 40, none⟩) (fun _ => Or.inl rfl) (.bool false))
      have hc' := HP.out.cycles
      have fc' := HP.out.frozen 41
      have hput := HP.out.putCycles (sk.cycles + 1)
      obtain ⟨cy, hcy2⟩ : ∃ cy, sk.cycles = cy := ⟨_, rfl⟩
      simp only at hc'
      rw [hcy2] at hc hc' hput hcy
      rw [show ((cy + 1 : Nat) : Int) = (cy : Int) + 1 by omega] at hput
      have HP2 := Box.mk hput
      have KP2 := Box.mk (KP.out.setCell (p := ⟨hb, 41, none⟩) (fun _ => Or.inl rfl) (.int .i64 ((cy : Int) + 1)))
      have Hcy := Box.mk hcy2
      clear hput HP KP HS K hcy2 H4 HN
      go_wp2_with fail
      go_end0
      exact ⟨rfl, by rw [Hcy.out]; exact HP2.out, KP2.out⟩

end Go.Proofs.Ytbjlapfcnldpoaa
