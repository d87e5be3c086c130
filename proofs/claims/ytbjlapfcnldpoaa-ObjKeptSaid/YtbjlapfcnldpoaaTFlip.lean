/- The heap's flip by its contract. -/
import Derived.Test.YtbjlapfcnldpoaaTEnd
namespace Go.Proofs.Ytbjlapfcnldpoaa
set_option linter.unusedVariables false
set_option linter.unusedSimpArgs false
open Go.RowKit

theorem tflip1_parts {s s' : TH} {c : Nat} (h : tflip1 s c = some s') : ∃ W, oJoin s.W (thead c 2) (thead c 1) = some W ∧ s' = lset (lset { s with W := W } c 2 (lget s c 1)) c 1 0 := by
  unfold tflip1 at h
  simp only [Option.bind_eq_bind, Option.bind_eq_some_iff] at h
  obtain ⟨W, h1, h3⟩ := h
  simp only [Option.pure_def, Option.some.injEq] at h3
  exact ⟨W, h1, h3.symm⟩
def tflipN : Nat → TH → Option TH
  | 0, s => some s
  | k + 1, s => (tflipN k s).bind (fun s => tflip1 s k)
theorem tflip_parts {s s' : TH} (h : tflip s = some s') : ∃ s4, tflipN 4 { s with now := 1 - s.now } = some s4 ∧ shadeAll s4.roots { s4 with marking := true, tries := 0 } = some s' := by
  unfold tflip at h
  simp only [Option.bind_eq_bind, Option.bind_eq_some_iff] at h
  obtain ⟨s1, h1, s2, h2, s3, h3, s4, h4, h6⟩ := h
  refine ⟨s4, ?_, h6⟩
  simp [tflipN, h1, h2, h3, h4]
theorem tflipN_step {s s4 : TH} (h : tflipN 4 s = some s4) {k : Nat} (hk : k < 4) {sk : TH} (hs : tflipN k s = some sk) : ∃ s', tflip1 sk k = some s' ∧ tflipN (k + 1) s = some s' := by
  have hall : ∀ j, j ≤ 4 → (tflipN j s).isSome = true := by
    have h4 : (tflipN 4 s).isSome = true := by rw [h]; rfl
    have down : ∀ j, (tflipN (j + 1) s).isSome = true → (tflipN j s).isSome = true := by
      intro j hj
      cases hn : tflipN j s with
      | none => simp [tflipN, hn] at hj
      | some x => rfl
    intro j hj
    have h3 := down 3 h4
    have h2 := down 2 h3
    have h1 := down 1 h2
    have h0 := down 0 h1
    match j, hj with
    | 0, _ => exact h0
    | 1, _ => exact h1
    | 2, _ => exact h2
    | 3, _ => exact h3
    | 4, _ => exact h4
  have := hall (k + 1) (by omega)
  simp only [tflipN, hs, Option.bind_some] at this ⊢
  cases ht : tflip1 sk k with
  | none => rw [ht] at this; cases this
  | some s' => exact ⟨s', rfl, rfl⟩

theorem tmove_same {s s' : TH} {x c t mark l : Nat} (h : tmove s x c t mark l = some s') : s'.now = s.now ∧ s'.roots = s.roots ∧ s'.marking = s.marking ∧ s'.start = s.start ∧ s'.count = s.count ∧ s'.k = s.k ∧ s'.cycles = s.cycles ∧ s'.wait = s.wait ∧ s'.tries = s.tries := by
  obtain ⟨hd, W1, W2, W3, -, -, -, -, -, rfl⟩ := tmove_parts h
  exact ⟨rfl, rfl, rfl, rfl, rfl, rfl, rfl, rfl, rfl⟩
theorem tshade_same {s s' : TH} {x : Nat} (h : tshade s x = some s') : s'.now = s.now ∧ s'.roots = s.roots ∧ s'.marking = s.marking ∧ s'.start = s.start ∧ s'.count = s.count ∧ s'.k = s.k ∧ s'.cycles = s.cycles ∧ s'.wait = s.wait ∧ s'.tries = s.tries := by
  obtain ⟨-, h1⟩ := tshade_parts h
  rcases h1 with ⟨-, rfl⟩ | ⟨q, k, hd, -, -, ⟨-, rfl⟩ | ⟨-, -, -, h2⟩⟩
  · exact ⟨rfl, rfl, rfl, rfl, rfl, rfl, rfl, rfl, rfl⟩
  · exact ⟨rfl, rfl, rfl, rfl, rfl, rfl, rfl, rfl, rfl⟩
  · have h3 := tmove_same h2
    exact h3
theorem shadeAll_step {l : List Nat} {s s' : TH} {k : Nat} (hk : k < l.length) (h : shadeAll (l.drop k) s = some s') : ∃ t, tshade s (l.getD k 0) = some t ∧ shadeAll (l.drop (k + 1)) t = some s' := by
  rw [List.drop_eq_getElem_cons hk] at h
  simp only [shadeAll, Option.bind_eq_some_iff] at h
  obtain ⟨t, h1, h2⟩ := h
  exact ⟨t, by simpa [List.getD, hk] using h1, h2⟩
theorem cut1 {l : List Nat} {n : Nat} (h : l.length = n + 1) : ∃ a t, l = a :: t ∧ t.length = n := by
  cases l with
  | nil => cases h
  | cons a t => exact ⟨a, t, rfl, by simpa using h⟩
theorem twelve {l : List Nat} (h : l.length = 12) : ∃ a0 a1 a2 a3 a4 a5 a6 a7 a8 a9 a10 a11, l = [a0, a1, a2, a3, a4, a5, a6, a7, a8, a9, a10, a11] := by
  obtain ⟨a0, l0, rfl, h0⟩ := cut1 h
  obtain ⟨a1, l1, rfl, h1⟩ := cut1 h0
  obtain ⟨a2, l2, rfl, h2⟩ := cut1 h1
  obtain ⟨a3, l3, rfl, h3⟩ := cut1 h2
  obtain ⟨a4, l4, rfl, h4⟩ := cut1 h3
  obtain ⟨a5, l5, rfl, h5⟩ := cut1 h4
  obtain ⟨a6, l6, rfl, h6⟩ := cut1 h5
  obtain ⟨a7, l7, rfl, h7⟩ := cut1 h6
  obtain ⟨a8, l8, rfl, h8⟩ := cut1 h7
  obtain ⟨a9, l9, rfl, h9⟩ := cut1 h8
  obtain ⟨a10, l10, rfl, h10⟩ := cut1 h9
  obtain ⟨a11, l11, rfl, h11⟩ := cut1 h10
  rw [List.length_eq_zero_iff] at h11
  subst h11
  exact ⟨a0, a1, a2, a3, a4, a5, a6, a7, a8, a9, a10, a11, rfl⟩
section
variable (a0 a1 a2 a3 a4 a5 a6 a7 a8 a9 a10 a11 : Nat) (w : World)
theorem rootAt0 : (Instr.index 93 (.agg #[.int .u64 a0, .int .u64 a1, .int .u64 a2, .int .u64 a3, .int .u64 a4, .int .u64 a5, .int .u64 a6, .int .u64 a7, .int .u64 a8, .int .u64 a9, .int .u64 a10, .int .u64 a11]) (.int .i64 ((0 : Nat) : Int))).run Try.prog w = .ok (.int .u64 ((([a0, a1, a2, a3, a4, a5, a6, a7, a8, a9, a10, a11] : List Nat).getD 0 0 : Nat) : Int)) w := by kernel_rfl
theorem rootAt1 : (Instr.index 93 (.agg #[.int .u64 a0, .int .u64 a1, .int .u64 a2, .int .u64 a3, .int .u64 a4, .int .u64 a5, .int .u64 a6, .int .u64 a7, .int .u64 a8, .int .u64 a9, .int .u64 a10, .int .u64 a11]) (.int .i64 ((1 : Nat) : Int))).run Try.prog w = .ok (.int .u64 ((([a0, a1, a2, a3, a4, a5, a6, a7, a8, a9, a10, a11] : List Nat).getD 1 0 : Nat) : Int)) w := by kernel_rfl
theorem rootAt2 : (Instr.index 93 (.agg #[.int .u64 a0, .int .u64 a1, .int .u64 a2, .int .u64 a3, .int .u64 a4, .int .u64 a5, .int .u64 a6, .int .u64 a7, .int .u64 a8, .int .u64 a9, .int .u64 a10, .int .u64 a11]) (.int .i64 ((2 : Nat) : Int))).run Try.prog w = .ok (.int .u64 ((([a0, a1, a2, a3, a4, a5, a6, a7, a8, a9, a10, a11] : List Nat).getD 2 0 : Nat) : Int)) w := by kernel_rfl
theorem rootAt3 : (Instr.index 93 (.agg #[.int .u64 a0, .int .u64 a1, .int .u64 a2, .int .u64 a3, .int .u64 a4, .int .u64 a5, .int .u64 a6, .int .u64 a7, .int .u64 a8, .int .u64 a9, .int .u64 a10, .int .u64 a11]) (.int .i64 ((3 : Nat) : Int))).run Try.prog w = .ok (.int .u64 ((([a0, a1, a2, a3, a4, a5, a6, a7, a8, a9, a10, a11] : List Nat).getD 3 0 : Nat) : Int)) w := by kernel_rfl
theorem rootAt4 : (Instr.index 93 (.agg #[.int .u64 a0, .int .u64 a1, .int .u64 a2, .int .u64 a3, .int .u64 a4, .int .u64 a5, .int .u64 a6, .int .u64 a7, .int .u64 a8, .int .u64 a9, .int .u64 a10, .int .u64 a11]) (.int .i64 ((4 : Nat) : Int))).run Try.prog w = .ok (.int .u64 ((([a0, a1, a2, a3, a4, a5, a6, a7, a8, a9, a10, a11] : List Nat).getD 4 0 : Nat) : Int)) w := by kernel_rfl
theorem rootAt5 : (Instr.index 93 (.agg #[.int .u64 a0, .int .u64 a1, .int .u64 a2, .int .u64 a3, .int .u64 a4, .int .u64 a5, .int .u64 a6, .int .u64 a7, .int .u64 a8, .int .u64 a9, .int .u64 a10, .int .u64 a11]) (.int .i64 ((5 : Nat) : Int))).run Try.prog w = .ok (.int .u64 ((([a0, a1, a2, a3, a4, a5, a6, a7, a8, a9, a10, a11] : List Nat).getD 5 0 : Nat) : Int)) w := by kernel_rfl
theorem rootAt6 : (Instr.index 93 (.agg #[.int .u64 a0, .int .u64 a1, .int .u64 a2, .int .u64 a3, .int .u64 a4, .int .u64 a5, .int .u64 a6, .int .u64 a7, .int .u64 a8, .int .u64 a9, .int .u64 a10, .int .u64 a11]) (.int .i64 ((6 : Nat) : Int))).run Try.prog w = .ok (.int .u64 ((([a0, a1, a2, a3, a4, a5, a6, a7, a8, a9, a10, a11] : List Nat).getD 6 0 : Nat) : Int)) w := by kernel_rfl
theorem rootAt7 : (Instr.index 93 (.agg #[.int .u64 a0, .int .u64 a1, .int .u64 a2, .int .u64 a3, .int .u64 a4, .int .u64 a5, .int .u64 a6, .int .u64 a7, .int .u64 a8, .int .u64 a9, .int .u64 a10, .int .u64 a11]) (.int .i64 ((7 : Nat) : Int))).run Try.prog w = .ok (.int .u64 ((([a0, a1, a2, a3, a4, a5, a6, a7, a8, a9, a10, a11] : List Nat).getD 7 0 : Nat) : Int)) w := by kernel_rfl
theorem rootAt8 : (Instr.index 93 (.agg #[.int .u64 a0, .int .u64 a1, .int .u64 a2, .int .u64 a3, .int .u64 a4, .int .u64 a5, .int .u64 a6, .int .u64 a7, .int .u64 a8, .int .u64 a9, .int .u64 a10, .int .u64 a11]) (.int .i64 ((8 : Nat) : Int))).run Try.prog w = .ok (.int .u64 ((([a0, a1, a2, a3, a4, a5, a6, a7, a8, a9, a10, a11] : List Nat).getD 8 0 : Nat) : Int)) w := by kernel_rfl
theorem rootAt9 : (Instr.index 93 (.agg #[.int .u64 a0, .int .u64 a1, .int .u64 a2, .int .u64 a3, .int .u64 a4, .int .u64 a5, .int .u64 a6, .int .u64 a7, .int .u64 a8, .int .u64 a9, .int .u64 a10, .int .u64 a11]) (.int .i64 ((9 : Nat) : Int))).run Try.prog w = .ok (.int .u64 ((([a0, a1, a2, a3, a4, a5, a6, a7, a8, a9, a10, a11] : List Nat).getD 9 0 : Nat) : Int)) w := by kernel_rfl
theorem rootAt10 : (Instr.index 93 (.agg #[.int .u64 a0, .int .u64 a1, .int .u64 a2, .int .u64 a3, .int .u64 a4, .int .u64 a5, .int .u64 a6, .int .u64 a7, .int .u64 a8, .int .u64 a9, .int .u64 a10, .int .u64 a11]) (.int .i64 ((10 : Nat) : Int))).run Try.prog w = .ok (.int .u64 ((([a0, a1, a2, a3, a4, a5, a6, a7, a8, a9, a10, a11] : List Nat).getD 10 0 : Nat) : Int)) w := by kernel_rfl
theorem rootAt11 : (Instr.index 93 (.agg #[.int .u64 a0, .int .u64 a1, .int .u64 a2, .int .u64 a3, .int .u64 a4, .int .u64 a5, .int .u64 a6, .int .u64 a7, .int .u64 a8, .int .u64 a9, .int .u64 a10, .int .u64 a11]) (.int .i64 ((11 : Nat) : Int))).run Try.prog w = .ok (.int .u64 ((([a0, a1, a2, a3, a4, a5, a6, a7, a8, a9, a10, a11] : List Nat).getD 11 0 : Nat) : Int)) w := by kernel_rfl
end
theorem rootAt (a0 a1 a2 a3 a4 a5 a6 a7 a8 a9 a10 a11 k : Nat) (hk : k < 12) (w : World) : (Instr.index 93 (.agg #[.int .u64 a0, .int .u64 a1, .int .u64 a2, .int .u64 a3, .int .u64 a4, .int .u64 a5, .int .u64 a6, .int .u64 a7, .int .u64 a8, .int .u64 a9, .int .u64 a10, .int .u64 a11]) (.int .i64 k)).run Try.prog w = .ok (.int .u64 (([a0, a1, a2, a3, a4, a5, a6, a7, a8, a9, a10, a11] : List Nat).getD k 0 : Nat)) w := by
  have : k = 0 ∨ k = 1 ∨ k = 2 ∨ k = 3 ∨ k = 4 ∨ k = 5 ∨ k = 6 ∨ k = 7 ∨ k = 8 ∨ k = 9 ∨ k = 10 ∨ k = 11 := by omega
  rcases this with rfl | rfl | rfl | rfl | rfl | rfl | rfl | rfl | rfl | rfl | rfl | rfl
  · exact rootAt0 a0 a1 a2 a3 a4 a5 a6 a7 a8 a9 a10 a11 w
  · exact rootAt1 a0 a1 a2 a3 a4 a5 a6 a7 a8 a9 a10 a11 w
  · exact rootAt2 a0 a1 a2 a3 a4 a5 a6 a7 a8 a9 a10 a11 w
  · exact rootAt3 a0 a1 a2 a3 a4 a5 a6 a7 a8 a9 a10 a11 w
  · exact rootAt4 a0 a1 a2 a3 a4 a5 a6 a7 a8 a9 a10 a11 w
  · exact rootAt5 a0 a1 a2 a3 a4 a5 a6 a7 a8 a9 a10 a11 w
  · exact rootAt6 a0 a1 a2 a3 a4 a5 a6 a7 a8 a9 a10 a11 w
  · exact rootAt7 a0 a1 a2 a3 a4 a5 a6 a7 a8 a9 a10 a11 w
  · exact rootAt8 a0 a1 a2 a3 a4 a5 a6 a7 a8 a9 a10 a11 w
  · exact rootAt9 a0 a1 a2 a3 a4 a5 a6 a7 a8 a9 a10 a11 w
  · exact rootAt10 a0 a1 a2 a3 a4 a5 a6 a7 a8 a9 a10 a11 w
  · exact rootAt11 a0 a1 a2 a3 a4 a5 a6 a7 a8 a9 a10 a11 w

set_option maxRecDepth 100000 in
set_option maxHeartbeats 2000000 in
theorem flip_is {hb b g : Nat} {s s' : TH} {w : World} (hI : IsTH w hb b g s) (hs : tflip s = some s') (hnow : s.now ≤ 1) :
    Calls Try.prog 64 #[.pointer (some ⟨hb, 0, none⟩)] w fun e w' => e = .returned (.tuple #[]) ∧ IsTH w' hb b g s' ∧ Keeps (foot3 hb b g) w w' := by
  obtain ⟨s4, h4, hsh⟩ := tflip_parts hs
  obtain ⟨nw, hnw⟩ : ∃ nw, s.now = nw := ⟨_, rfl⟩
  rw [hnw] at hnow h4
  obtain ⟨z, hz⟩ : ∃ z, 1 - nw = z := ⟨_, rfl⟩
  have hz2 : 1 - (nw : Int) = (z : Int) := by omega
  have hz1 : z ≤ 1 := by omega
  have hwz : IntKind.i64.wrap (z : Int) = (z : Int) := by
    simp only [IntKind.wrap]
    simp [IntKind.bits, IntKind.signed]
    omega
  have hwz2 : wrap64 (z : Int) = (z : Int) := by unfold wrap64; omega
  rw [hz] at h4
  have hcn := hI.now
  rw [hnw] at hcn
  have hfn := hI.frozen 39
  have H := Box.mk (hI.putNow z)
  have H4 := Box.mk h4
  have Hsh := Box.mk hsh
  have K0 := Box.mk ((Keeps.refl (foot3 hb b g) w).setCell (p := ⟨hb, 39, none⟩) (fun _ => Or.inl rfl) (.int .i64 (z : Int)))
  clear hI hs h4 hsh hz hnw
  go_enter Try.func64, Try.ntmps64
  go_wp2_with fail
  clear hcn hfn
  go_loopw [13] (fun i wr => ∃ (k : Nat) (sk : TH), k ≤ 4 ∧ i = .int .i64 k ∧ Box (tflipN k { s with now := z } = some sk) ∧ Box (IsTH wr hb b g sk) ∧ Box (Keeps (foot3 hb b g) w wr)) (fun i _ => 4 - (intOf i).toNat)
  case atStart => exact ⟨0, { s with now := z }, Nat.zero_le _, rfl, ⟨rfl⟩, H, K0⟩
  case round =>
    clear H K0
    obtain ⟨k, sk, hk, rfl, HN, HS, K⟩ := hrel
    by_cases hk4 : k < 4
    · have hk0 : (0 : Int) ≤ (k : Int) := by omega
      have hk1 : (k : Int) < 4 := by omega
      obtain ⟨s', ht, hN'⟩ := tflipN_step H4.out hk4 HN.out
      obtain ⟨W, hj, rfl⟩ := tflip1_parts ht
      obtain ⟨n1, hn1⟩ : ∃ n, lget sk k 1 = n := ⟨_, rfl⟩
      rw [hn1] at hN'
      obtain ⟨p1, hp1⟩ : ∃ p, thead k 1 = p := ⟨_, rfl⟩
      obtain ⟨p2, hp2⟩ : ∃ p, thead k 2 = p := ⟨_, rfl⟩
      have hd1 : ∀ W, Calls Try.prog 70 #[.int .i64 k, .int .i64 1] W fun e w' => e = .returned (.int .i64 p1) ∧ w' = W := fun W => by rw [← hp1]; exact head_is k 1 W (by omega) (by omega)
      have hd2 : ∀ W, Calls Try.prog 70 #[.int .i64 k, .int .i64 2] W fun e w' => e = .returned (.int .i64 p2) ∧ w' = W := fun W => by rw [← hp2]; exact head_is k 2 W (by omega) (by omega)
      rw [hp1, hp2] at hj
      have Hd := Box.mk (And.intro hd1 hd2)
      have Hj := Box.mk hj
      have HN' := Box.mk hN'
      have Hn := Box.mk hn1
      have hst := HS.out.store
      clear hd1 hd2 hj hN' ht hn1 hp1 hp2 HN
      go_wp2_with fail
      go_region_held3 (fun w' => w'.cell? ⟨hb, 0, none⟩ = some (.pointer (some ⟨b, 0, none⟩))) (first | exact kj.cell hst (by have := HS.out.ne; unfold foot; simp only; omega) | go_keep) (first | (go_at_call 70; refine (Hd.out.1 _).mono ?_; rintro e w2 ⟨rfl, rfl⟩) | (go_at_call 70; refine (Hd.out.2 _).mono ?_; rintro e w2 ⟨rfl, rfl⟩) | (go_at_call 93; refine (ojoin_is (w := wr.drew) (HS.out.keeps0 ((Keeps.refl (fun _ => False) wr).drew)).iw Hj.out).mono ?_; rintro e w3 ⟨rfl, hI3, kj⟩))
      have kj' : Keeps (foot b g) wr w3 := ⟨kj.os, kj.tape, kj.output, kj.size, kj.block⟩
      have H3 := Box.mk (HS.out.ring kj' hI3)
      have K3 := Box.mk (K.out.trans (kj'.mono (S' := foot3 hb b g) (fun i _ h => Or.inr h)))
      have hc1 := H3.out.lists (i := 4 * k + 1) (by omega)
      have hc2 := H3.out.lists (i := 4 * k + 2) (by omega)
      have hf1 := H3.out.frozen (10 + (4 * k + 1))
      have hf2 := H3.out.frozen (10 + (4 * k + 2))
      have hA := (H3.out.putList (i := 4 * k + 2) (by omega) n1).putList (i := 4 * k + 1) (by omega) 0
      have hB := (H3.out.putList (i := 4 * k + 1) (by omega) 0).putList (i := 4 * k + 2) (by omega) n1
      rw [show sk.lists.getD (4 * k + 1) 0 = n1 from Hn.out] at hc1
      have e1 : 10 + (4 * k + 1) = 10 + k * 4 + 1 := by omega
      have e2 : 10 + (4 * k + 2) = 10 + k * 4 + 2 := by omega
      rw [e1] at hc1 hf1 hA hB
      rw [e2] at hc2 hf2 hA hB
      have HA := Box.mk hA
      have HBx := Box.mk hB
      clear hA hB kj kj' hI3 hst HS K e1 e2
      go_wp2_with fail
      go_region
      have HP := Box.mk (HA.out.keeps0 ((Keeps.refl (fun _ => False) _).drew))
      have KP := Box.mk ((((K3.out.setCell (p := ⟨hb, 10 + k * 4 + 2, none⟩) (fun _ => Or.inl rfl) (.int .i64 (n1 : Int))).setCell (p := ⟨hb, 10 + k * 4 + 1, none⟩) (fun _ => Or.inl rfl) (.int .i64 ((0 : Nat) : Int)))).drew)
      clear HA HBx H3 K3 hc1 hc2 hf1 hf2
      go_wp2_with fail
      go_roundw
      case rel => exact ⟨k + 1, _, by omega, by go_num, HN', HP, KP⟩
      case measure => simp [intOf]; omega
    · have hk4' : k = 4 := by omega
      subst hk4'
      have e : sk = s4 := by
        have h := HN.out
        rw [H4.out] at h
        injection h with h
        exact h.symm
      subst e
      have hm := HS.out.marking
      have htr := HS.out.tries
      have fm := HS.out.frozen 40
      have ft := HS.out.frozen 43
      have HP := Box.mk ((HS.out.putMarking true).putTries 0)
      have KP := Box.mk ((K.out.setCell (p := ⟨hb, 40, none⟩) (fun _ => Or.inl rfl) (.bool true)).setCell (p := ⟨hb, 43, none⟩) (fun _ => Or.inl rfl) (.int .i64 ((0 : Nat) : Int)))
      obtain ⟨a0, a1, a2, a3, a4, a5, a6, a7, a8, a9, a10, a11, hroots⟩ := twelve HS.out.ls.d
      have Hro := Box.mk hroots
      have r0 := HS.out.roots (i := 0) (by decide)
      have r1 := HS.out.roots (i := 1) (by decide)
      have r2 := HS.out.roots (i := 2) (by decide)
      have r3 := HS.out.roots (i := 3) (by decide)
      have r4 := HS.out.roots (i := 4) (by decide)
      have r5 := HS.out.roots (i := 5) (by decide)
      have r6 := HS.out.roots (i := 6) (by decide)
      have r7 := HS.out.roots (i := 7) (by decide)
      have r8 := HS.out.roots (i := 8) (by decide)
      have r9 := HS.out.roots (i := 9) (by decide)
      have r10 := HS.out.roots (i := 10) (by decide)
      have r11 := HS.out.roots (i := 11) (by decide)
      rw [hroots] at r0 r1 r2 r3 r4 r5 r6 r7 r8 r9 r10 r11
      simp only [List.getD, List.getElem?_cons_zero, List.getElem?_cons_succ, Option.getD_some, Nat.reduceAdd, Nat.add_zero] at r0 r1 r2 r3 r4 r5 r6 r7 r8 r9 r10 r11
      have Hnow : Box (sk.now ≤ 1) := ⟨by
        have : ∀ j t, tflipN j { s with now := z } = some t → t.now = z := by
          intro j
          induction j with
          | zero => intro t ht; simp only [tflipN, Option.some.injEq] at ht; rw [← ht]
          | succ j ih =>
            intro t ht
            simp only [tflipN, Option.bind_eq_some_iff] at ht
            obtain ⟨u, hu, ht⟩ := ht
            obtain ⟨W, -, rfl⟩ := tflip1_parts ht
            exact ih u hu
        rw [this 4 sk H4.out]
        exact hz1⟩
      clear HS K H4 HN hroots
      have hat := rootAt a0 a1 a2 a3 a4 a5 a6 a7 a8 a9 a10 a11
      go_wp2_with fail
      clear hm htr fm ft r0 r1 r2 r3 r4 r5 r6 r7 r8 r9 r10 r11
      go_loopw [55] (fun i wr => ∃ (k : Nat) (sj : TH), k ≤ 12 ∧ i = .int .i64 k ∧ Box (shadeAll (([a0, a1, a2, a3, a4, a5, a6, a7, a8, a9, a10, a11] : List Nat).drop k) sj = some s') ∧ Box (IsTH wr hb b g sj) ∧ Box (sj.now ≤ 1) ∧ Box (Keeps (foot3 hb b g) w wr)) (fun i _ => 12 - (intOf i).toNat)
      case atStart => exact ⟨0, _, Nat.zero_le _, rfl, ⟨by have := Hsh.out; rw [← Hro.out]; exact this⟩, HP, Hnow, KP⟩
      case round =>
        clear HP KP Hnow Hsh
        obtain ⟨k, sj, hk, rfl, HN, HS, Hnow, K⟩ := hrel
        by_cases hk12 : k < 12
        · have hk0 : (0 : Int) ≤ (k : Int) := by omega
          have hk1 : (k : Int) < 12 := by omega
          obtain ⟨t, ht, hN'⟩ := shadeAll_step (l := [a0, a1, a2, a3, a4, a5, a6, a7, a8, a9, a10, a11]) hk12 HN.out
          have hix := hat k hk12
          obtain ⟨x, hx⟩ : ∃ x, ([a0, a1, a2, a3, a4, a5, a6, a7, a8, a9, a10, a11] : List Nat).getD k 0 = x := ⟨_, rfl⟩
          rw [hx] at ht hix
          have Ht := Box.mk ht
          have HN' := Box.mk hN'
          clear hx ht hN' HN hat
          go_wp2_with fail
          refine (shade_is HS.out Ht.out Hnow.out).mono ?_
          rintro e w2 ⟨rfl, hI2, k2⟩
          have H2 := Box.mk hI2
          have K2 := Box.mk (K.out.trans k2)
          have Hn2 : Box (t.now ≤ 1) := ⟨by rw [(tshade_same Ht.out).1]; exact Hnow.out⟩
          clear hI2 k2 HS K
          go_wp2_with fail
          go_roundw
          case rel => exact ⟨k + 1, _, by omega, by go_num, HN', H2, Hn2, K2⟩
          case measure => simp [intOf]; omega
        · have hk12' : k = 12 := by omega
          subst hk12'
          have e : sj = s' := by
            have h := HN.out
            simp only [List.drop, shadeAll, Option.some.injEq] at h
            exact h
          subst e
          go_wp2_with fail
          go_end0
          exact ⟨rfl, HS.out, K.out⟩

end Go.Proofs.Ytbjlapfcnldpoaa
