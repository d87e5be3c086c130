/- The heap's shade by its contract. -/
import Derived.Test.YtbjlapfcnldpoaaTMove
namespace Go.Proofs.Ytbjlapfcnldpoaa
set_option linter.unusedVariables false
set_option linter.unusedSimpArgs false
open Go.RowKit

theorem tclass_lt {s : TH} {x k : Nat} (h : tclass s x = some k) : k < 4 := by
  have key : ∀ c r, tclassAt s x c = some r → r = some k → k = c := by
    intro c r h1 h2
    unfold tclassAt at h1
    split at h1
    · injection h1 with h1
      split at h1
      · rw [← h1] at h2; injection h2 with h2; exact h2.symm
      · rw [← h1] at h2; cases h2
    · cases h1
  unfold tclass at h
  split at h
  · rename_i r h1; have := key 0 r h1 h; omega
  · split at h
    · rename_i r h1; have := key 1 r h1 h; omega
    · split at h
      · rename_i r h1; have := key 2 r h1 h; omega
      · split at h
        · rename_i r h1; have := key 3 r h1 h; omega
        · cases h
theorem tplace_lt {s : TH} {x q k : Nat} (h : tplace s x = some (q, k)) : k < 4 := by
  unfold tplace at h
  split at h
  · cases hc : tclass s (x / 8) with
    | none => rw [hc] at h; cases h
    | some c => rw [hc] at h; simp at h; have := tclass_lt hc; omega
  · cases h
theorem tshade_parts {s s' : TH} {x : Nat} (h : tshade s x = some s') : x < 18446744073709551616 ∧ (tplace s x = none ∧ s' = s ∨ ∃ q k hd, tplace s x = some (q, k) ∧ rdh s.W q = some hd ∧
    (hmark hd ≠ 1 - s.now ∧ s' = s ∨ hmark hd = 1 - s.now ∧ 0 < lget s k 2 ∧ lget s k 2 < 1000000 ∧ tmove (lset s k 2 (lget s k 2 - 1)) q k (thead k 3) 2 3 = some s')) := by
  unfold tshade at h
  split at h
  · cases h
  · rename_i hx
    refine ⟨by omega, ?_⟩
    split at h
    · rename_i hp
      injection h with h
      exact Or.inl ⟨hp, h.symm⟩
    · rename_i q k hp
      right
      simp only [Option.bind_eq_bind, Option.bind_eq_some_iff] at h
      obtain ⟨hd, h1, h2⟩ := h
      refine ⟨q, k, hd, hp, h1, ?_⟩
      split at h2
      · rename_i hm
        simp only [Option.pure_def, Option.some.injEq] at h2
        exact Or.inl ⟨hm, h2.symm⟩
      · rename_i hm
        simp only [Option.bind_eq_some_iff] at h2
        obtain ⟨u, h3, u', h3', h4⟩ := h2
        refine Or.inr ⟨by simpa using hm, ?_, ?_, h4⟩
        · unfold req at h3
          split at h3
          · rename_i h5; simpa using h5
          · cases h3
        · unfold req at h3'
          split at h3'
          · rename_i h5; simpa using h5
          · cases h3'

set_option maxRecDepth 100000 in
set_option maxHeartbeats 2000000 in
theorem shade_is {hb b g : Nat} {s s' : TH} {w : World} {x : Nat} (hI : IsTH w hb b g s) (hs : tshade s x = some s') (hnow : s.now ≤ 1) :
    Calls Try.prog 80 #[.pointer (some ⟨hb, 0, none⟩), .int .u64 x] w fun e w' => e = .returned (.tuple #[]) ∧ IsTH w' hb b g s' ∧ Keeps (foot3 hb b g) w w' := by
  obtain ⟨hx, hcase⟩ := tshade_parts hs
  have H := Box.mk hI
  clear hI hs
  rcases hcase with ⟨hp, rfl⟩ | ⟨q, k, hd, hp, hr, hcase⟩
  · have Hp := Box.mk hp
    clear hp
    go_enter Try.func80, Try.ntmps80
    go_wp2_with fail
    refine (place_is x H.out hx).mono ?_
    rintro e w1 ⟨⟨p, c, ok, rfl, hok, -⟩, k1⟩
    rw [Hp.out] at hok
    subst hok
    have H1 := Box.mk (H.out.keeps0 k1)
    have K1 := Box.mk (k1.mono (S' := foot3 hb b g) (fun _ _ h => h.elim))
    clear k1 H
    simp only [Option.isSome_none]
    go_wp2_with fail
    go_quiet (fail)
    go_wp2_with fail
    exact bodyPost_ret (results_none rfl _ _ _) rfl ⟨rfl, H1.out.keeps0 ((Keeps.refl (fun _ => False) w1).drewN _), K1.out.drewN _⟩
  · have hk4 := tplace_lt hp
    obtain ⟨vf, hvf⟩ : ∃ vf, hform hd = vf := ⟨_, rfl⟩
    obtain ⟨vt, hvt⟩ : ∃ vt, htag hd = vt := ⟨_, rfl⟩
    obtain ⟨vm, hvm⟩ : ∃ vm, hmark hd = vm := ⟨_, rfl⟩
    obtain ⟨vn, hvn⟩ : ∃ vn, hn hd = vn := ⟨_, rfl⟩
    have Hat : Box (∀ W, IsTH W hb b g s → Calls Try.prog 77 #[.pointer (some ⟨hb, 0, none⟩), .int .i64 q] W fun e w' => e = .returned (.agg #[.int .i64 (vf : Int), .int .i64 (vt : Int), .int .i64 (vm : Int), .int .i64 (vn : Int)]) ∧ IsTH w' hb b g s ∧ Keeps (foot3 hb b g) W w') := ⟨fun W hW => by
      have := at_is q hW hr
      rw [hvf, hvt, hvm, hvn] at this
      exact this⟩
    rw [hvm] at hcase
    have Hp := Box.mk hp
    clear hp hr hvf hvt hvm hvn
    obtain ⟨nw, hnw⟩ : ∃ nw, s.now = nw := ⟨_, rfl⟩
    have Hnw := Box.mk hnw
    rw [hnw] at hcase hnow
    have Hcn : Box (∀ W, IsTH W hb b g s → W.cell? ⟨hb, 39, none⟩ = some (.int .i64 nw)) := ⟨fun W hW => by have := hW.now; rwa [hnw] at this⟩
    clear hnw
    obtain ⟨z, hz⟩ : ∃ z, 1 - nw = z := ⟨_, rfl⟩
    have hz2 : 1 - (nw : Int) = (z : Int) := by omega
    have hz1 : z ≤ 1 := by omega
    rw [hz] at hcase
    have hwz : IntKind.i64.wrap (z : Int) = (z : Int) := by
      simp only [IntKind.wrap]
      simp [IntKind.bits, IntKind.signed]
      omega
    clear hz
    have hfd : ∀ w : World, (Instr.field 110 (.agg #[.int .i64 (vf : Int), .int .i64 (vt : Int), .int .i64 (vm : Int), .int .i64 (vn : Int)]) 2).run Try.prog w = .ok (.int .i64 (vm : Int)) w := fun _ => by kernel_rfl
    rcases hcase with ⟨hm, rfl⟩ | ⟨hm, hpos, hbig, hmv⟩
    · have hm2 : ((vm : Int) != (z : Int)) = true := by rw [bne_iff_ne]; omega
      clear hm
      go_enter Try.func80, Try.ntmps80
      go_wp2_with fail
      refine (place_is x H.out hx).mono ?_
      rintro e w1 ⟨⟨p, c, ok, rfl, hok, hpc⟩, k1⟩
      obtain ⟨rfl, rfl⟩ := hpc _ _ Hp.out
      rw [Hp.out] at hok
      subst hok
      have H1 := Box.mk (H.out.keeps0 k1)
      have K1 := Box.mk (k1.mono (S' := foot3 hb b g) (fun _ _ h => h.elim))
      clear k1 H hpc
      simp only [Option.isSome_some]
      have hcn := H1.out.now
      rw [Hnw.out] at hcn
      go_wp2_with fail
      go_region_held3 (fun w' => w'.cell? ⟨hb, 39, none⟩ = some (.int .i64 nw)) (first | exact Hcn.out _ hI2 | go_keep) (first | (go_at_call 77; refine (Hat.out w1.drew (H1.out.keeps0 ((Keeps.refl (fun _ => False) w1).drew))).mono ?_; rintro e w2 ⟨rfl, hI2, k2⟩) | fail)
      all_goals
        have H2 := Box.mk hI2
        have K2 := Box.mk (K1.out.trans (show Keeps (foot3 hb b g) w1 _ from ⟨k2.os, k2.tape, k2.output, k2.size, k2.block⟩))
        clear hI2 k2 H1 K1
        go_wp2_with fail
        exact bodyPost_ret (results_none rfl _ _ _) rfl ⟨rfl, H2.out, K2.out⟩
    · have hm2 : ((vm : Int) != (z : Int)) = false := by rw [bne_eq_false_iff_eq]; omega
      obtain ⟨n, hn⟩ : ∃ n, lget s k 2 = n := ⟨_, rfl⟩
      obtain ⟨m, hnm⟩ : ∃ m, n - 1 = m := ⟨_, rfl⟩
      rw [hn] at hpos hbig
      have hmb : m < 1000000 := by omega
      have hn1 : (n : Int) - 1 = (m : Int) := by omega
      rw [hn, hnm] at hmv
      have Hmv := Box.mk hmv
      have Hn := Box.mk hn
      clear hm hmv hnm hn
      go_enter Try.func80, Try.ntmps80
      go_wp2_with fail
      refine (place_is x H.out hx).mono ?_
      rintro e w1 ⟨⟨p, c, ok, rfl, hok, hpc⟩, k1⟩
      obtain ⟨rfl, rfl⟩ := hpc _ _ Hp.out
      rw [Hp.out] at hok
      subst hok
      have H1 := Box.mk (H.out.keeps0 k1)
      have K1 := Box.mk (k1.mono (S' := foot3 hb b g) (fun _ _ h => h.elim))
      clear k1 H hpc
      simp only [Option.isSome_some]
      have hcn := H1.out.now
      rw [Hnw.out] at hcn
      go_wp2_with fail
      go_region_held3 (fun w' => w'.cell? ⟨hb, 39, none⟩ = some (.int .i64 nw)) (first | exact Hcn.out _ hI2 | go_keep) (first | (go_at_call 77; refine (Hat.out w1.drew (H1.out.keeps0 ((Keeps.refl (fun _ => False) w1).drew))).mono ?_; rintro e w2 ⟨rfl, hI2, k2⟩) | fail)
      all_goals
        have H2 := Box.mk hI2
        have K2 := Box.mk (K1.out.trans (show Keeps (foot3 hb b g) w1 _ from ⟨k2.os, k2.tape, k2.output, k2.size, k2.block⟩))
        have hcell := hI2.lists (i := 4 * k + 2) (by omega)
        have hfz := hI2.frozen (10 + (4 * k + 2))
        have hput := hI2.putList (i := 4 * k + 2) (by omega) m
        rw [show s.lists.getD (4 * k + 2) 0 = n from Hn.out, show 10 + (4 * k + 2) = 10 + k * 4 + 2 by omega] at hcell
        rw [show 10 + (4 * k + 2) = 10 + k * 4 + 2 by omega] at hfz hput
        have HP : Box (IsTH (w2.setCell ⟨hb, 10 + k * 4 + 2, none⟩ (.int .i64 m)) hb b g (lset s k 2 m)) := ⟨hput⟩
        have KP := Box.mk (K2.out.setCell (p := ⟨hb, 10 + k * 4 + 2, none⟩) (fun _ => Or.inl rfl) (.int .i64 (m : Int)))
        have hk0 : (0 : Int) ≤ (k : Int) := by omega
        have hk1 : (k : Int) < 4 := by omega
        clear hput hI2 k2 H1 K1 H2 K2
        go_wp2_with fail
        go_region
        go_wp2_with fail
        refine (head_is k 3 _ (by omega) (by omega)).mono ?_
        rintro e w5 ⟨rfl, rfl⟩
        go_wp2_with fail
        refine (move_is (s := lset s k 2 m) (HP.out.keeps0 ((Keeps.refl (fun _ => False) _).drew)) Hmv.out hk4 (by decide) (by decide)).mono ?_
        rintro e w6 ⟨rfl, hI6, k6⟩
        have H6 := Box.mk hI6
        have K6 := Box.mk (KP.out.drew.trans k6)
        clear hI6 k6 HP KP
        go_wp2_with fail
        go_end0
        exact ⟨rfl, H6.out, K6.out⟩

end Go.Proofs.Ytbjlapfcnldpoaa
