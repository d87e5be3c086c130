/- The acts of a script that is cut off. -/
import Derived.Test.YtljmfiegkefpoaaScript3
namespace Go.Proofs.Ytljmfiegkefpoaa
set_option linter.unusedVariables false
set_option linter.unusedSimpArgs false
open Go.RowKit

theorem byt_cut (r : ByteArray) (d i : Nat) (hd : d ≤ r.size) (h : i < d) : byt (r.extract 0 d) i = byt r i := by
  have := byt_extract r 0 d i h (by omega)
  rwa [Nat.zero_add, Nat.zero_add] at this
theorem cut_size (r : ByteArray) (d : Nat) (hd : d ≤ r.size) : (r.extract 0 d).size = d := by simp; omega

theorem actOf_cut {r : ByteArray} {d : Nat} {a : Act3} {c : Nat} (hd : d ≤ r.size) (h : actOf (r.extract 0 d) = some (a, c)) : actOf r = some (a, c) := by
  have hs := cut_size r d hd
  unfold actOf at h ⊢
  rw [hs] at h
  by_cases h0 : d = 0
  · rw [if_pos h0] at h; cases h
  rw [if_neg h0, byt_cut r d 0 hd (by omega)] at h
  rw [if_neg (by omega)]
  generalize byt r 0 % 8 = k at h ⊢
  by_cases k0 : k = 0
  · rw [if_pos k0] at h ⊢; exact h
  rw [if_neg k0] at h ⊢
  by_cases k7 : k = 7
  · rw [if_pos k7] at h ⊢; exact h
  rw [if_neg k7] at h ⊢
  by_cases k1 : k = 1
  · rw [if_pos k1] at h ⊢
    by_cases h2 : d < 2
    · rw [if_pos h2] at h; cases h
    rw [if_neg h2, byt_cut r d 1 hd (by omega)] at h
    by_cases h3 : d < 2 + byt r 1
    · rw [if_pos h3] at h; cases h
    rw [if_neg h3] at h
    rw [if_neg (by omega), if_neg (by omega), ← h, ByteArray.extract_extract]
    congr 4 <;> omega
  rw [if_neg k1] at h ⊢
  by_cases k4 : k = 4
  · rw [if_pos k4] at h ⊢
    by_cases h3 : d < 3
    · rw [if_pos h3] at h; cases h
    rw [if_neg h3, byt_cut r d 1 hd (by omega), byt_cut r d 2 hd (by omega)] at h
    rw [if_neg (by omega)]
    exact h
  rw [if_neg k4] at h ⊢
  by_cases k3 : k = 3
  · rw [if_pos k3] at h ⊢; exact h
  rw [if_neg k3] at h ⊢
  by_cases h2 : d < 2
  · rw [if_pos h2] at h; cases h
  rw [if_neg h2, byt_cut r d 1 hd (by omega)] at h
  rw [if_neg (by omega)]
  exact h

theorem acts_cut (r : ByteArray) (d : Nat) (hd : d ≤ r.size) : ∃ tl, acts r = acts (r.extract 0 d) ++ tl := by
  suffices h : ∀ f (r : ByteArray) (d : Nat), r.size ≤ f → d ≤ r.size → ∃ tl, acts r = acts (r.extract 0 d) ++ tl from h r.size r d (Nat.le_refl _) hd
  intro f
  induction f with
  | zero =>
    intro r d hf hd
    have : actOf (r.extract 0 d) = none := by unfold actOf; rw [if_pos (by rw [cut_size r d hd]; omega)]
    exact ⟨acts r, by rw [acts_none this]; rfl⟩
  | succ f ih =>
    intro r d hf hd
    cases h : actOf (r.extract 0 d) with
    | none => exact ⟨acts r, by rw [acts_none h]; rfl⟩
    | some x =>
      obtain ⟨a, c⟩ := x
      have hl := actOf_len h
      rw [cut_size r d hd] at hl
      have h2 := actOf_cut hd h
      obtain ⟨tl, htl⟩ := ih (r.extract c r.size) (d - c) (by simp; omega) (by simp; omega)
      refine ⟨tl, ?_⟩
      rw [acts_some h, acts_some h2, htl, cut_size r d hd]
      have e : (r.extract c r.size).extract 0 (d - c) = (r.extract 0 d).extract c d := by
        rw [ByteArray.extract_extract, ByteArray.extract_extract]
        congr 1 <;> omega
      rw [e]
      rfl

end Go.Proofs.Ytljmfiegkefpoaa
