/- Acts that are written are read as they were. -/
import Derived.Test.YtljmfiegkefpoaaScript11
namespace Go.Proofs.Ytljmfiegkefpoaa
set_option linter.unusedVariables false
set_option linter.unusedSimpArgs false
open Go.RowKit

theorem enc_kinds2 {k n : Int} {t b : ByteArray} (h : encOf (k, n, t) = some b) :
    (k = 1 ∧ n = 0 ∧ t.size ≤ 255 ∧ b = ⟨#[1, UInt8.ofNat t.size] ++ t.data⟩) ∨ (k = 3 ∧ n = 0 ∧ t.size = 0 ∧ b = ⟨#[3]⟩) ∨
    (k = 4 ∧ 0 ≤ n ∧ n ≤ 65535 ∧ t.size = 0 ∧ b = ⟨#[4, UInt8.ofNat (n.toNat % 256), UInt8.ofNat (n.toNat / 256)]⟩) ∨
    ((k = 2 ∨ k = 5 ∨ k = 6) ∧ 0 ≤ n ∧ n ≤ 255 ∧ t.size = 0 ∧ b = ⟨#[UInt8.ofNat k.toNat, UInt8.ofNat n.toNat]⟩) := by
  unfold encOf at h
  simp only at h
  split at h
  · rename_i h1
    split at h
    · rename_i h2
      cases h
      exact Or.inl ⟨h1, h2.1, h2.2, rfl⟩
    · cases h
  · split at h
    · rename_i h1
      split at h
      · rename_i h2
        cases h
        exact Or.inr (Or.inl ⟨h1, h2.1, h2.2, rfl⟩)
      · cases h
    · split at h
      · rename_i h1
        split at h
        · rename_i h2
          cases h
          exact Or.inr (Or.inr (Or.inl ⟨h1, h2.1, h2.2.1, h2.2.2, rfl⟩))
        · cases h
      · split at h
        · rename_i h1
          split at h
          · rename_i h2
            cases h
            exact Or.inr (Or.inr (Or.inr ⟨h1, h2.1, h2.2.1, h2.2.2, rfl⟩))
          · cases h
        · cases h

theorem byt_data (r : ByteArray) (i : Nat) : byt r i = ((r.data[i]?).map UInt8.toNat).getD 0 := by
  unfold byt
  by_cases h : i < r.size
  · rw [ByteArray.getElem?_lt' _ _ h, Array.getElem?_eq_getElem (show i < r.data.size from h)]
    rfl
  · have h1 : r[i]? = none := by
      rw [getElem?_neg r i h]
    rw [h1, Array.getElem?_eq_none (show r.data.size ≤ i by show r.size ≤ i; omega)]
theorem byt_app (xs ys : Array UInt8) (m : ByteArray) (i : Nat) (h : i < xs.size) : byt (⟨xs ++ ys⟩ ++ m) i = (xs[i]'h).toNat := by
  rw [byt_data]
  simp only [ByteArray.data_append]
  rw [Array.append_assoc, Array.getElem?_append_left h, Array.getElem?_eq_getElem h]
  rfl
theorem rest_app (b m : ByteArray) : (b ++ m).extract b.size (b ++ m).size = m := by
  apply ByteArray.ext
  rw [ByteArray.data_extract, ByteArray.data_append, ByteArray.size_append]
  show (b.data ++ m.data).extract b.data.size (b.data.size + m.data.size) = m.data
  rw [Array.extract_append, Array.extract_empty_of_size_le_start (Nat.le_refl _), Nat.sub_self, Nat.add_sub_cancel_left, Array.extract_size, Array.empty_append]
theorem empty_of_size {t : ByteArray} (h : t.size = 0) : t = ⟨#[]⟩ := by
  have : t = ByteArray.empty := by simpa using h
  exact this

theorem enc_act {a : ActI} {b : ByteArray} (m : ByteArray) (h : encOf a = some b) : ∃ a3 : Act3, a3.raw = a ∧ actOf (b ++ m) = some (a3, b.size) := by
  obtain ⟨k, n, t⟩ := a
  rcases enc_kinds2 h with ⟨rfl, rfl, ht, rfl⟩ | ⟨rfl, rfl, ht, rfl⟩ | ⟨rfl, hn0, hn1, ht, rfl⟩ | ⟨hk, hn0, hn1, ht, rfl⟩
  · have hs : (⟨#[1, UInt8.ofNat t.size] ++ t.data⟩ : ByteArray).size = 2 + t.size := by
      show (#[1, UInt8.ofNat t.size] ++ t.data).size = _
      rw [Array.size_append]
      rfl
    have b0 := byt_app #[1, UInt8.ofNat t.size] t.data m 0 (by simp)
    have b1 := byt_app #[1, UInt8.ofNat t.size] t.data m 1 (by simp)
    have b1' : (UInt8.ofNat t.size).toNat = t.size := by rw [UInt8.toNat_ofNat']; omega
    simp only [List.getElem_toArray, List.getElem_cons_zero, List.getElem_cons_succ] at b0 b1
    rw [b1'] at b1
    have hx : (⟨#[1, UInt8.ofNat t.size] ++ t.data⟩ ++ m : ByteArray).extract 2 (2 + t.size) = t := by
      apply ByteArray.ext
      rw [ByteArray.data_extract, ByteArray.data_append]
      have : t.size = t.data.size := rfl
      rw [Array.append_assoc, Array.extract_append, this]
      simp
    refine ⟨⟨1, 0, t⟩, rfl, ?_⟩
    unfold actOf
    rw [ByteArray.size_append, hs, b0, b1, hx]
    rw [if_neg (by omega), if_neg (by decide), if_neg (by decide), if_pos (by decide), if_neg (by omega), if_neg (by omega)]
  · obtain rfl := empty_of_size ht
    have b0 := byt_app #[3] #[] m 0 (by simp)
    simp only [List.getElem_toArray, List.getElem_cons_zero, Array.append_empty] at b0
    refine ⟨⟨3, 0, noText⟩, rfl, ?_⟩
    unfold actOf
    rw [ByteArray.size_append, b0]
    rw [if_neg (by show ¬ (1 + m.size = 0); omega), if_neg (by decide), if_neg (by decide), if_neg (by decide), if_neg (by decide), if_pos (by decide)]
    rfl
  · obtain rfl := empty_of_size ht
    have b0 := byt_app #[4, UInt8.ofNat (n.toNat % 256), UInt8.ofNat (n.toNat / 256)] #[] m 0 (by simp)
    have b1 := byt_app #[4, UInt8.ofNat (n.toNat % 256), UInt8.ofNat (n.toNat / 256)] #[] m 1 (by simp)
    have b2 := byt_app #[4, UInt8.ofNat (n.toNat % 256), UInt8.ofNat (n.toNat / 256)] #[] m 2 (by simp)
    simp only [List.getElem_toArray, List.getElem_cons_zero, List.getElem_cons_succ, Array.append_empty] at b0 b1 b2
    rw [UInt8.toNat_ofNat'] at b1 b2
    refine ⟨⟨4, n.toNat, noText⟩, by simp only [Act3.raw, noText]; rw [Int.toNat_of_nonneg hn0]; rfl, ?_⟩
    unfold actOf
    rw [ByteArray.size_append, b0, b1, b2]
    rw [if_neg (by show ¬ (3 + m.size = 0); omega), if_neg (by decide), if_neg (by decide), if_neg (by decide), if_pos (by decide), if_neg (by show ¬ (3 + m.size < 3); omega)]
    have e : n.toNat % 256 % 2 ^ 8 + 256 * (n.toNat / 256 % 2 ^ 8) = n.toNat := by omega
    rw [e]
    rfl
  · obtain rfl := empty_of_size ht
    have b0 := byt_app #[UInt8.ofNat k.toNat, UInt8.ofNat n.toNat] #[] m 0 (by simp)
    have b1 := byt_app #[UInt8.ofNat k.toNat, UInt8.ofNat n.toNat] #[] m 1 (by simp)
    simp only [List.getElem_toArray, List.getElem_cons_zero, List.getElem_cons_succ, Array.append_empty] at b0 b1
    rw [UInt8.toNat_ofNat'] at b0 b1
    have e0 : k.toNat % 2 ^ 8 % 8 = k.toNat := by omega
    have e1 : n.toNat % 2 ^ 8 = n.toNat := by omega
    refine ⟨⟨k.toNat, n.toNat, noText⟩, by simp only [Act3.raw, noText]; rw [Int.toNat_of_nonneg hn0, Int.toNat_of_nonneg (by omega)], ?_⟩
    unfold actOf
    rw [ByteArray.size_append, b0, b1, e0, e1]
    rw [if_neg (by show ¬ (2 + m.size = 0); omega), if_neg (by omega), if_neg (by omega), if_neg (by omega), if_neg (by omega), if_neg (by omega), if_neg (by show ¬ (2 + m.size < 2); omega)]
    rfl

/-- Acts that are written, and what stands behind them. -/
theorem acts_back {l : List ActI} {b : ByteArray} (m : ByteArray) (h : encAll l = some b) : (acts (b ++ m)).map Act3.raw = l ++ (acts m).map Act3.raw := by
  induction l generalizing b with
  | nil =>
    simp only [encAll, Option.some.injEq] at h
    subst h
    have : (⟨#[]⟩ : ByteArray) ++ m = m := by apply ByteArray.ext; simp
    rw [this]
    rfl
  | cons a l ih =>
    simp only [encAll] at h
    cases ha : encOf a with
    | none => simp [ha] at h
    | some c =>
      cases hl : encAll l with
      | none => simp [ha, hl] at h
      | some d =>
        simp only [ha, hl, Option.some.injEq] at h
        subst h
        rw [ByteArray.append_assoc]
        obtain ⟨a3, h3, h4⟩ := enc_act (d ++ m) ha
        rw [acts_some h4, rest_app, List.map_cons, h3, ih hl]
        rfl

end Go.Proofs.Ytljmfiegkefpoaa
