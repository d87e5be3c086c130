/- The document's May, walked. -/
import Derived.Test.YtljmfiegkefpoaaScript9
namespace Go.Proofs.Ytljmfiegkefpoaa
set_option linter.unusedVariables false
set_option linter.unusedSimpArgs false
open Go.RowKit

theorem enc_neg (k n : Int) (t : ByteArray) (h : n < 0) : encOf (k, n, t) = none := by
  unfold encOf
  simp only
  repeat' split
  all_goals first
    | rfl
    | omega


set_option maxRecDepth 100000 in
set_option maxHeartbeats 4000000 in
theorem may_low (k n : Int) (hk : k < 1) (t : ByteArray) (w : World) (ht : t.size ≤ 9223372036854775807) :
    Calls Try.prog 39 #[.agg #[.int .i64 k, .int .i64 n, .string t]] w fun e w' => e = .returned (.bool (encOf (k, n, t)).isSome) ∧ Keeps (fun _ => False) w w' := by
  go_enter Try.func39, Try.ntmps39
  go_wp2_with fail
  go_quiet (fail)
  go_wp2_with fail
  go_ret
  exact ⟨by rw [enc_other k n t (Or.inl hk)]; rfl, ((((Keeps.refl _ _).alloc _).alloc _).drewN _)⟩

set_option maxRecDepth 100000 in
set_option maxHeartbeats 4000000 in
theorem may_high (k n : Int) (hk : 6 < k) (t : ByteArray) (w : World) (ht : t.size ≤ 9223372036854775807) :
    Calls Try.prog 39 #[.agg #[.int .i64 k, .int .i64 n, .string t]] w fun e w' => e = .returned (.bool (encOf (k, n, t)).isSome) ∧ Keeps (fun _ => False) w w' := by
  have hk1 : ¬ (k < 1) := by omega
  go_enter Try.func39, Try.ntmps39
  go_wp2_with fail
  go_quiet (fail)
  go_wp2_with fail
  go_ret
  exact ⟨by rw [enc_other k n t (Or.inr hk)]; rfl, ((((Keeps.refl _ _).alloc _).alloc _).drewN _)⟩

set_option maxRecDepth 100000 in
set_option maxHeartbeats 4000000 in
theorem may_neg (k n : Int) (hk : 1 ≤ k) (hk6 : k ≤ 6) (hn : n < 0) (t : ByteArray) (w : World) (ht : t.size ≤ 9223372036854775807) :
    Calls Try.prog 39 #[.agg #[.int .i64 k, .int .i64 n, .string t]] w fun e w' => e = .returned (.bool (encOf (k, n, t)).isSome) ∧ Keeps (fun _ => False) w w' := by
  have hk1 : ¬ (k < 1) := by omega
  have hk7 : ¬ (6 < k) := by omega
  go_enter Try.func39, Try.ntmps39
  go_wp2_with fail
  go_quiet (fail)
  go_wp2_with fail
  go_ret
  exact ⟨by rw [enc_neg k n t hn]; rfl, ((((Keeps.refl _ _).alloc _).alloc _).drewN _)⟩

set_option maxRecDepth 100000 in
set_option maxHeartbeats 4000000 in
theorem may_1 (n : Int) (hn : 0 ≤ n) (t : ByteArray) (w : World) (ht : t.size ≤ 9223372036854775807) :
    Calls Try.prog 39 #[.agg #[.int .i64 1, .int .i64 n, .string t]] w fun e w' => e = .returned (.bool (encOf (1, n, t)).isSome) ∧ Keeps (fun _ => False) w w' := by
  have Ht := Box.mk (toList_nil t)
  obtain ⟨tb, htb⟩ : ∃ tb, (t.toList == ([] : List UInt8)) = tb := ⟨_, rfl⟩
  rw [htb] at Ht
  have hn0 : ¬ (n < 0) := by omega
  by_cases h1 : 0 < n
  · go_enter Try.func39, Try.ntmps39
    go_wp2_with fail
    go_quiet (fail)
    go_wp2_with fail
    go_ret
    exact ⟨by rw [enc1, if_neg (by omega)]; rfl, ((((Keeps.refl _ _).alloc _).alloc _).drewN _)⟩
  · go_enter Try.func39, Try.ntmps39
    go_wp2_with fail
    have h11 : n ≤ 0 := by omega
    go_quiet (fail)
    cases tb with
    | true =>
      have h22 : t.size = 0 := by have h := Ht.out; simpa using h.symm
      go_wp2_with fail
      go_ret
      exact ⟨by rw [enc1, if_pos (by omega)]; rfl, ((((Keeps.refl _ _).alloc _).alloc _).drewN _)⟩
    | false =>
      have h22 : ¬ t.size = 0 := by have h := Ht.out; intro h'; rw [h'] at h; simp at h
      by_cases h3 : 255 < t.size
      · have h33 : ¬ t.size ≤ 255 := by omega
        go_wp2_with fail
        go_ret
        exact ⟨by rw [enc1, if_neg (by omega)]; show Ending.returned (.bool (decide ((t.size : Int) ≤ 255))) = _; rw [decide_eq_false (by omega)]; rfl, ((((Keeps.refl _ _).alloc _).alloc _).drewN _)⟩
      · have h33 : t.size ≤ 255 := by omega
        go_wp2_with fail
        go_ret
        exact ⟨by rw [enc1, if_pos (by omega)]; show Ending.returned (.bool (decide ((t.size : Int) ≤ 255))) = _; rw [decide_eq_true (by omega)]; rfl, ((((Keeps.refl _ _).alloc _).alloc _).drewN _)⟩

set_option maxRecDepth 100000 in
set_option maxHeartbeats 4000000 in
theorem may_2 (n : Int) (hn : 0 ≤ n) (t : ByteArray) (w : World) (ht : t.size ≤ 9223372036854775807) :
    Calls Try.prog 39 #[.agg #[.int .i64 2, .int .i64 n, .string t]] w fun e w' => e = .returned (.bool (encOf (2, n, t)).isSome) ∧ Keeps (fun _ => False) w w' := by
  have Ht := Box.mk (toList_nil t)
  obtain ⟨tb, htb⟩ : ∃ tb, (t.toList == ([] : List UInt8)) = tb := ⟨_, rfl⟩
  rw [htb] at Ht
  have hn0 : ¬ (n < 0) := by omega
  by_cases h1 : 255 < n
  · go_enter Try.func39, Try.ntmps39
    go_wp2_with fail
    go_quiet (fail)
    go_wp2_with fail
    go_ret
    exact ⟨by rw [enc256 2 n t (by omega), if_neg (by omega)]; rfl, ((((Keeps.refl _ _).alloc _).alloc _).drewN _)⟩
  · go_enter Try.func39, Try.ntmps39
    go_wp2_with fail
    have h11 : n ≤ 255 := by omega
    go_quiet (fail)
    cases tb with
    | true =>
      have h22 : t.size = 0 := by have h := Ht.out; simpa using h.symm
      go_wp2_with fail
      go_ret
      exact ⟨by rw [enc256 2 n t (by omega), if_pos (by omega)]; rfl, ((((Keeps.refl _ _).alloc _).alloc _).drewN _)⟩
    | false =>
      have h22 : ¬ t.size = 0 := by have h := Ht.out; intro h'; rw [h'] at h; simp at h
      go_wp2_with fail
      go_ret
      exact ⟨by rw [enc256 2 n t (by omega), if_neg (by omega)]; rfl, ((((Keeps.refl _ _).alloc _).alloc _).drewN _)⟩

set_option maxRecDepth 100000 in
set_option maxHeartbeats 4000000 in
theorem may_3 (n : Int) (hn : 0 ≤ n) (t : ByteArray) (w : World) (ht : t.size ≤ 9223372036854775807) :
    Calls Try.prog 39 #[.agg #[.int .i64 3, .int .i64 n, .string t]] w fun e w' => e = .returned (.bool (encOf (3, n, t)).isSome) ∧ Keeps (fun _ => False) w w' := by
  have Ht := Box.mk (toList_nil t)
  obtain ⟨tb, htb⟩ : ∃ tb, (t.toList == ([] : List UInt8)) = tb := ⟨_, rfl⟩
  rw [htb] at Ht
  have hn0 : ¬ (n < 0) := by omega
  by_cases h1 : 0 < n
  · go_enter Try.func39, Try.ntmps39
    go_wp2_with fail
    go_quiet (fail)
    go_wp2_with fail
    go_ret
    exact ⟨by rw [enc3, if_neg (by omega)]; rfl, ((((Keeps.refl _ _).alloc _).alloc _).drewN _)⟩
  · go_enter Try.func39, Try.ntmps39
    go_wp2_with fail
    have h11 : n ≤ 0 := by omega
    go_quiet (fail)
    cases tb with
    | true =>
      have h22 : t.size = 0 := by have h := Ht.out; simpa using h.symm
      go_wp2_with fail
      go_ret
      exact ⟨by rw [enc3, if_pos (by omega)]; rfl, ((((Keeps.refl _ _).alloc _).alloc _).drewN _)⟩
    | false =>
      have h22 : ¬ t.size = 0 := by have h := Ht.out; intro h'; rw [h'] at h; simp at h
      go_wp2_with fail
      go_ret
      exact ⟨by rw [enc3, if_neg (by omega)]; rfl, ((((Keeps.refl _ _).alloc _).alloc _).drewN _)⟩

set_option maxRecDepth 100000 in
set_option maxHeartbeats 4000000 in
theorem may_4 (n : Int) (hn : 0 ≤ n) (t : ByteArray) (w : World) (ht : t.size ≤ 9223372036854775807) :
    Calls Try.prog 39 #[.agg #[.int .i64 4, .int .i64 n, .string t]] w fun e w' => e = .returned (.bool (encOf (4, n, t)).isSome) ∧ Keeps (fun _ => False) w w' := by
  have Ht := Box.mk (toList_nil t)
  obtain ⟨tb, htb⟩ : ∃ tb, (t.toList == ([] : List UInt8)) = tb := ⟨_, rfl⟩
  rw [htb] at Ht
  have hn0 : ¬ (n < 0) := by omega
  by_cases h1 : 65535 < n
  · go_enter Try.func39, Try.ntmps39
    go_wp2_with fail
    go_quiet (fail)
    go_wp2_with fail
    go_ret
    exact ⟨by rw [enc4, if_neg (by omega)]; rfl, ((((Keeps.refl _ _).alloc _).alloc _).drewN _)⟩
  · go_enter Try.func39, Try.ntmps39
    go_wp2_with fail
    have h11 : n ≤ 65535 := by omega
    go_quiet (fail)
    cases tb with
    | true =>
      have h22 : t.size = 0 := by have h := Ht.out; simpa using h.symm
      go_wp2_with fail
      go_ret
      exact ⟨by rw [enc4, if_pos (by omega)]; rfl, ((((Keeps.refl _ _).alloc _).alloc _).drewN _)⟩
    | false =>
      have h22 : ¬ t.size = 0 := by have h := Ht.out; intro h'; rw [h'] at h; simp at h
      go_wp2_with fail
      go_ret
      exact ⟨by rw [enc4, if_neg (by omega)]; rfl, ((((Keeps.refl _ _).alloc _).alloc _).drewN _)⟩

set_option maxRecDepth 100000 in
set_option maxHeartbeats 4000000 in
theorem may_5 (n : Int) (hn : 0 ≤ n) (t : ByteArray) (w : World) (ht : t.size ≤ 9223372036854775807) :
    Calls Try.prog 39 #[.agg #[.int .i64 5, .int .i64 n, .string t]] w fun e w' => e = .returned (.bool (encOf (5, n, t)).isSome) ∧ Keeps (fun _ => False) w w' := by
  have Ht := Box.mk (toList_nil t)
  obtain ⟨tb, htb⟩ : ∃ tb, (t.toList == ([] : List UInt8)) = tb := ⟨_, rfl⟩
  rw [htb] at Ht
  have hn0 : ¬ (n < 0) := by omega
  by_cases h1 : 255 < n
  · go_enter Try.func39, Try.ntmps39
    go_wp2_with fail
    go_quiet (fail)
    go_wp2_with fail
    go_ret
    exact ⟨by rw [enc256 5 n t (by omega), if_neg (by omega)]; rfl, ((((Keeps.refl _ _).alloc _).alloc _).drewN _)⟩
  · go_enter Try.func39, Try.ntmps39
    go_wp2_with fail
    have h11 : n ≤ 255 := by omega
    go_quiet (fail)
    cases tb with
    | true =>
      have h22 : t.size = 0 := by have h := Ht.out; simpa using h.symm
      go_wp2_with fail
      go_ret
      exact ⟨by rw [enc256 5 n t (by omega), if_pos (by omega)]; rfl, ((((Keeps.refl _ _).alloc _).alloc _).drewN _)⟩
    | false =>
      have h22 : ¬ t.size = 0 := by have h := Ht.out; intro h'; rw [h'] at h; simp at h
      go_wp2_with fail
      go_ret
      exact ⟨by rw [enc256 5 n t (by omega), if_neg (by omega)]; rfl, ((((Keeps.refl _ _).alloc _).alloc _).drewN _)⟩

set_option maxRecDepth 100000 in
set_option maxHeartbeats 4000000 in
theorem may_6 (n : Int) (hn : 0 ≤ n) (t : ByteArray) (w : World) (ht : t.size ≤ 9223372036854775807) :
    Calls Try.prog 39 #[.agg #[.int .i64 6, .int .i64 n, .string t]] w fun e w' => e = .returned (.bool (encOf (6, n, t)).isSome) ∧ Keeps (fun _ => False) w w' := by
  have Ht := Box.mk (toList_nil t)
  obtain ⟨tb, htb⟩ : ∃ tb, (t.toList == ([] : List UInt8)) = tb := ⟨_, rfl⟩
  rw [htb] at Ht
  have hn0 : ¬ (n < 0) := by omega
  by_cases h1 : 255 < n
  · go_enter Try.func39, Try.ntmps39
    go_wp2_with fail
    go_quiet (fail)
    go_wp2_with fail
    go_ret
    exact ⟨by rw [enc256 6 n t (by omega), if_neg (by omega)]; rfl, ((((Keeps.refl _ _).alloc _).alloc _).drewN _)⟩
  · go_enter Try.func39, Try.ntmps39
    go_wp2_with fail
    have h11 : n ≤ 255 := by omega
    go_quiet (fail)
    cases tb with
    | true =>
      have h22 : t.size = 0 := by have h := Ht.out; simpa using h.symm
      go_wp2_with fail
      go_ret
      exact ⟨by rw [enc256 6 n t (by omega), if_pos (by omega)]; rfl, ((((Keeps.refl _ _).alloc _).alloc _).drewN _)⟩
    | false =>
      have h22 : ¬ t.size = 0 := by have h := Ht.out; intro h'; rw [h'] at h; simp at h
      go_wp2_with fail
      go_ret
      exact ⟨by rw [enc256 6 n t (by omega), if_neg (by omega)]; rfl, ((((Keeps.refl _ _).alloc _).alloc _).drewN _)⟩

/-- The document's May: can the act be written? -/
theorem may22_is (k n : Int) (t : ByteArray) (w : World) (ht : t.size ≤ 9223372036854775807) :
    Calls Try.prog 39 #[.agg #[.int .i64 k, .int .i64 n, .string t]] w fun e w' => e = .returned (.bool (encOf (k, n, t)).isSome) ∧ Keeps (fun _ => False) w w' := by
  rcases Int.lt_or_le k 1 with h | h
  · exact may_low k n h t w ht
  rcases Int.lt_or_le 6 k with h' | h'
  · exact may_high k n h' t w ht
  rcases Int.lt_or_le n 0 with hn | hn
  · exact may_neg k n h h' hn t w ht
  obtain h | h | h | h | h | h : k = 1 ∨ k = 2 ∨ k = 3 ∨ k = 4 ∨ k = 5 ∨ k = 6 := by omega
  · subst h; exact may_1 n hn t w ht
  · subst h; exact may_2 n hn t w ht
  · subst h; exact may_3 n hn t w ht
  · subst h; exact may_4 n hn t w ht
  · subst h; exact may_5 n hn t w ht
  · subst h; exact may_6 n hn t w ht

end Go.Proofs.Ytljmfiegkefpoaa
