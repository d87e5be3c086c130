/- Law 6's plainly and the document's Makes. -/
import Derived.Test.YtbjlapfcnldpoaaAwk6
namespace Go.Proofs.Ytbjlapfcnldpoaa
set_option linter.unusedVariables false
set_option linter.unusedSimpArgs false
open Go.RowKit

theorem mk06_yes (tag n : Int) (w : World) (h : tag = 1 ∨ 3 ≤ tag ∧ tag ≤ 12) (h0 : 0 ≤ n) (h1 : n ≤ 120) :
    Calls Try.prog 43 #[.int .i64 tag, .int .i64 n] w fun e w' => e = .returned (.bool true) ∧ w' = w := by
  by_cases ht : tag = 1
  · have e1 : (tag == 1) = true := by rw [beq_iff_eq]; exact ht
    clear ht h
    go_enter Try.func43, Try.ntmps43
    go_wp2_with fail
    go_ret
    exact ⟨rfl, rfl⟩
  · have e1 : (tag == 1) = false := by rw [beq_eq_false_iff_ne]; exact ht
    obtain ⟨h3, h4⟩ := h.resolve_left ht
    clear ht h
    go_enter Try.func43, Try.ntmps43
    go_wp2_with fail
    go_ret
    exact ⟨rfl, rfl⟩
theorem mk06_tag (tag n : Int) (w : World) (h : tag < 1 ∨ tag = 2 ∨ 12 < tag) :
    Calls Try.prog 43 #[.int .i64 tag, .int .i64 n] w fun e w' => e = .returned (.bool false) ∧ w' = w := by
  have e1 : (tag == 1) = false := by rw [beq_eq_false_iff_ne]; omega
  by_cases h3 : 3 ≤ tag
  · have h4 : ¬ tag ≤ 12 := by omega
    clear h
    go_enter Try.func43, Try.ntmps43
    go_wp2_with fail
    go_ret
    exact ⟨rfl, rfl⟩
  · clear h
    go_enter Try.func43, Try.ntmps43
    go_wp2_with fail
    go_ret
    exact ⟨rfl, rfl⟩
theorem mk06_long (tag n : Int) (w : World) (h : tag = 1 ∨ 3 ≤ tag ∧ tag ≤ 12) (h0 : 0 ≤ n) (h1 : 120 < n) :
    Calls Try.prog 43 #[.int .i64 tag, .int .i64 n] w fun e w' => e = .returned (.bool false) ∧ w' = w := by
  have hd : decide (n ≤ 120) = false := decide_eq_false (by omega)
  by_cases ht : tag = 1
  · have e1 : (tag == 1) = true := by rw [beq_iff_eq]; exact ht
    clear ht h
    go_enter Try.func43, Try.ntmps43
    go_wp2_with fail
    go_ret
    exact ⟨rfl, rfl⟩
  · have e1 : (tag == 1) = false := by rw [beq_eq_false_iff_ne]; exact ht
    obtain ⟨h3, h4⟩ := h.resolve_left ht
    clear ht h
    go_enter Try.func43, Try.ntmps43
    go_wp2_with fail
    go_ret
    exact ⟨rfl, rfl⟩

theorem wkind_eq2b {x : Nat} (hx : x < 18446744073709551616) (h : tcell x = true) : (wkind (x : Int) == 2) = true := by
  rw [beq_iff_eq]
  unfold tcell at h
  simp only [Bool.and_eq_true, beq_iff_eq, decide_eq_true_eq] at h
  have hn : wnum (x : Int) = ((x / 8 : Nat) : Int) := by unfold wnum wrap64; omega
  unfold wkind wmost wtag
  rw [hn]
  have h1 : ((x : Int) % 8) = 1 := by omega
  rw [h1]
  rw [if_neg (by decide), if_pos ⟨by omega, by rw [if_pos rfl]; omega⟩, if_pos rfl]

/-- What plainly says. -/
structure PlainSaid (n : Nat) (ws : Nat → Nat) (w : World) (e : Ending) (w' : World) : Prop where
  said : e = .returned (.bool true) ∧ (∀ i, i < n → tcell (ws i) = false) ∨ e = .returned (.bool false)
  same : w' = w
theorem plainly_is {a : Option Addr} {n cap : Nat} {ws : Nat → Nat} {w : World} (hw : WsAt w a n ws (fun _ => False)) (hx : ∀ i, i < n → ws i < 18446744073709551616) (hn : n ≤ 1000000) :
    Calls Try.prog 40 #[.slice a n cap] w (PlainSaid n ws w) := by
  have HW := Box.mk hw
  have HX := Box.mk hx
  clear hw hx
  go_enter Try.func40, Try.ntmps40
  go_wp2_with fail
  go_loopw [7] (fun i wr => ∃ (j : Nat), j ≤ n ∧ i = .int .i64 j ∧ Box (∀ i, i < j → tcell (ws i) = false) ∧ wr = w) (fun i _ => n - (intOf i).toNat)
  case atStart => exact ⟨0, Nat.zero_le _, rfl, ⟨fun i hi => absurd hi (Nat.not_lt_zero _)⟩, rfl⟩
  case round =>
    obtain ⟨j, hj, rfl, HP, rfl⟩ := hrel
    by_cases hjn : j < n
    · obtain ⟨rb, ro, rfl, -, hrl, hcell⟩ := HW.out j hjn
      have hxj := HX.out j hjn
      obtain ⟨x, hx⟩ : ∃ x, ws j = x := ⟨_, rfl⟩
      rw [hx] at hcell hxj
      have hj0 : (0 : Int) ≤ (j : Int) := by omega
      have Hx := Box.mk hx
      clear hx
      cases hc : tcell x with
      | true =>
        have e2 := wkind_eq2b hxj hc
        clear hc
        go_wp2_with fail
        refine (wkind_is (x : Int) wr (by unfold IsWd; omega)).mono ?_
        rintro e w1 ⟨rfl, rfl⟩
        go_wp2_with fail
        go_ret
        exact ⟨Or.inr rfl, rfl⟩
      | false =>
        have e2 : (wkind (x : Int) == 2) = false := by have := wkind_ne2 hxj hc; simpa using this
        have HP2 : Box (∀ i, i < j + 1 → tcell (ws i) = false) := ⟨fun i hi => by
          by_cases e : i = j
          · rw [e, Hx.out]; exact hc
          · exact HP.out i (by omega)⟩
        clear hc
        go_wp2_with fail
        refine (wkind_is (x : Int) wr (by unfold IsWd; omega)).mono ?_
        rintro e w1 ⟨rfl, rfl⟩
        go_wp2_with fail
        go_roundw
        case rel => exact ⟨j + 1, by omega, by go_num, HP2, by trivial⟩
        case measure => simp [intOf]; omega
    · have hjn2 : ¬ ((j : Int) < (n : Int)) := by omega
      have HJ : Box (j = n) := ⟨by omega⟩
      go_wp2_with fail
      go_ret
      exact ⟨Or.inl ⟨rfl, fun i hi => HP.out i (by rw [HJ.out]; exact hi)⟩, rfl⟩

end Go.Proofs.Ytbjlapfcnldpoaa
