/- Words: what the heap asks of package word (cut out of XWord by a program) by contracts. -/
import Derived.Test.YtbjlapfcnldpoaaProg
import Derived.Test.YtbjlapfcnldpoaaBase
namespace Go.Proofs.Ytbjlapfcnldpoaa
set_option linter.unusedVariables false
set_option linter.unusedSimpArgs false
open Go.RowKit

/-- A word's number. -/
def wnum (w : Int) : Int := wrap64 w / 8
/-- A word of a tag and a number. -/
def wput (t n : Int) : Int := (n * 8) % 18446744073709551616 + t
/-- The greatest number of a tag. -/
def wmost (t : Int) : Int := if t = 1 then 1099511627776 else if t = 2 then 255 else if t = 3 then 1 else if t = 4 then 2 else if t = 5 then 4095 else if t = 6 then 255 else -1
/-- A tag's kind. -/
def wtag (t n : Int) : Int := if t = 1 then 2 else if t = 2 then 3 else if t = 3 then 4 else if t = 4 then 5 + n else if t = 5 then 8 else 9
/-- A word's kind. -/
def wkind (w : Int) : Int := if w % 8 = 0 then 1 else if 0 ≤ wnum w ∧ wnum w ≤ wmost (w % 8) then wtag (w % 8) (wnum w) else 0
def wvalue (w : Int) : Int := if wkind w = 0 then 0 else wnum w
/-- Is it one of 64 bits? -/
def IsWd (w : Int) : Prop := 0 ≤ w ∧ w < 18446744073709551616

theorem wput_w {t n : Int} (h0 : 0 ≤ t) (h7 : t ≤ 7) : IsWd (wput t n) := by unfold IsWd wput; omega
theorem wput_tag {t n : Int} (h0 : 0 ≤ t) (h7 : t ≤ 7) : wput t n % 8 = t := by unfold wput; omega
theorem wput_num {t n : Int} (h0 : 0 ≤ t) (h7 : t ≤ 7) (hn : -1152921504606846976 ≤ n) (hn1 : n < 1152921504606846976) : wnum (wput t n) = n := by unfold wnum wput wrap64; omega
theorem wput_of {w : Int} (hw : IsWd w) : wput (w % 8) (wnum w) = w := by unfold IsWd at hw; unfold wnum wput wrap64; omega
theorem wnum_bd (w : Int) : -1152921504606846976 ≤ wnum w ∧ wnum w < 1152921504606846976 := by unfold wnum wrap64; omega
theorem isWd_wf {w : Int} (h : (Lit.int .u64 w).wf = true) : IsWd w := by
  simp only [Lit.wf, IntKind.min, IntKind.max, IntKind.signed, IntKind.bits, Bool.and_eq_true, decide_eq_true_eq] at h
  unfold IsWd
  simp at h
  omega

theorem bits_and7 {w : Int} (hw : IsWd w) : bits .and .u64 w 7 = w % 8 := by
  obtain ⟨h0, h1⟩ := hw
  have h := bits_and_u64_nat w.toNat 7 (by omega) (by omega)
  rw [Int.toNat_of_nonneg h0] at h
  rw [show (7 : Int) = ((7 : Nat) : Int) from rfl, h, nat_mask3]
  omega
theorem bits_put {t n : Int} (h0 : 0 ≤ t) (h7 : t ≤ 7) : bits .or .u64 (IntKind.u64.wrap (IntKind.u64.wrap n * 8)) t = wput t n := by
  have e : IntKind.u64.wrap (IntKind.u64.wrap n * 8) = (n * 8) % 18446744073709551616 := by
    rw [IntKind.wrap_u64, IntKind.wrap_u64]; omega
  rw [e]
  have hb : 0 ≤ (n * 8) % 18446744073709551616 := by omega
  have h := bits_or_u64_nat ((n * 8) % 18446744073709551616).toNat t.toNat (by omega) (by omega)
  rw [Int.toNat_of_nonneg hb, Int.toNat_of_nonneg h0] at h
  rw [h, nat_join 3 _ _ (by omega) (by omega)]
  unfold wput
  omega

theorem wput_is (t n : Int) (w : World) (h0 : 0 ≤ t) (h7 : t ≤ 7) : Calls Try.prog 68 #[.int .i64 t, .int .i64 n] w fun e w' => e = .returned (.int .u64 (wput t n)) ∧ w' = w := by
  have hp := Box.mk (bits_put (n := n) h0 h7)
  go_enter Try.func68, Try.ntmps68
  go_wp2
  go_ret
  exact ⟨by rw [← hp.out]; rfl, rfl⟩
theorem wnumber_is (n : Int) (w : World) : Calls Try.prog 61 #[.int .u64 n] w fun e w' => e = .returned (.int .i64 (wnum n)) ∧ w' = w := by
  go_enter Try.func61, Try.ntmps61
  go_wp2
  go_ret
  exact ⟨rfl, rfl⟩

theorem wsome_no (t n m : Int) (w : World) (h : n < 0 ∨ m < n) : Calls Try.prog 100 #[.int .i64 t, .int .i64 n, .int .i64 m] w fun e w' => e = .returned (.tuple #[.int .u64 0, .iface 97 (.int .i64 2)]) ∧ w' = w := by
  by_cases h0 : n < 0
  · clear h
    go_enter Try.func100, Try.ntmps100
    go_wp2_with fail
    go_ret2
    exact ⟨rfl, rfl⟩
  · have h1 : m < n := by omega
    clear h
    go_enter Try.func100, Try.ntmps100
    go_wp2_with fail
    go_ret2
    exact ⟨rfl, rfl⟩
theorem wsome_yes (t n m : Int) (w : World) (h0 : 0 ≤ n) (h1 : n ≤ m) (ht : 0 ≤ t) (ht7 : t ≤ 7) : Calls Try.prog 100 #[.int .i64 t, .int .i64 n, .int .i64 m] w fun e w' => e = .returned (.tuple #[.int .u64 (wput t n), .nilIface]) ∧ w' = w := by
  go_enter Try.func100, Try.ntmps100
  go_wp2_with (go_at_call 68; refine (wput_is _ _ _ ht ht7).mono ?_; rintro e w' ⟨rfl, rfl⟩)
  go_ret2
  exact ⟨rfl, rfl⟩
theorem cell_no (n : Int) (w : World) (h : n < 0 ∨ 1099511627776 < n) : Calls Try.prog 75 #[.int .i64 n] w fun e w' => e = .returned (.tuple #[.int .u64 0, .iface 97 (.int .i64 2)]) ∧ w' = w := by
  go_enter Try.func75, Try.ntmps75
  go_wp2_with (go_at_call 100; refine (wsome_no _ _ _ _ h).mono ?_; rintro e w' ⟨rfl, rfl⟩)
  go_ret2
  exact ⟨rfl, rfl⟩
theorem cell_yes (n : Int) (w : World) (h0 : 0 ≤ n) (h1 : n ≤ 1099511627776) : Calls Try.prog 75 #[.int .i64 n] w fun e w' => e = .returned (.tuple #[.int .u64 (wput 1 n), .nilIface]) ∧ w' = w := by
  go_enter Try.func75, Try.ntmps75
  go_wp2_with (go_at_call 100; refine (wsome_yes _ _ _ _ h0 h1 (by omega) (by omega)).mono ?_; rintro e w' ⟨rfl, rfl⟩)
  go_ret2
  exact ⟨rfl, rfl⟩
theorem bool_is (b : Bool) (w : World) : Calls Try.prog 95 #[.bool b] w fun e w' => e = .returned (.int .u64 (if b then 11 else 3)) ∧ w' = w := by
  cases b
  all_goals
    go_enter Try.func95, Try.ntmps95
    go_wp2_with (go_at_call 68; refine (wput_is _ _ _ (by omega) (by omega)).mono ?_; rintro e w' ⟨rfl, rfl⟩)
    go_ret
    exact ⟨rfl, rfl⟩
theorem wnil_is (w : World) : Calls Try.prog 19 #[] w fun e w' => e = .returned (.int .u64 4) ∧ w' = w := by
  go_enter Try.func19, Try.ntmps19
  go_wp2_with (go_at_call 68; refine (wput_is _ _ _ (by omega) (by omega)).mono ?_; rintro e w' ⟨rfl, rfl⟩)
  go_ret
  exact ⟨rfl, rfl⟩
theorem wvoid_is (w : World) : Calls Try.prog 24 #[] w fun e w' => e = .returned (.int .u64 12) ∧ w' = w := by
  go_enter Try.func24, Try.ntmps24
  go_wp2_with (go_at_call 68; refine (wput_is _ _ _ (by omega) (by omega)).mono ?_; rintro e w' ⟨rfl, rfl⟩)
  go_ret
  exact ⟨rfl, rfl⟩
theorem wundef_is (w : World) : Calls Try.prog 58 #[] w fun e w' => e = .returned (.int .u64 20) ∧ w' = w := by
  go_enter Try.func58, Try.ntmps58
  go_wp2_with (go_at_call 68; refine (wput_is _ _ _ (by omega) (by omega)).mono ?_; rintro e w' ⟨rfl, rfl⟩)
  go_ret
  exact ⟨rfl, rfl⟩
theorem wkind_is (n : Int) (w : World) (hn : IsWd n) : Calls Try.prog 16 #[.int .u64 n] w fun e w' => e = .returned (.int .i64 (wkind n)) ∧ w' = w := by
  have h7 : n % 8 = 0 ∨ n % 8 = 1 ∨ n % 8 = 2 ∨ n % 8 = 3 ∨ n % 8 = 4 ∨ n % 8 = 5 ∨ n % 8 = 6 ∨ n % 8 = 7 := by omega
  have hb := bits_and7 hn
  clear hn
  rcases h7 with h | h | h | h | h | h | h | h
  · have hk : wkind n = 1 := by unfold wkind; rw [h]; simp
    have HK := Box.mk hk
    rw [h] at hb
    clear hk h
    go_enter Try.func16, Try.ntmps16
    go_wp2_with (go_at_call 61; refine (wnumber_is _ _).mono ?_; rintro e w' ⟨rfl, rfl⟩)
    go_ret
    exact ⟨by rw [HK.out]; rfl, rfl⟩
  · rw [h] at hb
    by_cases h0 : 0 ≤ wnum n
    · by_cases h1 : wnum n ≤ 1099511627776
      · have HK : Box (wkind n = 2) := ⟨by unfold wkind; rw [h]; simp [wmost, wtag, h0, h1]⟩
        clear h
        go_enter Try.func16, Try.ntmps16
        go_wp2_with (go_at_call 61; refine (wnumber_is _ _).mono ?_; rintro e w' ⟨rfl, rfl⟩)
        go_ret
        exact ⟨by rw [HK.out]; rfl, rfl⟩
      · have HK : Box (wkind n = 0) := ⟨by unfold wkind; rw [h]; simp [wmost]; omega⟩
        clear h
        go_enter Try.func16, Try.ntmps16
        go_wp2_with (go_at_call 61; refine (wnumber_is _ _).mono ?_; rintro e w' ⟨rfl, rfl⟩)
        go_ret
        exact ⟨by rw [HK.out]; rfl, rfl⟩
    · have HK : Box (wkind n = 0) := ⟨by unfold wkind; rw [h]; simp [wmost]; omega⟩
      clear h
      go_enter Try.func16, Try.ntmps16
      go_wp2_with (go_at_call 61; refine (wnumber_is _ _).mono ?_; rintro e w' ⟨rfl, rfl⟩)
      go_ret
      exact ⟨by rw [HK.out]; rfl, rfl⟩
  · rw [h] at hb
    by_cases h0 : 0 ≤ wnum n
    · by_cases h1 : wnum n ≤ 255
      · have HK : Box (wkind n = 3) := ⟨by unfold wkind; rw [h]; simp [wmost, wtag, h0, h1]⟩
        clear h
        go_enter Try.func16, Try.ntmps16
        go_wp2_with (go_at_call 61; refine (wnumber_is _ _).mono ?_; rintro e w' ⟨rfl, rfl⟩)
        go_ret
        exact ⟨by rw [HK.out]; rfl, rfl⟩
      · have HK : Box (wkind n = 0) := ⟨by unfold wkind; rw [h]; simp [wmost]; omega⟩
        clear h
        go_enter Try.func16, Try.ntmps16
        go_wp2_with (go_at_call 61; refine (wnumber_is _ _).mono ?_; rintro e w' ⟨rfl, rfl⟩)
        go_ret
        exact ⟨by rw [HK.out]; rfl, rfl⟩
    · have HK : Box (wkind n = 0) := ⟨by unfold wkind; rw [h]; simp [wmost]; omega⟩
      clear h
      go_enter Try.func16, Try.ntmps16
      go_wp2_with (go_at_call 61; refine (wnumber_is _ _).mono ?_; rintro e w' ⟨rfl, rfl⟩)
      go_ret
      exact ⟨by rw [HK.out]; rfl, rfl⟩
  · rw [h] at hb
    by_cases h0 : 0 ≤ wnum n
    · by_cases h1 : wnum n ≤ 1
      · have HK : Box (wkind n = 4) := ⟨by unfold wkind; rw [h]; simp [wmost, wtag, h0, h1]⟩
        clear h
        go_enter Try.func16, Try.ntmps16
        go_wp2_with (go_at_call 61; refine (wnumber_is _ _).mono ?_; rintro e w' ⟨rfl, rfl⟩)
        go_ret
        exact ⟨by rw [HK.out]; rfl, rfl⟩
      · have HK : Box (wkind n = 0) := ⟨by unfold wkind; rw [h]; simp [wmost]; omega⟩
        clear h
        go_enter Try.func16, Try.ntmps16
        go_wp2_with (go_at_call 61; refine (wnumber_is _ _).mono ?_; rintro e w' ⟨rfl, rfl⟩)
        go_ret
        exact ⟨by rw [HK.out]; rfl, rfl⟩
    · have HK : Box (wkind n = 0) := ⟨by unfold wkind; rw [h]; simp [wmost]; omega⟩
      clear h
      go_enter Try.func16, Try.ntmps16
      go_wp2_with (go_at_call 61; refine (wnumber_is _ _).mono ?_; rintro e w' ⟨rfl, rfl⟩)
      go_ret
      exact ⟨by rw [HK.out]; rfl, rfl⟩
  · rw [h] at hb
    by_cases h0 : 0 ≤ wnum n
    · by_cases h1 : wnum n ≤ 2
      · have HK : Box (wkind n = 5 + wnum n) := ⟨by unfold wkind; rw [h]; simp [wmost, wtag, h0, h1]⟩
        clear h
        go_enter Try.func16, Try.ntmps16
        go_wp2_with (go_at_call 61; refine (wnumber_is _ _).mono ?_; rintro e w' ⟨rfl, rfl⟩)
        go_ret
        exact ⟨by rw [HK.out]; rfl, rfl⟩
      · have HK : Box (wkind n = 0) := ⟨by unfold wkind; rw [h]; simp [wmost]; omega⟩
        clear h
        go_enter Try.func16, Try.ntmps16
        go_wp2_with (go_at_call 61; refine (wnumber_is _ _).mono ?_; rintro e w' ⟨rfl, rfl⟩)
        go_ret
        exact ⟨by rw [HK.out]; rfl, rfl⟩
    · have HK : Box (wkind n = 0) := ⟨by unfold wkind; rw [h]; simp [wmost]; omega⟩
      clear h
      go_enter Try.func16, Try.ntmps16
      go_wp2_with (go_at_call 61; refine (wnumber_is _ _).mono ?_; rintro e w' ⟨rfl, rfl⟩)
      go_ret
      exact ⟨by rw [HK.out]; rfl, rfl⟩
  · rw [h] at hb
    by_cases h0 : 0 ≤ wnum n
    · by_cases h1 : wnum n ≤ 4095
      · have HK : Box (wkind n = 8) := ⟨by unfold wkind; rw [h]; simp [wmost, wtag, h0, h1]⟩
        clear h
        go_enter Try.func16, Try.ntmps16
        go_wp2_with (go_at_call 61; refine (wnumber_is _ _).mono ?_; rintro e w' ⟨rfl, rfl⟩)
        go_ret
        exact ⟨by rw [HK.out]; rfl, rfl⟩
      · have HK : Box (wkind n = 0) := ⟨by unfold wkind; rw [h]; simp [wmost]; omega⟩
        clear h
        go_enter Try.func16, Try.ntmps16
        go_wp2_with (go_at_call 61; refine (wnumber_is _ _).mono ?_; rintro e w' ⟨rfl, rfl⟩)
        go_ret
        exact ⟨by rw [HK.out]; rfl, rfl⟩
    · have HK : Box (wkind n = 0) := ⟨by unfold wkind; rw [h]; simp [wmost]; omega⟩
      clear h
      go_enter Try.func16, Try.ntmps16
      go_wp2_with (go_at_call 61; refine (wnumber_is _ _).mono ?_; rintro e w' ⟨rfl, rfl⟩)
      go_ret
      exact ⟨by rw [HK.out]; rfl, rfl⟩
  · rw [h] at hb
    by_cases h0 : 0 ≤ wnum n
    · by_cases h1 : wnum n ≤ 255
      · have HK : Box (wkind n = 9) := ⟨by unfold wkind; rw [h]; simp [wmost, wtag, h0, h1]⟩
        clear h
        go_enter Try.func16, Try.ntmps16
        go_wp2_with (go_at_call 61; refine (wnumber_is _ _).mono ?_; rintro e w' ⟨rfl, rfl⟩)
        go_ret
        exact ⟨by rw [HK.out]; rfl, rfl⟩
      · have HK : Box (wkind n = 0) := ⟨by unfold wkind; rw [h]; simp [wmost]; omega⟩
        clear h
        go_enter Try.func16, Try.ntmps16
        go_wp2_with (go_at_call 61; refine (wnumber_is _ _).mono ?_; rintro e w' ⟨rfl, rfl⟩)
        go_ret
        exact ⟨by rw [HK.out]; rfl, rfl⟩
    · have HK : Box (wkind n = 0) := ⟨by unfold wkind; rw [h]; simp [wmost]; omega⟩
      clear h
      go_enter Try.func16, Try.ntmps16
      go_wp2_with (go_at_call 61; refine (wnumber_is _ _).mono ?_; rintro e w' ⟨rfl, rfl⟩)
      go_ret
      exact ⟨by rw [HK.out]; rfl, rfl⟩
  · have hk : wkind n = 0 := by unfold wkind; rw [h]; simp [wmost]; omega
    have HK := Box.mk hk
    rw [h] at hb
    clear hk h
    go_enter Try.func16, Try.ntmps16
    go_wp2_with (go_at_call 61; refine (wnumber_is _ _).mono ?_; rintro e w' ⟨rfl, rfl⟩)
    go_ret
    exact ⟨by rw [HK.out]; rfl, rfl⟩

theorem wkind_bd (n : Int) : 0 ≤ wkind n ∧ wkind n ≤ 9 := by
  have h7 : n % 8 = 0 ∨ n % 8 = 1 ∨ n % 8 = 2 ∨ n % 8 = 3 ∨ n % 8 = 4 ∨ n % 8 = 5 ∨ n % 8 = 6 ∨ n % 8 = 7 := by omega
  unfold wkind wtag wmost
  rcases h7 with h | h | h | h | h | h | h | h
  all_goals
    rw [h]
    simp only [reduceCtorEq, Int.reduceEq, if_true, if_false, ite_true, ite_false]
    first | omega | (split <;> omega)

theorem wvalue_is (n : Int) (w : World) (hn : IsWd n) : Calls Try.prog 53 #[.int .u64 n] w fun e w' => e = .returned (.int .i64 (wvalue n)) ∧ w' = w := by
  have hb := wkind_bd n
  have HV : Box (wvalue n = if wkind n = 0 then 0 else wnum n) := ⟨rfl⟩
  have H := Box.mk (wkind_is n w hn)
  clear hn
  generalize wkind n = k at hb HV H
  have hk : k = 0 ∨ k = 1 ∨ k = 2 ∨ k = 3 ∨ k = 4 ∨ k = 5 ∨ k = 6 ∨ k = 7 ∨ k = 8 ∨ k = 9 := by omega
  clear hb
  rcases hk with rfl | rfl | rfl | rfl | rfl | rfl | rfl | rfl | rfl | rfl
  all_goals
    go_enter Try.func53, Try.ntmps53
    go_wp2_with (first | (go_at_call 16; refine H.out.mono ?_; rintro e w' ⟨rfl, rfl⟩) | (go_at_call 61; refine (wnumber_is _ _).mono ?_; rintro e w' ⟨rfl, rfl⟩))
    go_ret
    exact ⟨by rw [HV.out]; rfl, rfl⟩


end Go.Proofs.Ytbjlapfcnldpoaa
