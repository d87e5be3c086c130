/- The words' reference (spindleref01) by contracts; law 1's awake. -/
import Derived.Test.YtpbiljnffekioaaWord
import Derived.Test.YtpbiljnffekioaaErr
namespace Go.Proofs.Ytpbiljnffekioaa
set_option linter.unusedVariables false
set_option linter.unusedSimpArgs false
open Go.RowKit

theorem rtag_is (n : Int) (w : World) (hn : IsW n) : Calls Try.prog 30 #[.int .u64 n] w fun e w' => e = .returned (.int .i64 (n % 8)) ∧ w' = w := by
  obtain ⟨h0, h1⟩ := hn
  have hm : 0 ≤ n % 8 := by omega
  have hm2 : n % 8 < 8 := by omega
  go_enter Try.func30, Try.ntmps30
  go_wp2
  go_ret
  exact ⟨rfl, rfl⟩
theorem rnum_is (n : Int) (w : World) (hn : IsW n) : Calls Try.prog 29 #[.int .u64 n] w fun e w' => e = .returned (.int .i64 (wnum n)) ∧ w' = w := by
  obtain ⟨h0, h1⟩ := hn
  by_cases h : n / 8 < 1152921504606846976
  · have hw : wnum n = n / 8 := by unfold wnum wrap64; omega
    have HW := Box.mk hw
    clear hw
    have hq : 0 ≤ n / 8 := by omega
    go_enter Try.func29, Try.ntmps29
    go_wp2
    go_ret
    exact ⟨by rw [HW.out]; rfl, rfl⟩
  · have hw : wnum n = n / 8 - 2305843009213693952 := by unfold wnum wrap64; omega
    have HW := Box.mk hw
    clear hw
    have hq : 1152921504606846976 ≤ n / 8 := by omega
    have hq2 : n / 8 < 2305843009213693952 := by omega
    clear h h1
    go_enter Try.func29, Try.ntmps29
    go_wp2
    go_ret
    exact ⟨by rw [HW.out]; rfl, rfl⟩
theorem rmake_is (t n : Int) (w : World) (ht : 0 ≤ t) (ht7 : t ≤ 7) : Calls Try.prog 9 #[.int .i64 t, .int .i64 n] w fun e w' => e = .returned (.int .u64 (wput t n)) ∧ w' = w := by
  have hp : IntKind.u64.wrap (IntKind.u64.wrap (IntKind.u64.wrap n * 8) + t) = wput t n := by
    rw [IntKind.wrap_u64, IntKind.wrap_u64, IntKind.wrap_u64]; unfold wput; omega
  have HP := Box.mk hp
  clear hp
  go_enter Try.func9, Try.ntmps9
  go_wp2
  go_ret
  exact ⟨by rw [← HP.out]; rfl, rfl⟩
theorem whole_is (n : Int) (w : World) : Calls Try.prog 15 #[.int .i64 n] w fun e w' => e = .returned (.bool (decide (-1152921504606846976 ≤ n ∧ n < 1152921504606846976))) ∧ w' = w := by
  by_cases h0 : -1152921504606846976 ≤ n
  · by_cases h1 : n < 1152921504606846976
    · rw [show decide (-1152921504606846976 ≤ n ∧ n < 1152921504606846976) = true by simp; omega]
      go_enter Try.func15, Try.ntmps15
      go_wp2
      go_ret
      exact ⟨by simp; try omega, rfl⟩
    · rw [show decide (-1152921504606846976 ≤ n ∧ n < 1152921504606846976) = false by simp; omega]
      go_enter Try.func15, Try.ntmps15
      go_wp2
      go_ret
      exact ⟨by simp; try omega, rfl⟩
  · rw [show decide (-1152921504606846976 ≤ n ∧ n < 1152921504606846976) = false by simp; omega]
    go_enter Try.func15, Try.ntmps15
    go_wp2
    go_ret
    exact ⟨by simp; try omega, rfl⟩

set_option maxHeartbeats 1000000 in
theorem rkind_is (n : Int) (w : World) (hn : IsW n) : Calls Try.prog 12 #[.int .u64 n] w fun e w' => e = .returned (.int .i64 (wkind n)) ∧ w' = w := by
  have h7 : n % 8 = 0 ∨ n % 8 = 1 ∨ n % 8 = 2 ∨ n % 8 = 3 ∨ n % 8 = 4 ∨ n % 8 = 5 ∨ n % 8 = 6 ∨ n % 8 = 7 := by omega
  have HT := Box.mk (fun w => rtag_is n w hn)
  have HN := Box.mk (fun w => rnum_is n w hn)
  clear hn
  rcases h7 with h | h | h | h | h | h | h | h
  · have HK : Box (wkind n = 1) := ⟨by unfold wkind; rw [h]; simp⟩
    have ht := HT.out
    simp only [h] at ht
    have HT := Box.mk ht
    clear ht h
    generalize wnum n = x at *
    go_enter Try.func12, Try.ntmps12
    go_wp2_with (first | (go_at_call 30; refine (HT.out _).mono ?_; rintro e w' ⟨rfl, rfl⟩) | (go_at_call 29; refine (HN.out _).mono ?_; rintro e w' ⟨rfl, rfl⟩))
    go_ret
    exact ⟨by rw [HK.out]; rfl, rfl⟩
  · by_cases h0 : 0 ≤ wnum n
    · by_cases h1 : wnum n ≤ 1099511627776
      · have HK : Box (wkind n = 2) := ⟨by unfold wkind; rw [h]; simp [wmost, wtag, h0, h1]⟩
        have ht := HT.out
        simp only [h] at ht
        have HT := Box.mk ht
        clear ht h
        generalize wnum n = x at *
        go_enter Try.func12, Try.ntmps12
        go_wp2_with (first | (go_at_call 30; refine (HT.out _).mono ?_; rintro e w' ⟨rfl, rfl⟩) | (go_at_call 29; refine (HN.out _).mono ?_; rintro e w' ⟨rfl, rfl⟩))
        go_ret
        exact ⟨by rw [HK.out]; rfl, rfl⟩
      · have HK : Box (wkind n = 0) := ⟨by unfold wkind; rw [h]; simp [wmost]; omega⟩
        have ht := HT.out
        simp only [h] at ht
        have HT := Box.mk ht
        clear ht h
        generalize wnum n = x at *
        go_enter Try.func12, Try.ntmps12
        go_wp2_with (first | (go_at_call 30; refine (HT.out _).mono ?_; rintro e w' ⟨rfl, rfl⟩) | (go_at_call 29; refine (HN.out _).mono ?_; rintro e w' ⟨rfl, rfl⟩))
        go_ret
        exact ⟨by rw [HK.out]; rfl, rfl⟩
    · have HK : Box (wkind n = 0) := ⟨by unfold wkind; rw [h]; simp [wmost]; omega⟩
      have ht := HT.out
      simp only [h] at ht
      have HT := Box.mk ht
      clear ht h
      generalize wnum n = x at *
      go_enter Try.func12, Try.ntmps12
      go_wp2_with (first | (go_at_call 30; refine (HT.out _).mono ?_; rintro e w' ⟨rfl, rfl⟩) | (go_at_call 29; refine (HN.out _).mono ?_; rintro e w' ⟨rfl, rfl⟩))
      go_ret
      exact ⟨by rw [HK.out]; rfl, rfl⟩
  · by_cases h0 : 0 ≤ wnum n
    · by_cases h1 : wnum n ≤ 255
      · have HK : Box (wkind n = 3) := ⟨by unfold wkind; rw [h]; simp [wmost, wtag, h0, h1]⟩
        have ht := HT.out
        simp only [h] at ht
        have HT := Box.mk ht
        clear ht h
        generalize wnum n = x at *
        go_enter Try.func12, Try.ntmps12
        go_wp2_with (first | (go_at_call 30; refine (HT.out _).mono ?_; rintro e w' ⟨rfl, rfl⟩) | (go_at_call 29; refine (HN.out _).mono ?_; rintro e w' ⟨rfl, rfl⟩))
        go_ret
        exact ⟨by rw [HK.out]; rfl, rfl⟩
      · have HK : Box (wkind n = 0) := ⟨by unfold wkind; rw [h]; simp [wmost]; omega⟩
        have ht := HT.out
        simp only [h] at ht
        have HT := Box.mk ht
        clear ht h
        generalize wnum n = x at *
        go_enter Try.func12, Try.ntmps12
        go_wp2_with (first | (go_at_call 30; refine (HT.out _).mono ?_; rintro e w' ⟨rfl, rfl⟩) | (go_at_call 29; refine (HN.out _).mono ?_; rintro e w' ⟨rfl, rfl⟩))
        go_ret
        exact ⟨by rw [HK.out]; rfl, rfl⟩
    · have HK : Box (wkind n = 0) := ⟨by unfold wkind; rw [h]; simp [wmost]; omega⟩
      have ht := HT.out
      simp only [h] at ht
      have HT := Box.mk ht
      clear ht h
      generalize wnum n = x at *
      go_enter Try.func12, Try.ntmps12
      go_wp2_with (first | (go_at_call 30; refine (HT.out _).mono ?_; rintro e w' ⟨rfl, rfl⟩) | (go_at_call 29; refine (HN.out _).mono ?_; rintro e w' ⟨rfl, rfl⟩))
      go_ret
      exact ⟨by rw [HK.out]; rfl, rfl⟩
  · by_cases e0 : wnum n = 0
    · have HK : Box (wkind n = 4) := ⟨by unfold wkind; rw [h]; simp [wmost, wtag, e0]⟩
      have ht := HT.out
      simp only [h] at ht
      have HT := Box.mk ht
      clear ht h
      generalize wnum n = x at *
      go_enter Try.func12, Try.ntmps12
      go_wp2_with (first | (go_at_call 30; refine (HT.out _).mono ?_; rintro e w' ⟨rfl, rfl⟩) | (go_at_call 29; refine (HN.out _).mono ?_; rintro e w' ⟨rfl, rfl⟩))
      go_ret
      exact ⟨by rw [HK.out]; rfl, rfl⟩
    · by_cases e1 : wnum n = 1
      · have HK : Box (wkind n = 4) := ⟨by unfold wkind; rw [h]; simp [wmost, wtag, e1]⟩
        have ht := HT.out
        simp only [h] at ht
        have HT := Box.mk ht
        clear ht h
        generalize wnum n = x at *
        go_enter Try.func12, Try.ntmps12
        go_wp2_with (first | (go_at_call 30; refine (HT.out _).mono ?_; rintro e w' ⟨rfl, rfl⟩) | (go_at_call 29; refine (HN.out _).mono ?_; rintro e w' ⟨rfl, rfl⟩))
        go_ret
        exact ⟨by rw [HK.out]; rfl, rfl⟩
      · have HK : Box (wkind n = 0) := ⟨by unfold wkind; rw [h]; simp [wmost]; omega⟩
        have b0 : (wnum n == 0) = false := by simp [e0]
        have b1 : (wnum n == 1) = false := by simp [e1]
        have ht := HT.out
        simp only [h] at ht
        have HT := Box.mk ht
        clear ht h
        generalize wnum n = x at *
        go_enter Try.func12, Try.ntmps12
        go_wp2_with (first | (go_at_call 30; refine (HT.out _).mono ?_; rintro e w' ⟨rfl, rfl⟩) | (go_at_call 29; refine (HN.out _).mono ?_; rintro e w' ⟨rfl, rfl⟩))
        go_ret
        exact ⟨by rw [HK.out]; rfl, rfl⟩
  · by_cases h0 : 0 ≤ wnum n
    · by_cases h1 : wnum n ≤ 2
      · have HK : Box (wkind n = 5 + wnum n) := ⟨by unfold wkind; rw [h]; simp [wmost, wtag, h0, h1]⟩
        have ht := HT.out
        simp only [h] at ht
        have HT := Box.mk ht
        clear ht h
        generalize wnum n = x at *
        go_enter Try.func12, Try.ntmps12
        go_wp2_with (first | (go_at_call 30; refine (HT.out _).mono ?_; rintro e w' ⟨rfl, rfl⟩) | (go_at_call 29; refine (HN.out _).mono ?_; rintro e w' ⟨rfl, rfl⟩))
        go_ret
        exact ⟨by rw [HK.out]; rfl, rfl⟩
      · have HK : Box (wkind n = 0) := ⟨by unfold wkind; rw [h]; simp [wmost]; omega⟩
        have ht := HT.out
        simp only [h] at ht
        have HT := Box.mk ht
        clear ht h
        generalize wnum n = x at *
        go_enter Try.func12, Try.ntmps12
        go_wp2_with (first | (go_at_call 30; refine (HT.out _).mono ?_; rintro e w' ⟨rfl, rfl⟩) | (go_at_call 29; refine (HN.out _).mono ?_; rintro e w' ⟨rfl, rfl⟩))
        go_ret
        exact ⟨by rw [HK.out]; rfl, rfl⟩
    · have HK : Box (wkind n = 0) := ⟨by unfold wkind; rw [h]; simp [wmost]; omega⟩
      have ht := HT.out
      simp only [h] at ht
      have HT := Box.mk ht
      clear ht h
      generalize wnum n = x at *
      go_enter Try.func12, Try.ntmps12
      go_wp2_with (first | (go_at_call 30; refine (HT.out _).mono ?_; rintro e w' ⟨rfl, rfl⟩) | (go_at_call 29; refine (HN.out _).mono ?_; rintro e w' ⟨rfl, rfl⟩))
      go_ret
      exact ⟨by rw [HK.out]; rfl, rfl⟩
  · by_cases h0 : 0 ≤ wnum n
    · by_cases h1 : wnum n ≤ 4095
      · have HK : Box (wkind n = 8) := ⟨by unfold wkind; rw [h]; simp [wmost, wtag, h0, h1]⟩
        have ht := HT.out
        simp only [h] at ht
        have HT := Box.mk ht
        clear ht h
        generalize wnum n = x at *
        go_enter Try.func12, Try.ntmps12
        go_wp2_with (first | (go_at_call 30; refine (HT.out _).mono ?_; rintro e w' ⟨rfl, rfl⟩) | (go_at_call 29; refine (HN.out _).mono ?_; rintro e w' ⟨rfl, rfl⟩))
        go_ret
        exact ⟨by rw [HK.out]; rfl, rfl⟩
      · have HK : Box (wkind n = 0) := ⟨by unfold wkind; rw [h]; simp [wmost]; omega⟩
        have ht := HT.out
        simp only [h] at ht
        have HT := Box.mk ht
        clear ht h
        generalize wnum n = x at *
        go_enter Try.func12, Try.ntmps12
        go_wp2_with (first | (go_at_call 30; refine (HT.out _).mono ?_; rintro e w' ⟨rfl, rfl⟩) | (go_at_call 29; refine (HN.out _).mono ?_; rintro e w' ⟨rfl, rfl⟩))
        go_ret
        exact ⟨by rw [HK.out]; rfl, rfl⟩
    · have HK : Box (wkind n = 0) := ⟨by unfold wkind; rw [h]; simp [wmost]; omega⟩
      have ht := HT.out
      simp only [h] at ht
      have HT := Box.mk ht
      clear ht h
      generalize wnum n = x at *
      go_enter Try.func12, Try.ntmps12
      go_wp2_with (first | (go_at_call 30; refine (HT.out _).mono ?_; rintro e w' ⟨rfl, rfl⟩) | (go_at_call 29; refine (HN.out _).mono ?_; rintro e w' ⟨rfl, rfl⟩))
      go_ret
      exact ⟨by rw [HK.out]; rfl, rfl⟩
  · by_cases h0 : 0 ≤ wnum n
    · by_cases h1 : wnum n ≤ 255
      · have HK : Box (wkind n = 9) := ⟨by unfold wkind; rw [h]; simp [wmost, wtag, h0, h1]⟩
        have ht := HT.out
        simp only [h] at ht
        have HT := Box.mk ht
        clear ht h
        generalize wnum n = x at *
        go_enter Try.func12, Try.ntmps12
        go_wp2_with (first | (go_at_call 30; refine (HT.out _).mono ?_; rintro e w' ⟨rfl, rfl⟩) | (go_at_call 29; refine (HN.out _).mono ?_; rintro e w' ⟨rfl, rfl⟩))
        go_ret
        exact ⟨by rw [HK.out]; rfl, rfl⟩
      · have HK : Box (wkind n = 0) := ⟨by unfold wkind; rw [h]; simp [wmost]; omega⟩
        have ht := HT.out
        simp only [h] at ht
        have HT := Box.mk ht
        clear ht h
        generalize wnum n = x at *
        go_enter Try.func12, Try.ntmps12
        go_wp2_with (first | (go_at_call 30; refine (HT.out _).mono ?_; rintro e w' ⟨rfl, rfl⟩) | (go_at_call 29; refine (HN.out _).mono ?_; rintro e w' ⟨rfl, rfl⟩))
        go_ret
        exact ⟨by rw [HK.out]; rfl, rfl⟩
    · have HK : Box (wkind n = 0) := ⟨by unfold wkind; rw [h]; simp [wmost]; omega⟩
      have ht := HT.out
      simp only [h] at ht
      have HT := Box.mk ht
      clear ht h
      generalize wnum n = x at *
      go_enter Try.func12, Try.ntmps12
      go_wp2_with (first | (go_at_call 30; refine (HT.out _).mono ?_; rintro e w' ⟨rfl, rfl⟩) | (go_at_call 29; refine (HN.out _).mono ?_; rintro e w' ⟨rfl, rfl⟩))
      go_ret
      exact ⟨by rw [HK.out]; rfl, rfl⟩
  · have HK : Box (wkind n = 0) := ⟨by unfold wkind; rw [h]; simp [wmost]; omega⟩
    have ht := HT.out
    simp only [h] at ht
    have HT := Box.mk ht
    clear ht h
    generalize wnum n = x at *
    go_enter Try.func12, Try.ntmps12
    go_wp2_with (first | (go_at_call 30; refine (HT.out _).mono ?_; rintro e w' ⟨rfl, rfl⟩) | (go_at_call 29; refine (HN.out _).mono ?_; rintro e w' ⟨rfl, rfl⟩))
    go_ret
    exact ⟨by rw [HK.out]; rfl, rfl⟩

theorem rvalue_is (n : Int) (w : World) (hn : IsW n) : Calls Try.prog 18 #[.int .u64 n] w fun e w' => e = .returned (.int .i64 (wvalue n)) ∧ w' = w := by
  have H := Box.mk (rkind_is n w hn)
  have HN := Box.mk (fun w => rnum_is n w hn)
  clear hn
  by_cases h : wkind n = 0
  · have HV : Box (wvalue n = 0) := ⟨by unfold wvalue; rw [if_pos h]⟩
    have h' := H.out
    rw [h] at h'
    have H := Box.mk h'
    clear h h'
    go_enter Try.func18, Try.ntmps18
    go_wp2_with (go_at_call 12; refine H.out.mono ?_; rintro e w' ⟨rfl, rfl⟩)
    go_ret
    exact ⟨by rw [HV.out]; rfl, rfl⟩
  · have HV : Box (wvalue n = wnum n) := ⟨by unfold wvalue; rw [if_neg h]⟩
    generalize wkind n = k at *
    go_enter Try.func18, Try.ntmps18
    go_wp2_with (first | (go_at_call 12; refine H.out.mono ?_; rintro e w' ⟨rfl, rfl⟩) | (go_at_call 29; refine (HN.out _).mono ?_; rintro e w' ⟨rfl, rfl⟩))
    go_ret
    exact ⟨by rw [HV.out]; rfl, rfl⟩

set_option maxRecDepth 100000 in
theorem awake01 (w : World) : Calls Try.prog 11 #[] w fun e w' => e = .returned (.bool true) ∧ w' = w := by
  have hk : wkind 7 = 0 := by decide +kernel
  have hi : IsW 7 := by unfold IsW; omega
  have HK := Box.mk (kind_is 7 w hi)
  rw [hk] at HK
  clear hk hi
  go_enter Try.func11, Try.ntmps11
  go_wp2_with fail
  refine (fix_yes _ _ (by omega) (by omega)).mono ?_
  rintro e w' ⟨rfl, rfl⟩
  go_wp2_with fail
  refine (cell_yes _ _ (by omega) (by omega)).mono ?_
  rintro e w' ⟨rfl, rfl⟩
  go_wp2_with fail
  refine (char_yes _ _ (by omega) (by omega)).mono ?_
  rintro e w' ⟨rfl, rfl⟩
  go_wp2_with fail
  refine (fix_no _ _ (by omega)).mono ?_
  rintro e w' ⟨rfl, rfl⟩
  rw [show wput 0 (-1) = 18446744073709551608 from by decide +kernel, show wput 1 2 = 17 from by decide +kernel, show wput 2 65 = 522 from by decide +kernel]
  go_wp2_with (first
    | (go_at_call 16; refine (is_kind _ _ _).mono ?_; rintro e w' ⟨rfl, rfl⟩)
    | (go_at_call 22; refine (bool_is _ _).mono ?_; rintro e w' ⟨rfl, rfl⟩)
    | (go_at_call 19; refine (wnil_is _).mono ?_; rintro e w' ⟨rfl, rfl⟩)
    | (go_at_call 20; refine (wvoid_is _).mono ?_; rintro e w' ⟨rfl, rfl⟩)
    | (go_at_call 21; refine (wundef_is _).mono ?_; rintro e w' ⟨rfl, rfl⟩)
    | (go_at_call 10; refine HK.out.mono ?_; rintro e w' ⟨rfl, rfl⟩))
  go_ret
  exact ⟨rfl, rfl⟩

end Go.Proofs.Ytpbiljnffekioaa
