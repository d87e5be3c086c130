/- WordOne: a word that is of a kind is what is made of its kind and its number. -/
import Derived.Test.YtpbiljnffekioaaWord2
namespace Go.Proofs.Ytpbiljnffekioaa
set_option linter.unusedVariables false
set_option linter.unusedSimpArgs false
open Go.RowKit

/-- What a word is. -/
theorem word_cases (n : Int) (hn : IsW n) : (wkind n = 0 ∧ wvalue n = 0) ∨ (wkind n = 1 ∧ wput 0 (wvalue n) = n ∧ -1152921504606846976 ≤ wvalue n ∧ wvalue n ≤ 1152921504606846975) ∨
    (wkind n = 2 ∧ wput 1 (wvalue n) = n ∧ 0 ≤ wvalue n ∧ wvalue n ≤ 1099511627776) ∨ (wkind n = 3 ∧ wput 2 (wvalue n) = n ∧ 0 ≤ wvalue n ∧ wvalue n ≤ 255) ∨
    (wkind n = 4 ∧ (n = 3 ∧ wvalue n = 0 ∨ n = 11 ∧ wvalue n = 1)) ∨ (wkind n = 5 ∧ n = 4) ∨ (wkind n = 6 ∧ n = 12) ∨ (wkind n = 7 ∧ n = 20) ∨
    (wkind n = 8 ∧ wput 5 (wvalue n) = n ∧ 0 ≤ wvalue n ∧ wvalue n ≤ 4095) ∨ (wkind n = 9 ∧ wput 6 (wvalue n) = n ∧ 0 ≤ wvalue n ∧ wvalue n ≤ 255) := by
  have hp := wput_of hn
  have hb := wnum_bd n
  by_cases h0 : wkind n = 0
  · left; exact ⟨h0, by unfold wvalue; rw [if_pos h0]⟩
  · right
    have hv : wvalue n = wnum n := by unfold wvalue; rw [if_neg h0]
    rw [hv]
    have h7 : n % 8 = 0 ∨ n % 8 = 1 ∨ n % 8 = 2 ∨ n % 8 = 3 ∨ n % 8 = 4 ∨ n % 8 = 5 ∨ n % 8 = 6 ∨ n % 8 = 7 := by omega
    clear hv
    by_cases hz : n % 8 = 0
    · left
      refine ⟨by unfold wkind; rw [if_pos hz], by rw [← hz]; exact hp, hb.1, by omega⟩
    · right
      have hc : 0 ≤ wnum n ∧ wnum n ≤ wmost (n % 8) := by
        by_cases hc : 0 ≤ wnum n ∧ wnum n ≤ wmost (n % 8)
        · exact hc
        · exact absurd (by unfold wkind; rw [if_neg hz, if_neg hc]) h0
      have hk : wkind n = wtag (n % 8) (wnum n) := by unfold wkind; rw [if_neg hz, if_pos hc]
      clear h0
      rcases h7 with h | h | h | h | h | h | h | h
      · exact absurd h hz
      · rw [h] at hp hc hk
        simp only [wmost, wtag, Int.reduceEq, if_true, if_false, ite_true, ite_false, reduceCtorEq] at hc hk
        exact .inl ⟨hk, hp, hc⟩
      · rw [h] at hp hc hk
        simp only [wmost, wtag, Int.reduceEq, if_true, if_false, ite_true, ite_false, reduceCtorEq] at hc hk
        exact .inr (.inl ⟨hk, hp, hc⟩)
      · rw [h] at hp hc hk
        simp only [wmost, wtag, Int.reduceEq, if_true, if_false, ite_true, ite_false, reduceCtorEq] at hc hk
        refine .inr (.inr (.inl ⟨hk, ?_⟩))
        unfold wput at hp
        omega
      · rw [h] at hp hc hk
        simp only [wmost, wtag, Int.reduceEq, if_true, if_false, ite_true, ite_false, reduceCtorEq] at hc hk
        unfold wput at hp
        have h3 : wnum n = 0 ∨ wnum n = 1 ∨ wnum n = 2 := by omega
        rcases h3 with e | e | e
        · exact .inr (.inr (.inr (.inl ⟨by rw [hk, e]; rfl, by omega⟩)))
        · exact .inr (.inr (.inr (.inr (.inl ⟨by rw [hk, e]; rfl, by omega⟩))))
        · exact .inr (.inr (.inr (.inr (.inr (.inl ⟨by rw [hk, e]; rfl, by omega⟩)))))
      · rw [h] at hp hc hk
        simp only [wmost, wtag, Int.reduceEq, if_true, if_false, ite_true, ite_false, reduceCtorEq] at hc hk
        exact .inr (.inr (.inr (.inr (.inr (.inr (.inl ⟨hk, hp, hc⟩))))))
      · rw [h] at hp hc hk
        simp only [wmost, wtag, Int.reduceEq, if_true, if_false, ite_true, ite_false, reduceCtorEq] at hc hk
        exact .inr (.inr (.inr (.inr (.inr (.inr (.inr ⟨hk, hp, hc⟩))))))
      · rw [h] at hc
        simp only [wmost, Int.reduceEq, if_true, if_false, ite_true, ite_false, reduceCtorEq] at hc
        omega

set_option maxRecDepth 100000 in
set_option maxHeartbeats 1000000 in
theorem WordOne_walk (n : Int) (w : World) (hn : (Lit.int .u64 n).wf = true) :
    Calls Try.prog 8 #[.int .u64 n] w fun e w' => e = .returned (.bool true) ∧ Below w.heap.size w w' := by
  have hw := isW_wf hn
  have hc := word_cases n hw
  have KA := Box.mk (kind_is n w hw)
  have VA := Box.mk (value_is n w hw)
  clear hn hw
  rcases hc with ⟨h, hv⟩ | ⟨h, hp, h0, h1⟩ | ⟨h, hp, h0, h1⟩ | ⟨h, hp, h0, h1⟩ | ⟨h, ⟨rfl, hv⟩ | ⟨rfl, hv⟩⟩ | ⟨h, rfl⟩ | ⟨h, rfl⟩ | ⟨h, rfl⟩ | ⟨h, hp, h0, h1⟩ | ⟨h, hp, h0, h1⟩
  · rw [h] at KA
    rw [hv] at VA
    clear h hv
    go_enter Try.func8, Try.ntmps8
    go_wp2_with (first | (go_at_call 10; refine KA.out.mono ?_; rintro e w' ⟨rfl, rfl⟩) | (go_at_call 13; refine VA.out.mono ?_; rintro e w' ⟨rfl, rfl⟩) | (go_at_call 11; refine (awake01 _).mono ?_; rintro e w' ⟨rfl, rfl⟩))
    go_ret
    exact ⟨by simp, Below.refl _ _⟩
  · rw [h] at KA
    have HP := Box.mk hp
    clear hp h
    generalize wvalue n = v at *
    go_enter Try.func8, Try.ntmps8
    go_wp2_with (first | (go_at_call 10; refine KA.out.mono ?_; rintro e w' ⟨rfl, rfl⟩) | (go_at_call 13; refine VA.out.mono ?_; rintro e w' ⟨rfl, rfl⟩) | (go_at_call 11; refine (awake01 _).mono ?_; rintro e w' ⟨rfl, rfl⟩) | (go_at_call 14; refine (fix_yes _ _ h0 h1).mono ?_; rintro e w' ⟨rfl, rfl⟩))
    go_ret
    exact ⟨by rw [HP.out]; simp, Below.refl _ _⟩
  · rw [h] at KA
    have HP := Box.mk hp
    clear hp h
    generalize wvalue n = v at *
    go_enter Try.func8, Try.ntmps8
    go_wp2_with (first | (go_at_call 10; refine KA.out.mono ?_; rintro e w' ⟨rfl, rfl⟩) | (go_at_call 13; refine VA.out.mono ?_; rintro e w' ⟨rfl, rfl⟩) | (go_at_call 11; refine (awake01 _).mono ?_; rintro e w' ⟨rfl, rfl⟩) | (go_at_call 23; refine (cell_yes _ _ h0 h1).mono ?_; rintro e w' ⟨rfl, rfl⟩))
    go_ret
    exact ⟨by rw [HP.out]; simp, Below.refl _ _⟩
  · rw [h] at KA
    have HP := Box.mk hp
    clear hp h
    generalize wvalue n = v at *
    go_enter Try.func8, Try.ntmps8
    go_wp2_with (first | (go_at_call 10; refine KA.out.mono ?_; rintro e w' ⟨rfl, rfl⟩) | (go_at_call 13; refine VA.out.mono ?_; rintro e w' ⟨rfl, rfl⟩) | (go_at_call 11; refine (awake01 _).mono ?_; rintro e w' ⟨rfl, rfl⟩) | (go_at_call 24; refine (char_yes _ _ h0 h1).mono ?_; rintro e w' ⟨rfl, rfl⟩))
    go_ret
    exact ⟨by rw [HP.out]; simp, Below.refl _ _⟩
  · rw [h] at KA
    rw [hv] at VA
    clear h
    clear hv
    go_enter Try.func8, Try.ntmps8
    go_wp2_with (first | (go_at_call 10; refine KA.out.mono ?_; rintro e w' ⟨rfl, rfl⟩) | (go_at_call 13; refine VA.out.mono ?_; rintro e w' ⟨rfl, rfl⟩) | (go_at_call 11; refine (awake01 _).mono ?_; rintro e w' ⟨rfl, rfl⟩) | (go_at_call 22; refine (bool_is _ _).mono ?_; rintro e w' ⟨rfl, rfl⟩))
    go_ret
    exact ⟨by simp, Below.refl _ _⟩
  · rw [h] at KA
    rw [hv] at VA
    clear h
    clear hv
    go_enter Try.func8, Try.ntmps8
    go_wp2_with (first | (go_at_call 10; refine KA.out.mono ?_; rintro e w' ⟨rfl, rfl⟩) | (go_at_call 13; refine VA.out.mono ?_; rintro e w' ⟨rfl, rfl⟩) | (go_at_call 11; refine (awake01 _).mono ?_; rintro e w' ⟨rfl, rfl⟩) | (go_at_call 22; refine (bool_is _ _).mono ?_; rintro e w' ⟨rfl, rfl⟩))
    go_ret
    exact ⟨by simp, Below.refl _ _⟩
  · rw [h] at KA
    clear h
    generalize wvalue _ = v at VA
    go_enter Try.func8, Try.ntmps8
    go_wp2_with (first | (go_at_call 10; refine KA.out.mono ?_; rintro e w' ⟨rfl, rfl⟩) | (go_at_call 13; refine VA.out.mono ?_; rintro e w' ⟨rfl, rfl⟩) | (go_at_call 11; refine (awake01 _).mono ?_; rintro e w' ⟨rfl, rfl⟩) | (go_at_call 19; refine (wnil_is _).mono ?_; rintro e w' ⟨rfl, rfl⟩))
    go_ret
    exact ⟨by simp, Below.refl _ _⟩
  · rw [h] at KA
    clear h
    generalize wvalue _ = v at VA
    go_enter Try.func8, Try.ntmps8
    go_wp2_with (first | (go_at_call 10; refine KA.out.mono ?_; rintro e w' ⟨rfl, rfl⟩) | (go_at_call 13; refine VA.out.mono ?_; rintro e w' ⟨rfl, rfl⟩) | (go_at_call 11; refine (awake01 _).mono ?_; rintro e w' ⟨rfl, rfl⟩) | (go_at_call 20; refine (wvoid_is _).mono ?_; rintro e w' ⟨rfl, rfl⟩))
    go_ret
    exact ⟨by simp, Below.refl _ _⟩
  · rw [h] at KA
    clear h
    generalize wvalue _ = v at VA
    go_enter Try.func8, Try.ntmps8
    go_wp2_with (first | (go_at_call 10; refine KA.out.mono ?_; rintro e w' ⟨rfl, rfl⟩) | (go_at_call 13; refine VA.out.mono ?_; rintro e w' ⟨rfl, rfl⟩) | (go_at_call 11; refine (awake01 _).mono ?_; rintro e w' ⟨rfl, rfl⟩) | (go_at_call 21; refine (wundef_is _).mono ?_; rintro e w' ⟨rfl, rfl⟩))
    go_ret
    exact ⟨by simp, Below.refl _ _⟩
  · rw [h] at KA
    have HP := Box.mk hp
    clear hp h
    generalize wvalue n = v at *
    go_enter Try.func8, Try.ntmps8
    go_wp2_with (first | (go_at_call 10; refine KA.out.mono ?_; rintro e w' ⟨rfl, rfl⟩) | (go_at_call 13; refine VA.out.mono ?_; rintro e w' ⟨rfl, rfl⟩) | (go_at_call 11; refine (awake01 _).mono ?_; rintro e w' ⟨rfl, rfl⟩) | (go_at_call 25; refine (symbol_yes _ _ h0 h1).mono ?_; rintro e w' ⟨rfl, rfl⟩))
    go_ret
    exact ⟨by rw [HP.out]; simp, Below.refl _ _⟩
  · rw [h] at KA
    have HP := Box.mk hp
    clear hp h
    generalize wvalue n = v at *
    go_enter Try.func8, Try.ntmps8
    go_wp2_with (first | (go_at_call 10; refine KA.out.mono ?_; rintro e w' ⟨rfl, rfl⟩) | (go_at_call 13; refine VA.out.mono ?_; rintro e w' ⟨rfl, rfl⟩) | (go_at_call 11; refine (awake01 _).mono ?_; rintro e w' ⟨rfl, rfl⟩) | (go_at_call 26; refine (prim_yes _ _ h0 h1).mono ?_; rintro e w' ⟨rfl, rfl⟩))
    go_ret
    exact ⟨by rw [HP.out]; simp, Below.refl _ _⟩

end Go.Proofs.Ytpbiljnffekioaa
