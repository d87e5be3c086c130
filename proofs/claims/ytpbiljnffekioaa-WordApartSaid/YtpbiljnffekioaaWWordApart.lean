/- WordApart: words of two things are the same just if they are of one kind and one number. -/
import Derived.Test.YtpbiljnffekioaaWord2
import Derived.Deep.RegionWith
namespace Go.Proofs.Ytpbiljnffekioaa
set_option linter.unusedVariables false
set_option linter.unusedSimpArgs false
open Go.RowKit

theorem wkind_inj {a b : Int} (ha : IsW a) (hb : IsW b) (hk : wkind a = wkind b) (hv : wvalue a = wvalue b) (h0 : wkind a ≠ 0) : a = b := by
  have e1 : wnum a = wnum b := by
    unfold wvalue at hv
    rwa [if_neg h0, if_neg (hk ▸ h0)] at hv
  have e2 : a % 8 = b % 8 := by
    have k7 : ∀ x : Int, x % 8 = 0 ∨ x % 8 = 1 ∨ x % 8 = 2 ∨ x % 8 = 3 ∨ x % 8 = 4 ∨ x % 8 = 5 ∨ x % 8 = 6 ∨ x % 8 = 7 := fun (x : Int) => by omega
    unfold wkind at hk h0
    rw [e1] at hk h0
    generalize wnum b = n at *
    rcases k7 a with h | h | h | h | h | h | h | h <;> rcases k7 b with h' | h' | h' | h' | h' | h' | h' | h' <;> simp only [h, h', wmost, wtag, Int.reduceEq, if_true, if_false, ite_true, ite_false, reduceCtorEq] at hk h0 ⊢ <;>
      first | omega | (exfalso; split at hk <;> first | omega | (split at hk <;> omega) | (split at h0 <;> omega))
  rw [← wput_of ha, ← wput_of hb, e1, e2]

set_option maxRecDepth 100000 in
set_option maxHeartbeats 1000000 in
theorem WordApart_walk (a b : Int) (w : World) (ha : (Lit.int .u64 a).wf = true) (hb : (Lit.int .u64 b).wf = true) :
    Calls Try.prog 6 #[.int .u64 a, .int .u64 b] w fun e w' => e = .returned (.bool true) ∧ Below w.heap.size w w' := by
  have hwa := isW_wf ha
  have hwb := isW_wf hb
  have KA := Box.mk (fun w => kind_is a w hwa)
  have KB := Box.mk (fun w => kind_is b w hwb)
  have VA := Box.mk (fun w => value_is a w hwa)
  have VB := Box.mk (fun w => value_is b w hwb)
  have hinj := wkind_inj hwa hwb
  clear ha hb hwa hwb
  by_cases h0 : wkind a = 0
  · rw [h0] at KA
    clear hinj h0
    go_enter Try.func6, Try.ntmps6
    go_wp2_with (first
      | (go_at_call_of 10 (a); refine (KA.out _).mono ?_; rintro e w' ⟨rfl, rfl⟩)
      | (go_at_call 11; refine (awake01 _).mono ?_; rintro e w' ⟨rfl, rfl⟩))
    go_ret
    exact ⟨rfl, Below.refl _ _⟩
  · by_cases h1 : wkind b = 0
    · rw [h1] at KB
      have k0 : (wkind a == 0) = false := by simp [h0]
      generalize wkind a = ka at *
      clear hinj h0 h1
      go_enter Try.func6, Try.ntmps6
      go_wp2_with (first
        | (go_at_call_of 10 (a); refine (KA.out _).mono ?_; rintro e w' ⟨rfl, rfl⟩)
        | (go_at_call_of 10 (b); refine (KB.out _).mono ?_; rintro e w' ⟨rfl, rfl⟩)
        | (go_at_call 11; refine (awake01 _).mono ?_; rintro e w' ⟨rfl, rfl⟩))
      go_ret
      exact ⟨rfl, Below.refl _ _⟩
    · have k0 : (wkind a == 0) = false := by simp [h0]
      have k1 : (wkind b == 0) = false := by simp [h1]
      have hs : ((wkind a == wkind b) && (wvalue a == wvalue b)) = (a == b) := by
        by_cases e : a = b
        · subst e; simp
        · have : ¬ (wkind a = wkind b ∧ wvalue a = wvalue b) := fun ⟨x, y⟩ => e (hinj x y h0)
          have e' : (a == b) = false := by simpa using e
          rw [e']
          simpa using this
      have HS := Box.mk hs
      clear hinj h0 h1 hs
      generalize wkind a = ka at *
      generalize wkind b = kb at *
      generalize wvalue a = va at *
      generalize wvalue b = vb at *
      go_enter Try.func6, Try.ntmps6
      by_cases e : ka = kb
      · subst e
        have HS' : Box ((va == vb) = (a == b)) := ⟨by simpa using HS.out⟩
        clear HS
        cases hab : (a == b)
        · have hv : (va == vb) = false := by rw [HS'.out]; exact hab
          go_wp2_with (first
          | (go_at_call_of 10 (a); refine (KA.out _).mono ?_; rintro e w' ⟨rfl, rfl⟩)
          | (go_at_call_of 10 (b); refine (KB.out _).mono ?_; rintro e w' ⟨rfl, rfl⟩)
          | (go_at_call_of 13 (a); refine (VA.out _).mono ?_; rintro e w' ⟨rfl, rfl⟩)
          | (go_at_call_of 13 (b); refine (VB.out _).mono ?_; rintro e w' ⟨rfl, rfl⟩)
          | (go_at_call 11; refine (awake01 _).mono ?_; rintro e w' ⟨rfl, rfl⟩)
          | (go_at_call 19; refine (wnil_is _).mono ?_; rintro e w' ⟨rfl, rfl⟩)
          | (go_at_call 20; refine (wvoid_is _).mono ?_; rintro e w' ⟨rfl, rfl⟩)
          | (go_at_call 21; refine (wundef_is _).mono ?_; rintro e w' ⟨rfl, rfl⟩)
          | (go_at_call 22; refine (bool_is _ _).mono ?_; rintro e w' ⟨rfl, rfl⟩)
          | (go_at_call 17; refine (true_is _ _).mono ?_; rintro e w' ⟨rfl, rfl⟩))
          go_ret
          exact ⟨by simp, Below.refl _ _⟩
        · have hv : (va == vb) = true := by rw [HS'.out]; exact hab
          go_wp2_with (first
          | (go_at_call_of 10 (a); refine (KA.out _).mono ?_; rintro e w' ⟨rfl, rfl⟩)
          | (go_at_call_of 10 (b); refine (KB.out _).mono ?_; rintro e w' ⟨rfl, rfl⟩)
          | (go_at_call_of 13 (a); refine (VA.out _).mono ?_; rintro e w' ⟨rfl, rfl⟩)
          | (go_at_call_of 13 (b); refine (VB.out _).mono ?_; rintro e w' ⟨rfl, rfl⟩)
          | (go_at_call 11; refine (awake01 _).mono ?_; rintro e w' ⟨rfl, rfl⟩)
          | (go_at_call 19; refine (wnil_is _).mono ?_; rintro e w' ⟨rfl, rfl⟩)
          | (go_at_call 20; refine (wvoid_is _).mono ?_; rintro e w' ⟨rfl, rfl⟩)
          | (go_at_call 21; refine (wundef_is _).mono ?_; rintro e w' ⟨rfl, rfl⟩)
          | (go_at_call 22; refine (bool_is _ _).mono ?_; rintro e w' ⟨rfl, rfl⟩)
          | (go_at_call 17; refine (true_is _ _).mono ?_; rintro e w' ⟨rfl, rfl⟩))
          go_ret
          exact ⟨by simp, Below.refl _ _⟩
      · have hke : (ka == kb) = false := by simpa using e
        have hab : (a == b) = false := by rw [← HS.out, hke]; rfl
        clear e HS
        go_wp2_with (first
          | (go_at_call_of 10 (a); refine (KA.out _).mono ?_; rintro e w' ⟨rfl, rfl⟩)
          | (go_at_call_of 10 (b); refine (KB.out _).mono ?_; rintro e w' ⟨rfl, rfl⟩)
          | (go_at_call_of 13 (a); refine (VA.out _).mono ?_; rintro e w' ⟨rfl, rfl⟩)
          | (go_at_call_of 13 (b); refine (VB.out _).mono ?_; rintro e w' ⟨rfl, rfl⟩)
          | (go_at_call 11; refine (awake01 _).mono ?_; rintro e w' ⟨rfl, rfl⟩)
          | (go_at_call 19; refine (wnil_is _).mono ?_; rintro e w' ⟨rfl, rfl⟩)
          | (go_at_call 20; refine (wvoid_is _).mono ?_; rintro e w' ⟨rfl, rfl⟩)
          | (go_at_call 21; refine (wundef_is _).mono ?_; rintro e w' ⟨rfl, rfl⟩)
          | (go_at_call 22; refine (bool_is _ _).mono ?_; rintro e w' ⟨rfl, rfl⟩)
          | (go_at_call 17; refine (true_is _ _).mono ?_; rintro e w' ⟨rfl, rfl⟩))
        go_ret
        exact ⟨by simp, Below.refl _ _⟩

end Go.Proofs.Ytpbiljnffekioaa
