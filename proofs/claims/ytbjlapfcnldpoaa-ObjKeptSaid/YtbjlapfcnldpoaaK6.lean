/- Law 6's kind and begun. -/
import Derived.Test.YtbjlapfcnldpoaaText
import Derived.Test.YtbjlapfcnldpoaaErr
import Derived.Test.YtbjlapfcnldpoaaTFreshP
namespace Go.Proofs.Ytbjlapfcnldpoaa
set_option linter.unusedVariables false
set_option linter.unusedSimpArgs false
open Go.RowKit

theorem kind06_nil (w : World) : Calls Try.prog 44 #[.nilIface] w fun e w' => e = .returned (.int .i64 0) ∧ Keeps (fun _ => False) w w' := by
  go_enter Try.func44, Try.ntmps44
  go_wp2
  go_ret
  exact ⟨rfl, Keeps.refl _ _⟩
/-- law 6's kind, of the errors that it asks for. -/
theorem kind06 (a : Int) (h : a = 1 ∨ a = 2 ∨ a = 3 ∨ a = 4 ∨ a = 9 ∨ a = 13 ∨ a = 14) (w : World) :
    Calls Try.prog 44 #[.iface 97 (.int .i64 a)] w fun e w' => e = .returned (.int .i64 a) ∧ Keeps (fun _ => False) w w' := by
  rcases h with rfl | rfl | rfl | rfl | rfl | rfl | rfl
  · go_enter Try.func44, Try.ntmps44
    go_wp2_with fail
    refine wp_loop_rounds 1 ?_
    rw [rounds_succ]
    go_wp2_with (go_at_call 59; refine (is_kind _ _ _).mono ?_; rintro e w' ⟨rfl, rfl⟩)
    go_ret
    exact ⟨rfl, (Keeps.refl _ _).alloc _⟩
  · go_enter Try.func44, Try.ntmps44
    go_wp2_with fail
    refine wp_loop_rounds 2 ?_
    rw [rounds_succ]
    go_wp2_with (go_at_call 59; refine (is_kind _ _ _).mono ?_; rintro e w' ⟨rfl, rfl⟩)
    rw [rounds_succ]
    go_wp2_with (go_at_call 59; refine (is_kind _ _ _).mono ?_; rintro e w' ⟨rfl, rfl⟩)
    go_ret
    exact ⟨rfl, (Keeps.refl _ _).alloc _⟩
  · go_enter Try.func44, Try.ntmps44
    go_wp2_with fail
    refine wp_loop_rounds 3 ?_
    rw [rounds_succ]
    go_wp2_with (go_at_call 59; refine (is_kind _ _ _).mono ?_; rintro e w' ⟨rfl, rfl⟩)
    rw [rounds_succ]
    go_wp2_with (go_at_call 59; refine (is_kind _ _ _).mono ?_; rintro e w' ⟨rfl, rfl⟩)
    rw [rounds_succ]
    go_wp2_with (go_at_call 59; refine (is_kind _ _ _).mono ?_; rintro e w' ⟨rfl, rfl⟩)
    go_ret
    exact ⟨rfl, (Keeps.refl _ _).alloc _⟩
  · go_enter Try.func44, Try.ntmps44
    go_wp2_with fail
    refine wp_loop_rounds 4 ?_
    rw [rounds_succ]
    go_wp2_with (go_at_call 59; refine (is_kind _ _ _).mono ?_; rintro e w' ⟨rfl, rfl⟩)
    rw [rounds_succ]
    go_wp2_with (go_at_call 59; refine (is_kind _ _ _).mono ?_; rintro e w' ⟨rfl, rfl⟩)
    rw [rounds_succ]
    go_wp2_with (go_at_call 59; refine (is_kind _ _ _).mono ?_; rintro e w' ⟨rfl, rfl⟩)
    rw [rounds_succ]
    go_wp2_with (go_at_call 59; refine (is_kind _ _ _).mono ?_; rintro e w' ⟨rfl, rfl⟩)
    go_ret
    exact ⟨rfl, (Keeps.refl _ _).alloc _⟩
  · go_enter Try.func44, Try.ntmps44
    go_wp2_with fail
    refine wp_loop_rounds 5 ?_
    rw [rounds_succ]
    go_wp2_with (go_at_call 59; refine (is_kind _ _ _).mono ?_; rintro e w' ⟨rfl, rfl⟩)
    rw [rounds_succ]
    go_wp2_with (go_at_call 59; refine (is_kind _ _ _).mono ?_; rintro e w' ⟨rfl, rfl⟩)
    rw [rounds_succ]
    go_wp2_with (go_at_call 59; refine (is_kind _ _ _).mono ?_; rintro e w' ⟨rfl, rfl⟩)
    rw [rounds_succ]
    go_wp2_with (go_at_call 59; refine (is_kind _ _ _).mono ?_; rintro e w' ⟨rfl, rfl⟩)
    rw [rounds_succ]
    go_wp2_with (go_at_call 59; refine (is_kind _ _ _).mono ?_; rintro e w' ⟨rfl, rfl⟩)
    go_ret
    exact ⟨rfl, (Keeps.refl _ _).alloc _⟩
  · go_enter Try.func44, Try.ntmps44
    go_wp2_with fail
    refine wp_loop_rounds 6 ?_
    rw [rounds_succ]
    go_wp2_with (go_at_call 59; refine (is_kind _ _ _).mono ?_; rintro e w' ⟨rfl, rfl⟩)
    rw [rounds_succ]
    go_wp2_with (go_at_call 59; refine (is_kind _ _ _).mono ?_; rintro e w' ⟨rfl, rfl⟩)
    rw [rounds_succ]
    go_wp2_with (go_at_call 59; refine (is_kind _ _ _).mono ?_; rintro e w' ⟨rfl, rfl⟩)
    rw [rounds_succ]
    go_wp2_with (go_at_call 59; refine (is_kind _ _ _).mono ?_; rintro e w' ⟨rfl, rfl⟩)
    rw [rounds_succ]
    go_wp2_with (go_at_call 59; refine (is_kind _ _ _).mono ?_; rintro e w' ⟨rfl, rfl⟩)
    rw [rounds_succ]
    go_wp2_with (go_at_call 59; refine (is_kind _ _ _).mono ?_; rintro e w' ⟨rfl, rfl⟩)
    go_ret
    exact ⟨rfl, (Keeps.refl _ _).alloc _⟩
  · go_enter Try.func44, Try.ntmps44
    go_wp2_with fail
    refine wp_loop_rounds 7 ?_
    rw [rounds_succ]
    go_wp2_with (go_at_call 59; refine (is_kind _ _ _).mono ?_; rintro e w' ⟨rfl, rfl⟩)
    rw [rounds_succ]
    go_wp2_with (go_at_call 59; refine (is_kind _ _ _).mono ?_; rintro e w' ⟨rfl, rfl⟩)
    rw [rounds_succ]
    go_wp2_with (go_at_call 59; refine (is_kind _ _ _).mono ?_; rintro e w' ⟨rfl, rfl⟩)
    rw [rounds_succ]
    go_wp2_with (go_at_call 59; refine (is_kind _ _ _).mono ?_; rintro e w' ⟨rfl, rfl⟩)
    rw [rounds_succ]
    go_wp2_with (go_at_call 59; refine (is_kind _ _ _).mono ?_; rintro e w' ⟨rfl, rfl⟩)
    rw [rounds_succ]
    go_wp2_with (go_at_call 59; refine (is_kind _ _ _).mono ?_; rintro e w' ⟨rfl, rfl⟩)
    rw [rounds_succ]
    go_wp2_with (go_at_call 59; refine (is_kind _ _ _).mono ?_; rintro e w' ⟨rfl, rfl⟩)
    go_ret
    exact ⟨rfl, (Keeps.refl _ _).alloc _⟩

/-- law 6's heap. -/
structure Beg (s : TH) (L : Nat → Nat → List Nat) : Prop where
  lay : tlay (pre 200 60 40 30 2) = some s
  st : St s L
  count : s.count = [200, 60, 40, 30]
  free : ∀ c, c < 4 → lget s c 0 = [200, 60, 40, 30].getD c 0
  k : s.k = 2
  cyc : s.cycles = 0
  roots : s.roots = List.replicate 12 12
theorem beg_ex : ∃ s L, Beg s L := by
  obtain ⟨s, h1, h2, h3, h4⟩ := lay_ok 200 60 40 30 2 (by decide) (by decide) (by decide) (by decide)
  have h := tlay_same h1
  exact ⟨s, _, h1, h2, h3, h4, h.2.2.2.2.1, h.2.2.2.2.2.2.2.1, h.2.1⟩
theorem Beg.room {s : TH} {L : Nat → Nat → List Nat} (h : Beg s L) (n : Nat) : 30 ≤ lget s (tcls n) 0 := by
  rw [h.free _ (tcls_lt n)]
  have := tcls_lt n
  have hc : tcls n = 0 ∨ tcls n = 1 ∨ tcls n = 2 ∨ tcls n = 3 := by omega
  rcases hc with e | e | e | e <;> rw [e] <;> decide
structure BegSaid (s : TH) (w : World) (e : Ending) (w' : World) : Prop where
  said : ∃ hb b g, e = .returned (.pointer (some ⟨hb, 0, none⟩)) ∧ IsTH w' hb b g s ∧ w.heap.size ≤ hb ∧ w.heap.size ≤ b ∧ w.heap.size ≤ g
  keeps : Keeps (fun _ => False) w w'
theorem begun_is {s : TH} {L : Nat → Nat → List Nat} (h : Beg s L) (w : World) : Calls Try.prog 41 #[] w (BegSaid s w) := by
  have H := Box.mk h.lay
  clear h
  go_enter Try.func41, Try.ntmps41
  go_wp2_with fail
  refine (tnew_is (c0 := 200) (c1 := 60) (c2 := 40) (c3 := 30) (k := 2) (by decide) (by decide) (by decide) (by decide) (by decide) (by decide) H.out).mono ?_
  rintro e w1 ⟨hb, b, g, rfl, hI, k, h1, h2, h3⟩
  have H1 := Box.mk (And.intro hI (And.intro h1 (And.intro h2 h3)))
  have K1 := Box.mk k
  clear hI k h1 h2 h3 H
  go_wp2_with fail
  go_ret
  exact ⟨⟨hb, b, g, rfl, H1.out.1, H1.out.2.1, H1.out.2.2.1, H1.out.2.2.2⟩, K1.out⟩

end Go.Proofs.Ytbjlapfcnldpoaa
