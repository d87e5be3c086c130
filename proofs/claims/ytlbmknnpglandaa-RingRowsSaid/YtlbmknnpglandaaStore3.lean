/- The store's reads and writes, as what becomes of the store; law 3's kind and awake. -/
import Derived.Test.YtlbmknnpglandaaStore2
import Derived.Test.YtlbmknnpglandaaErr
namespace Go.Proofs.Ytlbmknnpglandaa
set_option linter.unusedVariables false
set_option linter.unusedSimpArgs false
open Go.RowKit

theorem get_at {i x : Int} {w : World} {s t : SSt} (hs : IsStore w s) (h : s.has i) (hx : s.at_ i = x) (ht : s.touched = t) :
    Calls Try.prog 14 #[.pointer (some ⟨s.b, 0, none⟩), .int .i64 i] w fun e w' => e = .returned (.tuple #[.int .u64 x, .nilIface]) ∧ IsStore w' t ∧ Keeps s.foot w w' := by
  subst hx ht
  refine (get_yes i w s hs h).mono ?_
  rintro e w' ⟨rfl, rfl⟩
  exact ⟨rfl, touched_is hs, (Keeps.refl _ w).setCell (fun _ => .inl rfl) _⟩

theorem set_at {i v : Int} {w : World} {s t : SSt} (hs : IsStore w s) (h : s.has i) (ht : s.put i v = t) :
    Calls Try.prog 12 #[.pointer (some ⟨s.b, 0, none⟩), .int .i64 i, .int .u64 v] w fun e w' => e = .returned .nilIface ∧ IsStore w' t ∧ Keeps s.foot w w' := by
  subst ht
  refine (set_yes i v w s hs h).mono ?_
  rintro e w' ⟨rfl, rfl⟩
  exact ⟨rfl, put_is hs h v, ((Keeps.refl _ w).setCell (fun _ => .inl rfl) _).setCell (fun _ => .inr rfl) _⟩

/-- law 3's kind, of the errors that it asks for. -/
theorem kind03 (a : Int) (h : a = 0 ∨ a = 1 ∨ a = 2 ∨ a = 3) (w : World) :
    Calls Try.prog 17 #[errV a] w fun e w' => e = .returned (.int .i64 a) ∧ Keeps (fun _ => False) w w' := by
  rcases h with rfl | rfl | rfl | rfl
  · show Calls Try.prog 17 #[.nilIface] w _
    go_enter Try.func17, Try.ntmps17
    go_wp2
    go_ret
    exact ⟨rfl, Keeps.refl _ _⟩
  · show Calls Try.prog 17 #[.iface 70 (.int .i64 1)] w _
    go_enter Try.func17, Try.ntmps17
    go_wp2_with fail
    refine wp_loop_rounds 1 ?_
    rw [rounds_succ]
    go_wp2_with (go_at_call 33; refine (is_kind _ _ _).mono ?_; rintro e w' ⟨rfl, rfl⟩)
    go_ret
    exact ⟨rfl, (Keeps.refl _ _).alloc _⟩
  · show Calls Try.prog 17 #[.iface 70 (.int .i64 2)] w _
    go_enter Try.func17, Try.ntmps17
    go_wp2_with fail
    refine wp_loop_rounds 2 ?_
    rw [rounds_succ]
    go_wp2_with (go_at_call 33; refine (is_kind _ _ _).mono ?_; rintro e w' ⟨rfl, rfl⟩)
    rw [rounds_succ]
    go_wp2_with (go_at_call 33; refine (is_kind _ _ _).mono ?_; rintro e w' ⟨rfl, rfl⟩)
    go_ret
    exact ⟨rfl, (Keeps.refl _ _).alloc _⟩
  · show Calls Try.prog 17 #[.iface 70 (.int .i64 3)] w _
    go_enter Try.func17, Try.ntmps17
    go_wp2_with fail
    refine wp_loop_rounds 3 ?_
    rw [rounds_succ]
    go_wp2_with (go_at_call 33; refine (is_kind _ _ _).mono ?_; rintro e w' ⟨rfl, rfl⟩)
    rw [rounds_succ]
    go_wp2_with (go_at_call 33; refine (is_kind _ _ _).mono ?_; rintro e w' ⟨rfl, rfl⟩)
    rw [rounds_succ]
    go_wp2_with (go_at_call 33; refine (is_kind _ _ _).mono ?_; rintro e w' ⟨rfl, rfl⟩)
    go_ret
    exact ⟨rfl, (Keeps.refl _ _).alloc _⟩

theorem awake03 (w : World) : Calls Try.prog 13 #[] w fun e w' => e = .returned (.bool true) ∧ Keeps (fun _ => False) w w' := by
  go_enter Try.func13, Try.ntmps13
  go_wp2_with fail
  refine (new_ok 2 _ (by omega) (by omega)).mono ?_
  rintro e w1 ⟨⟨b, g, c, ws, k⟩, rfl, hs, hws, hk, k1, hb, hg⟩
  simp only at hws hk hb hg
  subst hws hk
  have Hs : Box (IsStore w1 ⟨b, g, c, [0, 0], 0⟩) := ⟨hs⟩
  have K1 := Box.mk k1
  clear hs k1
  go_wp2_with fail
  refine (set_at (t := ⟨b, g, c, [0, 7], 1⟩) Hs.out (by simp [SSt.has]) (by simp [SSt.put, wrap64])).mono ?_
  rintro e w2 ⟨rfl, hs, k2⟩
  have K2 := Box.mk (K1.out.trans' k2 (by intro i hi h; simp only [SSt.foot] at h; omega))
  have Hs2 := Box.mk hs
  clear hs k2 Hs K1
  go_wp2_with fail
  refine (get_at (x := 7) (t := ⟨b, g, c, [0, 7], 2⟩) Hs2.out (by simp [SSt.has]) rfl (by simp [SSt.touched, wrap64])).mono ?_
  rintro e w3 ⟨rfl, hs, k3⟩
  have K3 := Box.mk (K2.out.trans' k3 (by intro i hi h; simp only [SSt.foot] at h; omega))
  have Hs3 := Box.mk hs
  clear hs k3 Hs2 K2
  go_wp2_with fail
  refine (get_no 2 _ _ Hs3.out (by simp [SSt.has])).mono ?_
  rintro e w4 ⟨rfl, rfl⟩
  go_wp2_with (first
    | (go_at_call 33; refine (is_kind _ _ _).mono ?_; rintro e w' ⟨rfl, rfl⟩)
    | (go_at_call 16; refine (count_is _ _ Hs3.out).mono ?_; rintro e w' ⟨rfl, rfl⟩)
    | (go_at_call 21; refine (size_is _ _ Hs3.out).mono ?_; rintro e w' ⟨rfl, rfl⟩))
  go_ret
  exact ⟨rfl, K3.out⟩

end Go.Proofs.Ytlbmknnpglandaa
