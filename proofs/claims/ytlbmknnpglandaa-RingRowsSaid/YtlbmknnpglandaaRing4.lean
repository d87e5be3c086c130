/- A new store; law 4's awake, walked. -/
import Derived.Test.YtlbmknnpglandaaRing3
namespace Go.Proofs.Ytlbmknnpglandaa
set_option linter.unusedVariables false
set_option linter.unusedSimpArgs false
open Go.RowKit

theorem rnew_is (n : Nat) (w : World) (h : n ≤ 1048576) :
    Calls Try.prog 11 #[.int .i64 n] w fun e w' => ∃ b g, e = .returned (.tuple #[.pointer (some ⟨b, 0, none⟩), .nilIface]) ∧ IsW w' b g (List.replicate n 0) ∧ Keeps (fun _ => False) w w' ∧ w.heap.size ≤ b ∧ w.heap.size ≤ g := by
  refine (new_ok n w (by omega) (by omega)).mono ?_
  rintro e w' ⟨s, rfl, h1, h2, h3, h4, h5, h6⟩
  refine ⟨s.b, s.g, rfl, ⟨s.c, s.k, ?_⟩, h4, h5, h6⟩
  obtain ⟨b, g, c, ws, k⟩ := s
  simp only at h1 h2 ⊢
  rw [List.map_replicate]
  rw [Int.toNat_natCast] at h2
  subst h2
  exact h1
theorem Keeps.ring {w w1 w2 : World} {b g : Nat} (K : Keeps (fun _ => False) w w1) (k : Keeps (foot b g) w1 w2) (hb : w.heap.size ≤ b) (hg : w.heap.size ≤ g) : Keeps (fun _ => False) w w2 :=
  K.trans' k (fun i hi h => by unfold foot at h; omega)

set_option maxRecDepth 100000 in
set_option maxHeartbeats 1000000 in
theorem awake04 (w : World) : Calls Try.prog 22 #[] w fun e w' => e = .returned (.bool true) ∧ Keeps (fun _ => False) w w' := by
  go_enter Try.func22, Try.ntmps22
  go_wp2_with fail
  refine (rnew_is 12 _ (by decide)).mono ?_
  rintro e w1 ⟨b, g, rfl, h1, k1, hb, hg⟩
  have H1 : Box (IsW (w1.alloc (.cells #[.int .i64 0, .int .i64 3, .int .i64 6, .int .i64 9] 3)) b g [0, 0, 0, 0, 0, 0, 0, 0, 0, 0, 0, 0]) := ⟨h1.keeps0 ((Keeps.refl (fun _ => False) w1).alloc _)⟩
  have K1 := Box.mk (k1.alloc (.cells #[.int .i64 0, .int .i64 3, .int .i64 6, .int .i64 9] 3))
  have hh := heap_alloc_new w1 (.cells #[.int .i64 0, .int .i64 3, .int .i64 6, .int .i64 9] 3)
  have hlt := h1.lt
  have Hb := Box.mk (And.intro hb hg)
  clear h1 k1
  go_wp2_with fail
  obtain ⟨t, ht⟩ : ∃ t, w1.heap.size = t := ⟨_, rfl⟩
  rw [ht] at hh hlt ⊢
  generalize w1.alloc (.cells #[.int .i64 0, .int .i64 3, .int .i64 6, .int .i64 9] 3) = w2 at *
  have htf : ¬ foot b g t := by unfold foot; omega
  clear ht hb hg hlt
  refine wp_loop_rounds 5 ?_
  have c0 := cell_of_heap hh 0
  simp only [List.getElem?_toArray, List.getElem?_cons_zero, List.getElem?_cons_succ] at c0
  rw [rounds_succ]
  go_wp2_with fail
  refine (rinit_is (p := 0) H1.out (by decide)).mono ?_
  rintro e w3 ⟨rfl, h, k⟩
  have HH0 : Box (IsW w3 b g [0, 0, 0, 0, 0, 0, 0, 0, 0, 0, 0, 0]) := ⟨h⟩
  have hh0 := k.heap hh htf
  have KK0 := Box.mk (K1.out.ring k Hb.out.1 Hb.out.2)
  clear h k H1 K1 hh c0
  go_wp2_with fail
  have c1 := cell_of_heap hh0 1
  simp only [List.getElem?_toArray, List.getElem?_cons_zero, List.getElem?_cons_succ] at c1
  rw [rounds_succ]
  go_wp2_with fail
  refine (rinit_is (p := 3) HH0.out (by decide)).mono ?_
  rintro e w4 ⟨rfl, h, k⟩
  have HH1 : Box (IsW w4 b g [0, 0, 0, 0, 3, 3, 0, 0, 0, 0, 0, 0]) := ⟨h⟩
  have hh1 := k.heap hh0 htf
  have KK1 := Box.mk (KK0.out.ring k Hb.out.1 Hb.out.2)
  clear h k HH0 KK0 hh0 c1
  go_wp2_with fail
  have c2 := cell_of_heap hh1 2
  simp only [List.getElem?_toArray, List.getElem?_cons_zero, List.getElem?_cons_succ] at c2
  rw [rounds_succ]
  go_wp2_with fail
  refine (rinit_is (p := 6) HH1.out (by decide)).mono ?_
  rintro e w5 ⟨rfl, h, k⟩
  have HH2 : Box (IsW w5 b g [0, 0, 0, 0, 3, 3, 0, 6, 6, 0, 0, 0]) := ⟨h⟩
  have hh2 := k.heap hh1 htf
  have KK2 := Box.mk (KK1.out.ring k Hb.out.1 Hb.out.2)
  clear h k HH1 KK1 hh1 c2
  go_wp2_with fail
  have c3 := cell_of_heap hh2 3
  simp only [List.getElem?_toArray, List.getElem?_cons_zero, List.getElem?_cons_succ] at c3
  rw [rounds_succ]
  go_wp2_with fail
  refine (rinit_is (p := 9) HH2.out (by decide)).mono ?_
  rintro e w6 ⟨rfl, h, k⟩
  have HH3 : Box (IsW w6 b g [0, 0, 0, 0, 3, 3, 0, 6, 6, 0, 9, 9]) := ⟨h⟩
  have hh3 := k.heap hh2 htf
  have KK3 := Box.mk (KK2.out.ring k Hb.out.1 Hb.out.2)
  clear h k HH2 KK2 hh2 c3
  go_wp2_with fail
  rw [rounds_succ]
  go_wp2_with fail
  refine (rinsert_is (p := 0) (q := 6) (x := 0) HH3.out (by decide) (by decide) rfl (by decide)).mono ?_
  rintro e w7 ⟨rfl, h, k⟩
  have H6 : Box (IsW w7 b g [0, 6, 6, 0, 3, 3, 0, 0, 0, 0, 9, 9]) := ⟨h⟩
  have K6 := Box.mk (KK3.out.ring k Hb.out.1 Hb.out.2)
  clear h k HH3 KK3
  go_wp2_with fail
  refine (rinsert_is (p := 0) (q := 9) (x := 6) H6.out (by decide) (by decide) rfl (by decide)).mono ?_
  rintro e w8 ⟨rfl, h, k⟩
  have H7 : Box (IsW w8 b g [0, 6, 9, 0, 3, 3, 0, 9, 0, 0, 0, 6]) := ⟨h⟩
  have K7 := Box.mk (K6.out.ring k Hb.out.1 Hb.out.2)
  clear h k H6 K6
  go_wp2_with fail
  refine (rbehind_is (p := 0) (x := 9) H7.out (by decide) rfl (by decide)).mono ?_
  rintro e w9 ⟨rfl, h, k⟩
  have H8 : Box (IsW w9 b g [0, 6, 9, 0, 3, 3, 0, 9, 0, 0, 0, 6]) := ⟨h⟩
  have K8 := Box.mk (K7.out.ring k Hb.out.1 Hb.out.2)
  clear h k H7 K7
  go_wp2_with fail
  refine (rjoin_is (p := 3) (q := 0) (f := 9) (l := 6) (z := 3) H8.out (by decide) (by decide) rfl rfl rfl (by decide) (by decide) (by decide) (by decide)).mono ?_
  rintro e w10 ⟨rfl, h, k⟩
  have H9 : Box (IsW w10 b g [0, 0, 0, 0, 6, 9, 0, 9, 3, 0, 3, 6]) := ⟨h⟩
  have K9 := Box.mk (K8.out.ring k Hb.out.1 Hb.out.2)
  clear h k H8 K8
  go_wp2_with fail
  refine (rbehind_is (p := 9) (x := 6) H9.out (by decide) rfl (by decide)).mono ?_
  rintro e w11 ⟨rfl, h, k⟩
  have H10 : Box (IsW w11 b g [0, 0, 0, 0, 6, 9, 0, 9, 3, 0, 3, 6]) := ⟨h⟩
  have K10 := Box.mk (K9.out.ring k Hb.out.1 Hb.out.2)
  clear h k H9 K9
  go_wp2_with fail
  refine (rbehind_is (p := 6) (x := 3) H10.out (by decide) rfl (by decide)).mono ?_
  rintro e w12 ⟨rfl, h, k⟩
  have H11 : Box (IsW w12 b g [0, 0, 0, 0, 6, 9, 0, 9, 3, 0, 3, 6]) := ⟨h⟩
  have K11 := Box.mk (K10.out.ring k Hb.out.1 Hb.out.2)
  clear h k H10 K10
  go_wp2_with fail
  refine (ralone_is (p := 0) (x := 0) H11.out (by decide) rfl (by decide)).mono ?_
  rintro e w13 ⟨rfl, h, k⟩
  have H12 : Box (IsW w13 b g [0, 0, 0, 0, 6, 9, 0, 9, 3, 0, 3, 6]) := ⟨h⟩
  have K12 := Box.mk (K11.out.ring k Hb.out.1 Hb.out.2)
  clear h k H11 K11
  go_wp2_with fail
  go_ret
  exact ⟨rfl, K12.out⟩

end Go.Proofs.Ytlbmknnpglandaa
