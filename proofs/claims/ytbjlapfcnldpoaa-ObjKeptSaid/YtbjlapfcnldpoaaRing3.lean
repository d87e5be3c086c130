/- Init, Behind, Ahead, Alone, Insert, Remove, Join by contracts. -/
import Derived.Test.YtbjlapfcnldpoaaRing2
namespace Go.Proofs.Ytbjlapfcnldpoaa
set_option linter.unusedVariables false
set_option linter.unusedSimpArgs false
open Go.RowKit

set_option maxRecDepth 100000 in
set_option maxHeartbeats 1000000 in
theorem rinit_is {w : World} {b g : Nat} {W : List Nat} {p : Nat} (hw : IsW w b g W) (hp : p + 2 < W.length) :
    Calls Try.prog 89 #[.pointer (some ⟨b, 0, none⟩), .int .i64 p] w fun e w' => e = .returned .nilIface ∧ IsW w' b g (setAll W [(p, 1, p), (p, 2, p)]) ∧ Keeps (foot b g) w w' := by
  have hWl := hw.len
  obtain ⟨hbl, hgl⟩ := hw.lt
  have H0 := Box.mk hw
  clear hw
  go_enter Try.func89, Try.ntmps89
  go_wp2_with fail
  refine (rmay_is (IsRow.one w p (by omega)) (by intro z hz; simp at hz; subst hz; omega)).mono ?_
  rintro e w1 ⟨rfl, rfl⟩
  have H1 := Box.mk (H0.out.keeps0 ((Keeps.refl (fun _ => False) w).alloc (.cells #[.int .i64 p] 3)))
  have K1 := Box.mk ((Keeps.refl (foot b g) w).alloc (.cells #[.int .i64 p] 3))
  have hs1 : w.heap.size ≤ (w.alloc (.cells #[.int .i64 p] 3)).heap.size := by simp
  clear H0
  generalize w.alloc (.cells #[.int .i64 p] 3) = w1 at *
  go_wp2_with fail

  have HT : Box (IsTies (w1.alloc (.cells #[.int .i64 p, .int .i64 1, .int .i64 p, .int .i64 p, .int .i64 2, .int .i64 p] 138)) w1.heap.size [(p, 1, p), (p, 2, p)]) := ⟨IsTies.lit w1 [(p, 1, p), (p, 2, p)]⟩
  have HA := Box.mk (H1.out.keeps0 ((Keeps.refl (fun _ => False) w1).alloc (.cells #[.int .i64 p, .int .i64 1, .int .i64 p, .int .i64 p, .int .i64 2, .int .i64 p] 138)))
  have KA := Box.mk (K1.out.alloc (.cells #[.int .i64 p, .int .i64 1, .int .i64 p, .int .i64 p, .int .i64 2, .int .i64 p] 138))
  refine (rset_all HA.out HT.out (by omega) (by omega) (by simp) (by intro t ht; simp only [List.mem_cons, List.not_mem_nil, or_false] at ht; rcases ht with rfl | rfl <;> constructor <;> simp only <;> omega)).mono ?_
  rintro e w9 ⟨rfl, h9, k9⟩
  have H9 := Box.mk h9
  have K9 := Box.mk (KA.out.trans k9)
  clear h9 k9 HT HA KA
  go_wp2_with fail
  go_ret
  exact ⟨rfl, H9.out, K9.out⟩

set_option maxRecDepth 100000 in
set_option maxHeartbeats 1000000 in
theorem rbehind_is {w : World} {b g : Nat} {W : List Nat} {p x : Nat} (hw : IsW w b g W) (hp : p + 2 < W.length) (hw_x : wat W (p + 2) = x) (hx : x ≤ 1048576) :
    Calls Try.prog 69 #[.pointer (some ⟨b, 0, none⟩), .int .i64 p] w fun e w' => e = .returned (.tuple #[.int .i64 x, .nilIface]) ∧ IsW w' b g W ∧ Keeps (foot b g) w w' := by
  have hWl := hw.len
  obtain ⟨hbl, hgl⟩ := hw.lt
  have H0 := Box.mk hw
  clear hw
  go_enter Try.func69, Try.ntmps69
  go_wp2_with fail
  refine (rmay_is (IsRow.one w p (by omega)) (by intro z hz; simp at hz; subst hz; omega)).mono ?_
  rintro e w1 ⟨rfl, rfl⟩
  have H1 := Box.mk (H0.out.keeps0 ((Keeps.refl (fun _ => False) w).alloc (.cells #[.int .i64 p] 3)))
  have K1 := Box.mk ((Keeps.refl (foot b g) w).alloc (.cells #[.int .i64 p] 3))
  have hs1 : w.heap.size ≤ (w.alloc (.cells #[.int .i64 p] 3)).heap.size := by simp
  clear H0
  generalize w.alloc (.cells #[.int .i64 p] 3) = w1 at *
  go_wp2_with fail

  have hl1 := look_is H1.out (p := p) (q := 2) (by omega) (by rw [hw_x]; omega)
  rw [hw_x] at hl1
  refine hl1.mono ?_
  clear hl1
  rintro e w2 ⟨rfl, h2, k2⟩
  have H2 := Box.mk h2
  have K2 := Box.mk (K1.out.trans k2)
  have hs2 : w.heap.size ≤ w2.heap.size := by have := k2.size; omega
  clear h2 k2 H1 K1 hs1
  go_wp2_with fail
  exact bodyPost_ret (v := .tuple #[.int .i64 x, .nilIface]) (by simp [results, Try.results69, go_sem]) rfl ⟨rfl, H2.out, K2.out⟩

set_option maxRecDepth 100000 in
set_option maxHeartbeats 1000000 in
theorem rahead_is {w : World} {b g : Nat} {W : List Nat} {p x : Nat} (hw : IsW w b g W) (hp : p + 2 < W.length) (hw_x : wat W (p + 1) = x) (hx : x ≤ 1048576) :
    Calls Try.prog 90 #[.pointer (some ⟨b, 0, none⟩), .int .i64 p] w fun e w' => e = .returned (.tuple #[.int .i64 x, .nilIface]) ∧ IsW w' b g W ∧ Keeps (foot b g) w w' := by
  have hWl := hw.len
  obtain ⟨hbl, hgl⟩ := hw.lt
  have H0 := Box.mk hw
  clear hw
  go_enter Try.func90, Try.ntmps90
  go_wp2_with fail
  refine (rmay_is (IsRow.one w p (by omega)) (by intro z hz; simp at hz; subst hz; omega)).mono ?_
  rintro e w1 ⟨rfl, rfl⟩
  have H1 := Box.mk (H0.out.keeps0 ((Keeps.refl (fun _ => False) w).alloc (.cells #[.int .i64 p] 3)))
  have K1 := Box.mk ((Keeps.refl (foot b g) w).alloc (.cells #[.int .i64 p] 3))
  have hs1 : w.heap.size ≤ (w.alloc (.cells #[.int .i64 p] 3)).heap.size := by simp
  clear H0
  generalize w.alloc (.cells #[.int .i64 p] 3) = w1 at *
  go_wp2_with fail

  have hl1 := look_is H1.out (p := p) (q := 1) (by omega) (by rw [hw_x]; omega)
  rw [hw_x] at hl1
  refine hl1.mono ?_
  clear hl1
  rintro e w2 ⟨rfl, h2, k2⟩
  have H2 := Box.mk h2
  have K2 := Box.mk (K1.out.trans k2)
  have hs2 : w.heap.size ≤ w2.heap.size := by have := k2.size; omega
  clear h2 k2 H1 K1 hs1
  go_wp2_with fail
  exact bodyPost_ret (v := .tuple #[.int .i64 x, .nilIface]) (by simp [results, Try.results90, go_sem]) rfl ⟨rfl, H2.out, K2.out⟩

set_option maxRecDepth 100000 in
set_option maxHeartbeats 1000000 in
theorem rinsert_is {w : World} {b g : Nat} {W : List Nat} {p q x : Nat} (hw : IsW w b g W) (hp : p + 2 < W.length) (hq : q + 2 < W.length) (hw_x : wat W (p + 2) = x) (hx : x + 2 < W.length) :
    Calls Try.prog 72 #[.pointer (some ⟨b, 0, none⟩), .int .i64 p, .int .i64 q] w fun e w' => e = .returned .nilIface ∧ IsW w' b g (setAll W [(q, 1, p), (q, 2, x), (p, 2, q), (x, 1, q)]) ∧ Keeps (foot b g) w w' := by
  have hWl := hw.len
  obtain ⟨hbl, hgl⟩ := hw.lt
  have H0 := Box.mk hw
  clear hw
  go_enter Try.func72, Try.ntmps72
  go_wp2_with fail
  refine (rmay_is (IsRow.two w p q (by omega) (by omega)) (by intro z hz; simp at hz; rcases hz with rfl | rfl <;> omega)).mono ?_
  rintro e w1 ⟨rfl, rfl⟩
  have H1 := Box.mk (H0.out.keeps0 ((Keeps.refl (fun _ => False) w).alloc (.cells #[.int .i64 p, .int .i64 q] 3)))
  have K1 := Box.mk ((Keeps.refl (foot b g) w).alloc (.cells #[.int .i64 p, .int .i64 q] 3))
  have hs1 : w.heap.size ≤ (w.alloc (.cells #[.int .i64 p, .int .i64 q] 3)).heap.size := by simp
  clear H0
  generalize w.alloc (.cells #[.int .i64 p, .int .i64 q] 3) = w1 at *
  go_wp2_with fail

  have hl1 := look_is H1.out (p := p) (q := 2) (by omega) (by rw [hw_x]; omega)
  rw [hw_x] at hl1
  refine hl1.mono ?_
  clear hl1
  rintro e w2 ⟨rfl, h2, k2⟩
  have H2 := Box.mk h2
  have K2 := Box.mk (K1.out.trans k2)
  have hs2 : w.heap.size ≤ w2.heap.size := by have := k2.size; omega
  clear h2 k2 H1 K1 hs1
  go_wp2_with fail

  have HT : Box (IsTies (w2.alloc (.cells #[.int .i64 q, .int .i64 1, .int .i64 p, .int .i64 q, .int .i64 2, .int .i64 x, .int .i64 p, .int .i64 2, .int .i64 q, .int .i64 x, .int .i64 1, .int .i64 q] 138)) w2.heap.size [(q, 1, p), (q, 2, x), (p, 2, q), (x, 1, q)]) := ⟨IsTies.lit w2 [(q, 1, p), (q, 2, x), (p, 2, q), (x, 1, q)]⟩
  have HA := Box.mk (H2.out.keeps0 ((Keeps.refl (fun _ => False) w2).alloc (.cells #[.int .i64 q, .int .i64 1, .int .i64 p, .int .i64 q, .int .i64 2, .int .i64 x, .int .i64 p, .int .i64 2, .int .i64 q, .int .i64 x, .int .i64 1, .int .i64 q] 138)))
  have KA := Box.mk (K2.out.alloc (.cells #[.int .i64 q, .int .i64 1, .int .i64 p, .int .i64 q, .int .i64 2, .int .i64 x, .int .i64 p, .int .i64 2, .int .i64 q, .int .i64 x, .int .i64 1, .int .i64 q] 138))
  refine (rset_all HA.out HT.out (by omega) (by omega) (by simp) (by intro t ht; simp only [List.mem_cons, List.not_mem_nil, or_false] at ht; rcases ht with rfl | rfl | rfl | rfl <;> constructor <;> simp only <;> omega)).mono ?_
  rintro e w9 ⟨rfl, h9, k9⟩
  have H9 := Box.mk h9
  have K9 := Box.mk (KA.out.trans k9)
  clear h9 k9 HT HA KA
  go_wp2_with fail
  go_ret
  exact ⟨rfl, H9.out, K9.out⟩

set_option maxRecDepth 100000 in
set_option maxHeartbeats 1000000 in
theorem rremove_is {w : World} {b g : Nat} {W : List Nat} {q a x : Nat} (hw : IsW w b g W) (hq : q + 2 < W.length) (hw_a : wat W (q + 1) = a) (hw_x : wat W (q + 2) = x) (ha : a + 2 < W.length) (hx : x + 2 < W.length) :
    Calls Try.prog 71 #[.pointer (some ⟨b, 0, none⟩), .int .i64 q] w fun e w' => e = .returned .nilIface ∧ IsW w' b g (setAll W [(a, 2, x), (x, 1, a), (q, 1, q), (q, 2, q)]) ∧ Keeps (foot b g) w w' := by
  have hWl := hw.len
  obtain ⟨hbl, hgl⟩ := hw.lt
  have H0 := Box.mk hw
  clear hw
  go_enter Try.func71, Try.ntmps71
  go_wp2_with fail
  refine (rmay_is (IsRow.one w q (by omega)) (by intro z hz; simp at hz; subst hz; omega)).mono ?_
  rintro e w1 ⟨rfl, rfl⟩
  have H1 := Box.mk (H0.out.keeps0 ((Keeps.refl (fun _ => False) w).alloc (.cells #[.int .i64 q] 3)))
  have K1 := Box.mk ((Keeps.refl (foot b g) w).alloc (.cells #[.int .i64 q] 3))
  have hs1 : w.heap.size ≤ (w.alloc (.cells #[.int .i64 q] 3)).heap.size := by simp
  clear H0
  generalize w.alloc (.cells #[.int .i64 q] 3) = w1 at *
  go_wp2_with fail

  have hl1 := look_is H1.out (p := q) (q := 1) (by omega) (by rw [hw_a]; omega)
  rw [hw_a] at hl1
  refine hl1.mono ?_
  clear hl1
  rintro e w2 ⟨rfl, h2, k2⟩
  have H2 := Box.mk h2
  have K2 := Box.mk (K1.out.trans k2)
  have hs2 : w.heap.size ≤ w2.heap.size := by have := k2.size; omega
  clear h2 k2 H1 K1 hs1
  go_wp2_with fail

  have hl2 := look_is H2.out (p := q) (q := 2) (by omega) (by rw [hw_x]; omega)
  rw [hw_x] at hl2
  refine hl2.mono ?_
  clear hl2
  rintro e w3 ⟨rfl, h3, k3⟩
  have H3 := Box.mk h3
  have K3 := Box.mk (K2.out.trans k3)
  have hs3 : w.heap.size ≤ w3.heap.size := by have := k3.size; omega
  clear h3 k3 H2 K2 hs2
  go_wp2_with fail

  have HT : Box (IsTies (w3.alloc (.cells #[.int .i64 a, .int .i64 2, .int .i64 x, .int .i64 x, .int .i64 1, .int .i64 a, .int .i64 q, .int .i64 1, .int .i64 q, .int .i64 q, .int .i64 2, .int .i64 q] 138)) w3.heap.size [(a, 2, x), (x, 1, a), (q, 1, q), (q, 2, q)]) := ⟨IsTies.lit w3 [(a, 2, x), (x, 1, a), (q, 1, q), (q, 2, q)]⟩
  have HA := Box.mk (H3.out.keeps0 ((Keeps.refl (fun _ => False) w3).alloc (.cells #[.int .i64 a, .int .i64 2, .int .i64 x, .int .i64 x, .int .i64 1, .int .i64 a, .int .i64 q, .int .i64 1, .int .i64 q, .int .i64 q, .int .i64 2, .int .i64 q] 138)))
  have KA := Box.mk (K3.out.alloc (.cells #[.int .i64 a, .int .i64 2, .int .i64 x, .int .i64 x, .int .i64 1, .int .i64 a, .int .i64 q, .int .i64 1, .int .i64 q, .int .i64 q, .int .i64 2, .int .i64 q] 138))
  refine (rset_all HA.out HT.out (by omega) (by omega) (by simp) (by intro t ht; simp only [List.mem_cons, List.not_mem_nil, or_false] at ht; rcases ht with rfl | rfl | rfl | rfl <;> constructor <;> simp only <;> omega)).mono ?_
  rintro e w9 ⟨rfl, h9, k9⟩
  have H9 := Box.mk h9
  have K9 := Box.mk (KA.out.trans k9)
  clear h9 k9 HT HA KA
  go_wp2_with fail
  go_ret
  exact ⟨rfl, H9.out, K9.out⟩

set_option maxRecDepth 100000 in
set_option maxHeartbeats 1000000 in
theorem rjoin_none {w : World} {b g : Nat} {W : List Nat} {p q : Nat} (hw : IsW w b g W) (hp : p + 2 < W.length) (hq : q + 2 < W.length) (hw_f : wat W (q + 2) = q) :
    Calls Try.prog 93 #[.pointer (some ⟨b, 0, none⟩), .int .i64 p, .int .i64 q] w fun e w' => e = .returned .nilIface ∧ IsW w' b g W ∧ Keeps (foot b g) w w' := by
  have hWl := hw.len
  obtain ⟨hbl, hgl⟩ := hw.lt
  have H0 := Box.mk hw
  clear hw
  go_enter Try.func93, Try.ntmps93
  go_wp2_with fail
  refine (rmay_is (IsRow.two w p q (by omega) (by omega)) (by intro z hz; simp at hz; rcases hz with rfl | rfl <;> omega)).mono ?_
  rintro e w1 ⟨rfl, rfl⟩
  have H1 := Box.mk (H0.out.keeps0 ((Keeps.refl (fun _ => False) w).alloc (.cells #[.int .i64 p, .int .i64 q] 3)))
  have K1 := Box.mk ((Keeps.refl (foot b g) w).alloc (.cells #[.int .i64 p, .int .i64 q] 3))
  have hs1 : w.heap.size ≤ (w.alloc (.cells #[.int .i64 p, .int .i64 q] 3)).heap.size := by simp
  clear H0
  generalize w.alloc (.cells #[.int .i64 p, .int .i64 q] 3) = w1 at *
  go_wp2_with fail

  have hl1 := look_is H1.out (p := q) (q := 2) (by omega) (by rw [hw_f]; omega)
  rw [hw_f] at hl1
  refine hl1.mono ?_
  clear hl1
  rintro e w2 ⟨rfl, h2, k2⟩
  have H2 := Box.mk h2
  have K2 := Box.mk (K1.out.trans k2)
  have hs2 : w.heap.size ≤ w2.heap.size := by have := k2.size; omega
  clear h2 k2 H1 K1 hs1
  go_wp2_with fail
  go_ret
  exact ⟨rfl, H2.out, K2.out⟩

set_option maxRecDepth 100000 in
set_option maxHeartbeats 1000000 in
theorem rjoin_is {w : World} {b g : Nat} {W : List Nat} {p q f l z : Nat} (hw : IsW w b g W) (hp : p + 2 < W.length) (hq : q + 2 < W.length) (hw_f : wat W (q + 2) = f) (hw_l : wat W (q + 1) = l) (hw_z : wat W (p + 1) = z) (hf : f + 2 < W.length) (hl : l + 2 < W.length) (hz : z + 2 < W.length) (hne : ((f : Int) == (q : Int)) = false) :
    Calls Try.prog 93 #[.pointer (some ⟨b, 0, none⟩), .int .i64 p, .int .i64 q] w fun e w' => e = .returned .nilIface ∧ IsW w' b g (setAll W [(z, 2, f), (f, 1, z), (l, 2, p), (p, 1, l), (q, 1, q), (q, 2, q)]) ∧ Keeps (foot b g) w w' := by
  have hWl := hw.len
  obtain ⟨hbl, hgl⟩ := hw.lt
  have H0 := Box.mk hw
  clear hw
  go_enter Try.func93, Try.ntmps93
  go_wp2_with fail
  refine (rmay_is (IsRow.two w p q (by omega) (by omega)) (by intro z hz; simp at hz; rcases hz with rfl | rfl <;> omega)).mono ?_
  rintro e w1 ⟨rfl, rfl⟩
  have H1 := Box.mk (H0.out.keeps0 ((Keeps.refl (fun _ => False) w).alloc (.cells #[.int .i64 p, .int .i64 q] 3)))
  have K1 := Box.mk ((Keeps.refl (foot b g) w).alloc (.cells #[.int .i64 p, .int .i64 q] 3))
  have hs1 : w.heap.size ≤ (w.alloc (.cells #[.int .i64 p, .int .i64 q] 3)).heap.size := by simp
  clear H0
  generalize w.alloc (.cells #[.int .i64 p, .int .i64 q] 3) = w1 at *
  go_wp2_with fail

  have hl1 := look_is H1.out (p := q) (q := 2) (by omega) (by rw [hw_f]; omega)
  rw [hw_f] at hl1
  refine hl1.mono ?_
  clear hl1
  rintro e w2 ⟨rfl, h2, k2⟩
  have H2 := Box.mk h2
  have K2 := Box.mk (K1.out.trans k2)
  have hs2 : w.heap.size ≤ w2.heap.size := by have := k2.size; omega
  clear h2 k2 H1 K1 hs1
  go_wp2_with fail

  have hl2 := look_is H2.out (p := q) (q := 1) (by omega) (by rw [hw_l]; omega)
  rw [hw_l] at hl2
  refine hl2.mono ?_
  clear hl2
  rintro e w3 ⟨rfl, h3, k3⟩
  have H3 := Box.mk h3
  have K3 := Box.mk (K2.out.trans k3)
  have hs3 : w.heap.size ≤ w3.heap.size := by have := k3.size; omega
  clear h3 k3 H2 K2 hs2
  go_wp2_with fail

  have hl3 := look_is H3.out (p := p) (q := 1) (by omega) (by rw [hw_z]; omega)
  rw [hw_z] at hl3
  refine hl3.mono ?_
  clear hl3
  rintro e w4 ⟨rfl, h4, k4⟩
  have H4 := Box.mk h4
  have K4 := Box.mk (K3.out.trans k4)
  have hs4 : w.heap.size ≤ w4.heap.size := by have := k4.size; omega
  clear h4 k4 H3 K3 hs3
  go_wp2_with fail

  have HT : Box (IsTies (w4.alloc (.cells #[.int .i64 z, .int .i64 2, .int .i64 f, .int .i64 f, .int .i64 1, .int .i64 z, .int .i64 l, .int .i64 2, .int .i64 p, .int .i64 p, .int .i64 1, .int .i64 l, .int .i64 q, .int .i64 1, .int .i64 q, .int .i64 q, .int .i64 2, .int .i64 q] 138)) w4.heap.size [(z, 2, f), (f, 1, z), (l, 2, p), (p, 1, l), (q, 1, q), (q, 2, q)]) := ⟨IsTies.lit w4 [(z, 2, f), (f, 1, z), (l, 2, p), (p, 1, l), (q, 1, q), (q, 2, q)]⟩
  have HA := Box.mk (H4.out.keeps0 ((Keeps.refl (fun _ => False) w4).alloc (.cells #[.int .i64 z, .int .i64 2, .int .i64 f, .int .i64 f, .int .i64 1, .int .i64 z, .int .i64 l, .int .i64 2, .int .i64 p, .int .i64 p, .int .i64 1, .int .i64 l, .int .i64 q, .int .i64 1, .int .i64 q, .int .i64 q, .int .i64 2, .int .i64 q] 138)))
  have KA := Box.mk (K4.out.alloc (.cells #[.int .i64 z, .int .i64 2, .int .i64 f, .int .i64 f, .int .i64 1, .int .i64 z, .int .i64 l, .int .i64 2, .int .i64 p, .int .i64 p, .int .i64 1, .int .i64 l, .int .i64 q, .int .i64 1, .int .i64 q, .int .i64 q, .int .i64 2, .int .i64 q] 138))
  refine (rset_all HA.out HT.out (by omega) (by omega) (by simp) (by intro t ht; simp only [List.mem_cons, List.not_mem_nil, or_false] at ht; rcases ht with rfl | rfl | rfl | rfl | rfl | rfl <;> constructor <;> simp only <;> omega)).mono ?_
  rintro e w9 ⟨rfl, h9, k9⟩
  have H9 := Box.mk h9
  have K9 := Box.mk (KA.out.trans k9)
  clear h9 k9 HT HA KA
  go_wp2_with fail
  go_ret
  exact ⟨rfl, H9.out, K9.out⟩

end Go.Proofs.Ytbjlapfcnldpoaa
