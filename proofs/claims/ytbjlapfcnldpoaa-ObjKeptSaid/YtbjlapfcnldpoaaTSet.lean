/- The heap's Set by its contract. -/
import Derived.Test.YtbjlapfcnldpoaaTField
namespace Go.Proofs.Ytbjlapfcnldpoaa
set_option linter.unusedVariables false
set_option linter.unusedSimpArgs false
open Go.RowKit

theorem tset_parts {s s' : TH} {u i x : Nat} (h : tset s u i x = some s') : ∃ hd old s1, rdh s.W u = some hd ∧ u + 3 + i < s.W.length ∧ wat s.W (u + 3 + i) = old ∧ (if hform hd = 1 ∧ s.marking = true then tshade s old else some s) = some s1 ∧ u + 3 + i < s1.W.length ∧ s' = { s1 with W := s1.W.set (u + 3 + i) x } := by
  unfold tset at h
  simp only [Option.bind_eq_some_iff, Option.map_eq_some_iff] at h
  obtain ⟨hd, h1, old, h2, s1, h3, W, h4, h5⟩ := h
  obtain ⟨a, b⟩ := rd_parts h2
  obtain ⟨c, d⟩ := wrt_parts h4
  exact ⟨hd, old, s1, h1, a, b, h3, c, by rw [← h5, d]⟩


set_option maxRecDepth 100000 in
set_option maxHeartbeats 2000000 in
theorem set_raw {hb b g xc q c h i x : Nat} {s s' : TH} {w : World} (hI : IsTH w hb b g s) (hxc : xc < 18446744073709551616) (hp : tplace s xc = some (q, c)) (hr : rdh s.W q = some h) (hi : i < hn h) (hq : q ≤ 1048576) (hnow : s.now ≤ 1) (hx : x < 18446744073709551616) (hs : tset s q i x = some s') (hf : hform h = 2) :
    Calls Try.prog 25 #[.pointer (some ⟨hb, 0, none⟩), .int .u64 xc, .int .i64 i, .int .u64 x] w fun e w' => e = .returned .nilIface ∧ IsTH w' hb b g s' ∧ Keeps (foot3 hb b g) w w' := by
  obtain ⟨hd, old, s1, p1, p2, p3, p4, p5, rfl⟩ := tset_parts hs
  rw [hr] at p1
  injection p1 with p1
  subst p1
  obtain ⟨vf, hvf⟩ : ∃ vf, hform h = vf := ⟨_, rfl⟩
  obtain ⟨vt, hvt⟩ : ∃ vt, htag h = vt := ⟨_, rfl⟩
  obtain ⟨vm, hvm⟩ : ∃ vm, hmark h = vm := ⟨_, rfl⟩
  obtain ⟨vn, hvn⟩ : ∃ vn, hn h = vn := ⟨_, rfl⟩
  have HF := Box.mk (field_ok hI hxc hp hr hi hq hvf hvt hvm hvn)
  rw [hvf] at hf p4
  subst hf
  have hm : True := trivial
  rw [if_neg (by omega)] at p4
  injection p4 with p4
  subst p4
  have p4 := trivial
  obtain ⟨z, hz⟩ : ∃ z, q + 3 + i = z := ⟨_, rfl⟩
  rw [hz] at HF p2 p3 p5 ⊢
  have Hv := Box.mk (And.intro p2 p3)
  have HX := Box.mk hx
  have HN := Box.mk hnow
  have P4 := Box.mk p4
  have P5 := Box.mk p5
  clear hI hxc hp hr hi hvf hvt hvm hvn p2 p3 p4 p5 hz hs hx hnow hm
  go_enter Try.func25, Try.ntmps25
  go_wp2_with fail
  refine HF.out.mono ?_
  rintro e w1 ⟨rfl, hI1, k1⟩
  have ka := (Keeps.refl (fun _ => False) w1).alloc (.cells #[.int .i64 (2 : Int), .int .i64 (vt : Int), .int .i64 (vm : Int), .int .i64 (vn : Int)] 110)
  have hh := heap_alloc_new w1 (.cells #[.int .i64 (2 : Int), .int .i64 (vt : Int), .int .i64 (vm : Int), .int .i64 (vn : Int)] 110)
  have H2 := Box.mk (hI1.keeps0 ka)
  have K2 := Box.mk (k1.trans (ka.mono (S' := foot3 hb b g) (fun _ _ h => h.elim)))
  have hlt := hI1.lt
  clear HF hI1 k1 ka
  have hst := H2.out.store
  go_wp2_with fail
  obtain ⟨a, hae⟩ : ∃ a, w1.heap.size = a := ⟨_, rfl⟩
  rw [hae] at hh hlt
  try rw [hae]
  clear hae
  generalize w1.alloc (.cells #[.int .i64 (2 : Int), .int .i64 (vt : Int), .int .i64 (vm : Int), .int .i64 (vn : Int)] 110) = w2 at *
  refine (wget_is H2.out.iw Hv.out.1).mono ?_
  rw [Hv.out.2]
  rintro e w3 ⟨rfl, hI3, k3⟩
  have H3 : Box (IsTH w3 hb b g s) := ⟨H2.out.ring k3 hI3⟩
  have K3 := Box.mk (K2.out.trans (k3.mono (S' := foot3 hb b g) (fun i _ h => Or.inr h)))
  have hh3 := k3.heap hh (by unfold foot; omega)
  have c0 := cell_of_heap hh3 0
  simp only [List.getElem?_toArray, List.getElem?_cons_zero, List.getElem?_cons_succ] at c0
  clear hI3 k3 H2 K2 hh hst
  have H9 := H3
  have K9 := K3
  clear H3 K3
  have hst9 := H9.out.store
  go_wp2_with fail
  refine (wset_is x H9.out.iw P5.out).mono ?_
  rintro e w10 ⟨rfl, hI10, k10⟩
  have K10 := Box.mk (K9.out.trans (k10.mono (S' := foot3 hb b g) (fun i _ h => Or.inr h)))
  have H10 := Box.mk (H9.out.ring k10 hI10)
  clear hI10 k10 H9 K9 hst9
  go_wp2_with fail
  go_ret
  exact ⟨rfl, H10.out, K10.out⟩


set_option maxRecDepth 100000 in
set_option maxHeartbeats 2000000 in
theorem set_plain_rest {hb b g xc q c h i x : Nat} {s s' : TH} {w : World} (hI : IsTH w hb b g s) (hxc : xc < 18446744073709551616) (hp : tplace s xc = some (q, c)) (hr : rdh s.W q = some h) (hi : i < hn h) (hq : q ≤ 1048576) (hnow : s.now ≤ 1) (hx : x < 18446744073709551616) (hs : tset s q i x = some s') (hf : hform h = 1) (hm : s.marking = false) (hval : tvalue s x = true) :
    Calls Try.prog 25 #[.pointer (some ⟨hb, 0, none⟩), .int .u64 xc, .int .i64 i, .int .u64 x] w fun e w' => e = .returned .nilIface ∧ IsTH w' hb b g s' ∧ Keeps (foot3 hb b g) w w' := by
  obtain ⟨hd, old, s1, p1, p2, p3, p4, p5, rfl⟩ := tset_parts hs
  rw [hr] at p1
  injection p1 with p1
  subst p1
  obtain ⟨vf, hvf⟩ : ∃ vf, hform h = vf := ⟨_, rfl⟩
  obtain ⟨vt, hvt⟩ : ∃ vt, htag h = vt := ⟨_, rfl⟩
  obtain ⟨vm, hvm⟩ : ∃ vm, hmark h = vm := ⟨_, rfl⟩
  obtain ⟨vn, hvn⟩ : ∃ vn, hn h = vn := ⟨_, rfl⟩
  have HF := Box.mk (field_ok hI hxc hp hr hi hq hvf hvt hvm hvn)
  rw [hvf] at hf p4
  subst hf
  rw [if_neg (by rw [hm]; simp)] at p4
  injection p4 with p4
  subst p4
  have p4 := trivial
  have HM := Box.mk hm
  have Hval := Box.mk hval
  clear hval
  obtain ⟨z, hz⟩ : ∃ z, q + 3 + i = z := ⟨_, rfl⟩
  rw [hz] at HF p2 p3 p5 ⊢
  have Hv := Box.mk (And.intro p2 p3)
  have HX := Box.mk hx
  have HN := Box.mk hnow
  have P4 := Box.mk p4
  have P5 := Box.mk p5
  clear hI hxc hp hr hi hvf hvt hvm hvn p2 p3 p4 p5 hz hs hx hnow hm
  go_enter Try.func25, Try.ntmps25
  go_wp2_with fail
  refine HF.out.mono ?_
  rintro e w1 ⟨rfl, hI1, k1⟩
  have ka := (Keeps.refl (fun _ => False) w1).alloc (.cells #[.int .i64 (1 : Int), .int .i64 (vt : Int), .int .i64 (vm : Int), .int .i64 (vn : Int)] 110)
  have hh := heap_alloc_new w1 (.cells #[.int .i64 (1 : Int), .int .i64 (vt : Int), .int .i64 (vm : Int), .int .i64 (vn : Int)] 110)
  have H2 := Box.mk (hI1.keeps0 ka)
  have K2 := Box.mk (k1.trans (ka.mono (S' := foot3 hb b g) (fun _ _ h => h.elim)))
  have hlt := hI1.lt
  clear HF hI1 k1 ka
  have hst := H2.out.store
  go_wp2_with fail
  obtain ⟨a, hae⟩ : ∃ a, w1.heap.size = a := ⟨_, rfl⟩
  rw [hae] at hh hlt
  try rw [hae]
  clear hae
  generalize w1.alloc (.cells #[.int .i64 (1 : Int), .int .i64 (vt : Int), .int .i64 (vm : Int), .int .i64 (vn : Int)] 110) = w2 at *
  refine (wget_is H2.out.iw Hv.out.1).mono ?_
  rw [Hv.out.2]
  rintro e w3 ⟨rfl, hI3, k3⟩
  have H3 : Box (IsTH w3 hb b g s) := ⟨H2.out.ring k3 hI3⟩
  have K3 := Box.mk (K2.out.trans (k3.mono (S' := foot3 hb b g) (fun i _ h => Or.inr h)))
  have hh3 := k3.heap hh (by unfold foot; omega)
  have c0 := cell_of_heap hh3 0
  simp only [List.getElem?_toArray, List.getElem?_cons_zero, List.getElem?_cons_succ] at c0
  clear hI3 k3 H2 K2 hh hst
  have hv := Hval.out
  go_wp2_with fail
  refine (value_is H3.out HX.out).mono ?_
  rw [Hval.out]
  rintro e w4 ⟨rfl, k4⟩
  have H4 := Box.mk (H3.out.keeps0 k4)
  have K4 := Box.mk (K3.out.trans (k4.mono (S' := foot3 hb b g) (fun _ _ h => h.elim)))
  have hh4 := k4.heap hh3 (fun h => h)
  have c0 := cell_of_heap hh4 0
  simp only [List.getElem?_toArray, List.getElem?_cons_zero, List.getElem?_cons_succ] at c0
  have hmk := H4.out.marking
  rw [HM.out] at hmk
  clear k4 H3 K3 hh3 hv
  have H9 := H4
  have K9 := K4
  clear H4 K4
  have hst9 := H9.out.store
  go_wp2_with fail
  refine (wset_is x H9.out.iw P5.out).mono ?_
  rintro e w10 ⟨rfl, hI10, k10⟩
  have K10 := Box.mk (K9.out.trans (k10.mono (S' := foot3 hb b g) (fun i _ h => Or.inr h)))
  have H10 := Box.mk (H9.out.ring k10 hI10)
  clear hI10 k10 H9 K9 hst9
  go_wp2_with fail
  go_ret
  exact ⟨rfl, H10.out, K10.out⟩


set_option maxRecDepth 100000 in
set_option maxHeartbeats 2000000 in
theorem set_plain_mark {hb b g xc q c h i x : Nat} {s s' : TH} {w : World} (hI : IsTH w hb b g s) (hxc : xc < 18446744073709551616) (hp : tplace s xc = some (q, c)) (hr : rdh s.W q = some h) (hi : i < hn h) (hq : q ≤ 1048576) (hnow : s.now ≤ 1) (hx : x < 18446744073709551616) (hs : tset s q i x = some s') (hf : hform h = 1) (hm : s.marking = true) (hval : tvalue s x = true) :
    Calls Try.prog 25 #[.pointer (some ⟨hb, 0, none⟩), .int .u64 xc, .int .i64 i, .int .u64 x] w fun e w' => e = .returned .nilIface ∧ IsTH w' hb b g s' ∧ Keeps (foot3 hb b g) w w' := by
  obtain ⟨hd, old, s1, p1, p2, p3, p4, p5, rfl⟩ := tset_parts hs
  rw [hr] at p1
  injection p1 with p1
  subst p1
  obtain ⟨vf, hvf⟩ : ∃ vf, hform h = vf := ⟨_, rfl⟩
  obtain ⟨vt, hvt⟩ : ∃ vt, htag h = vt := ⟨_, rfl⟩
  obtain ⟨vm, hvm⟩ : ∃ vm, hmark h = vm := ⟨_, rfl⟩
  obtain ⟨vn, hvn⟩ : ∃ vn, hn h = vn := ⟨_, rfl⟩
  have HF := Box.mk (field_ok hI hxc hp hr hi hq hvf hvt hvm hvn)
  rw [hvf] at hf p4
  subst hf
  rw [if_pos ⟨rfl, hm⟩] at p4
  have HM := Box.mk hm
  have Hval := Box.mk hval
  clear hval
  obtain ⟨z, hz⟩ : ∃ z, q + 3 + i = z := ⟨_, rfl⟩
  rw [hz] at HF p2 p3 p5 ⊢
  have Hv := Box.mk (And.intro p2 p3)
  have HX := Box.mk hx
  have HN := Box.mk hnow
  have P4 := Box.mk p4
  have P5 := Box.mk p5
  clear hI hxc hp hr hi hvf hvt hvm hvn p2 p3 p4 p5 hz hs hx hnow hm
  go_enter Try.func25, Try.ntmps25
  go_wp2_with fail
  refine HF.out.mono ?_
  rintro e w1 ⟨rfl, hI1, k1⟩
  have ka := (Keeps.refl (fun _ => False) w1).alloc (.cells #[.int .i64 (1 : Int), .int .i64 (vt : Int), .int .i64 (vm : Int), .int .i64 (vn : Int)] 110)
  have hh := heap_alloc_new w1 (.cells #[.int .i64 (1 : Int), .int .i64 (vt : Int), .int .i64 (vm : Int), .int .i64 (vn : Int)] 110)
  have H2 := Box.mk (hI1.keeps0 ka)
  have K2 := Box.mk (k1.trans (ka.mono (S' := foot3 hb b g) (fun _ _ h => h.elim)))
  have hlt := hI1.lt
  clear HF hI1 k1 ka
  have hst := H2.out.store
  go_wp2_with fail
  obtain ⟨a, hae⟩ : ∃ a, w1.heap.size = a := ⟨_, rfl⟩
  rw [hae] at hh hlt
  try rw [hae]
  clear hae
  generalize w1.alloc (.cells #[.int .i64 (1 : Int), .int .i64 (vt : Int), .int .i64 (vm : Int), .int .i64 (vn : Int)] 110) = w2 at *
  refine (wget_is H2.out.iw Hv.out.1).mono ?_
  rw [Hv.out.2]
  rintro e w3 ⟨rfl, hI3, k3⟩
  have H3 : Box (IsTH w3 hb b g s) := ⟨H2.out.ring k3 hI3⟩
  have K3 := Box.mk (K2.out.trans (k3.mono (S' := foot3 hb b g) (fun i _ h => Or.inr h)))
  have hh3 := k3.heap hh (by unfold foot; omega)
  have c0 := cell_of_heap hh3 0
  simp only [List.getElem?_toArray, List.getElem?_cons_zero, List.getElem?_cons_succ] at c0
  clear hI3 k3 H2 K2 hh hst
  have hv := Hval.out
  go_wp2_with fail
  refine (value_is H3.out HX.out).mono ?_
  rw [Hval.out]
  rintro e w4 ⟨rfl, k4⟩
  have H4 := Box.mk (H3.out.keeps0 k4)
  have K4 := Box.mk (K3.out.trans (k4.mono (S' := foot3 hb b g) (fun _ _ h => h.elim)))
  have hh4 := k4.heap hh3 (fun h => h)
  have c0 := cell_of_heap hh4 0
  simp only [List.getElem?_toArray, List.getElem?_cons_zero, List.getElem?_cons_succ] at c0
  have hmk := H4.out.marking
  rw [HM.out] at hmk
  clear k4 H3 K3 hh3 hv
  go_wp2_with fail
  refine (shade_is H4.out P4.out HN.out).mono ?_
  rintro e w5 ⟨rfl, hI5, k5⟩
  have H9 := Box.mk hI5
  have K9 := Box.mk (K4.out.trans k5)
  clear H4 K4 hI5 k5 hmk
  have hst9 := H9.out.store
  go_wp2_with fail
  refine (wset_is x H9.out.iw P5.out).mono ?_
  rintro e w10 ⟨rfl, hI10, k10⟩
  have K10 := Box.mk (K9.out.trans (k10.mono (S' := foot3 hb b g) (fun i _ h => Or.inr h)))
  have H10 := Box.mk (H9.out.ring k10 hI10)
  clear hI10 k10 H9 K9 hst9
  go_wp2_with fail
  go_ret
  exact ⟨rfl, H10.out, K10.out⟩


theorem set_is {hb b g xc q c h i x : Nat} {s s' : TH} {w : World} (hI : IsTH w hb b g s) (hxc : xc < 18446744073709551616) (hp : tplace s xc = some (q, c)) (hr : rdh s.W q = some h) (hi : i < hn h) (hq : q ≤ 1048576) (hnow : s.now ≤ 1) (hx : x < 18446744073709551616) (hs : tset s q i x = some s')
    (hf : hform h = 1 ∧ tvalue s x = true ∨ hform h = 2) :
    Calls Try.prog 25 #[.pointer (some ⟨hb, 0, none⟩), .int .u64 xc, .int .i64 i, .int .u64 x] w fun e w' => e = .returned .nilIface ∧ IsTH w' hb b g s' ∧ Keeps (foot3 hb b g) w w' := by
  rcases hf with ⟨h1, h2⟩ | h1
  · cases hm : s.marking with
    | false => exact set_plain_rest hI hxc hp hr hi hq hnow hx hs h1 hm h2
    | true => exact set_plain_mark hI hxc hp hr hi hq hnow hx hs h1 hm h2
  · exact set_raw hI hxc hp hr hi hq hnow hx hs h1

end Go.Proofs.Ytbjlapfcnldpoaa