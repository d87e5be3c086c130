/- The heap's fields by contract: field, Get, Set. -/
import Derived.Test.YtbjlapfcnldpoaaTLayP
namespace Go.Proofs.Ytbjlapfcnldpoaa
set_option linter.unusedVariables false
set_option linter.unusedSimpArgs false
open Go.RowKit

theorem atc_is {hb b g q h : Nat} {s : TH} (hr : rdh s.W q = some h) {vf vt vm vn : Nat} (hvf : hform h = vf) (hvt : htag h = vt) (hvm : hmark h = vm) (hvn : hn h = vn) (W : World) (hW : IsTH W hb b g s) :
    Calls Try.prog 77 #[.pointer (some ⟨hb, 0, none⟩), .int .i64 q] W fun e w' => e = .returned (.agg #[.int .i64 (vf : Int), .int .i64 (vt : Int), .int .i64 (vm : Int), .int .i64 (vn : Int)]) ∧ IsTH w' hb b g s ∧ Keeps (foot3 hb b g) W w' := by
  have := at_is q hW hr
  rw [← hvf, ← hvt, ← hvm, ← hvn]
  exact this

theorem set4_heap {w : World} {a : Nat} {v0 v1 v2 v3 : Value} {T : TypeId} (h : w.heap[a]? = some (.cells #[v0, v1, v2, v3] T (0, 0))) (x0 x1 x2 x3 : Value) :
    ((((w.setCell ⟨a, 0, none⟩ x0).setCell ⟨a, 1, none⟩ x1).setCell ⟨a, 2, none⟩ x2).setCell ⟨a, 3, none⟩ x3).heap[a]? = some (.cells #[x0, x1, x2, x3] T (0, 0)) := by
  have h0 := heap_setCell_at h 0 x0
  have h1 := heap_setCell_at h0 1 x1
  have h2 := heap_setCell_at h1 2 x2
  have h3 := heap_setCell_at h2 3 x3
  exact h3
theorem set4_keeps {w0 w : World} {a : Nat} (k : Keeps (fun _ => False) w0 w) (ha : w0.heap.size ≤ a) (x0 x1 x2 x3 : Value) :
    Keeps (fun _ => False) w0 ((((w.setCell ⟨a, 0, none⟩ x0).setCell ⟨a, 1, none⟩ x1).setCell ⟨a, 2, none⟩ x2).setCell ⟨a, 3, none⟩ x3) :=
  (((k.setCell (p := ⟨a, 0, none⟩) (fun h => by simp only at h; omega) x0).setCell (p := ⟨a, 1, none⟩) (fun h => by simp only at h; omega) x1).setCell (p := ⟨a, 2, none⟩) (fun h => by simp only at h; omega) x2).setCell (p := ⟨a, 3, none⟩) (fun h => by simp only at h; omega) x3
theorem set4_own (w : World) (a : Nat) (x0 x1 x2 x3 : Value) :
    Keeps (fun z => z = a) w ((((w.setCell ⟨a, 0, none⟩ x0).setCell ⟨a, 1, none⟩ x1).setCell ⟨a, 2, none⟩ x2).setCell ⟨a, 3, none⟩ x3) :=
  ((((Keeps.refl (fun z => z = a) w).setCell (p := ⟨a, 0, none⟩) (fun _ => rfl) x0).setCell (p := ⟨a, 1, none⟩) (fun _ => rfl) x1).setCell (p := ⟨a, 2, none⟩) (fun _ => rfl) x2).setCell (p := ⟨a, 3, none⟩) (fun _ => rfl) x3

set_option maxRecDepth 100000 in
theorem field_no {hb b g x : Nat} {s : TH} {w : World} (i : Int) (hI : IsTH w hb b g s) (hx : x < 18446744073709551616) (hp : tplace s x = none) :
    Calls Try.prog 78 #[.pointer (some ⟨hb, 0, none⟩), .int .u64 x, .int .i64 i] w fun e w' => e = .returned (.tuple #[.int .i64 0, .agg #[.int .i64 0, .int .i64 0, .int .i64 0, .int .i64 0], .iface 97 (.int .i64 2)]) ∧ IsTH w' hb b g s ∧ Keeps (foot3 hb b g) w w' := by
  have H := Box.mk (And.intro hI (And.intro hx hp))
  clear hI hx hp
  go_enter Try.func78, Try.ntmps78
  go_wp2_with fail
  have ka := (Keeps.refl (fun _ => False) w).alloc (.cells #[.int .i64 0, .int .i64 0, .int .i64 0, .int .i64 0] 110)
  have hh := heap_alloc_new w (.cells #[.int .i64 0, .int .i64 0, .int .i64 0, .int .i64 0] 110)
  refine (place_is x (H.out.1.keeps0 ka) H.out.2.1).mono ?_
  rintro e w1 ⟨⟨p, c, ok, rfl, hok, -⟩, k1⟩
  rw [H.out.2.2] at hok
  subst hok
  have hh1 := k1.heap hh (fun h => h)
  have ha := lt_of_heap hh1
  obtain ⟨a, hae⟩ : ∃ a, w.heap.size = a := ⟨_, rfl⟩
  have hlt := H.out.1.lt
  rw [hae] at hh1 hlt ha ⊢
  have H1 := Box.mk ((H.out.1.keeps0 ka).keeps0 k1)
  have K1 := Box.mk (ka.trans k1)
  have Hae := Box.mk hae
  clear k1 H ka hh hae
  simp only [Option.isSome_none]
  have c0 := cell_of_heap hh1 0
  have c1 := cell_of_heap hh1 1
  have c2 := cell_of_heap hh1 2
  have c3 := cell_of_heap hh1 3
  have f0 := frozen_of_heap hh1
  simp only [List.getElem?_toArray, List.getElem?_cons_zero, List.getElem?_cons_succ] at c0 c1 c2 c3
  go_wp2_with fail
  have hs := set4_heap hh1 (.int .i64 0) (.int .i64 0) (.int .i64 0) (.int .i64 0)
  have d0 := cell_of_heap hs 0
  have d1 := cell_of_heap hs 1
  have d2 := cell_of_heap hs 2
  have d3 := cell_of_heap hs 3
  simp only [List.getElem?_toArray, List.getElem?_cons_zero, List.getElem?_cons_succ] at d0 d1 d2 d3
  have ko := set4_own w1 a (.int .i64 0) (.int .i64 0) (.int .i64 0) (.int .i64 0)
  have kw := set4_keeps K1.out (by have := Hae.out; omega) (.int .i64 0) (.int .i64 0) (.int .i64 0) (.int .i64 0) (a := a)
  clear c0 c1 c2 c3 f0
  generalize ((((w1.setCell ⟨a, 0, none⟩ (.int .i64 0)).setCell ⟨a, 1, none⟩ (.int .i64 0)).setCell ⟨a, 2, none⟩ (.int .i64 0)).setCell ⟨a, 3, none⟩ (.int .i64 0)) = w2 at *
  exact bodyPost_ret (v := .tuple #[.int .i64 0, .agg #[.int .i64 0, .int .i64 0, .int .i64 0, .int .i64 0], .iface 97 (.int .i64 2)]) (by simp [results, Try.results78, go_sem, d0, d1, d2, d3]) rfl ⟨rfl, H1.out.keeps ko (by omega) (by omega) (by omega), kw.mono (fun _ _ h => h.elim)⟩

set_option maxRecDepth 100000 in
set_option maxHeartbeats 2000000 in
theorem field_ok {hb b g x q c h i : Nat} {s : TH} {w : World} (hI : IsTH w hb b g s) (hx : x < 18446744073709551616) (hp : tplace s x = some (q, c)) (hr : rdh s.W q = some h) (hi : i < hn h) (hq : q ≤ 1048576) {vf vt vm vn : Nat} (hvf : hform h = vf) (hvt : htag h = vt) (hvm : hmark h = vm) (hvn : hn h = vn) :
    Calls Try.prog 78 #[.pointer (some ⟨hb, 0, none⟩), .int .u64 x, .int .i64 i] w fun e w' => e = .returned (.tuple #[.int .i64 ((q + 3 + i : Nat) : Int), .agg #[.int .i64 (vf : Int), .int .i64 (vt : Int), .int .i64 (vm : Int), .int .i64 (vn : Int)], .nilIface]) ∧ IsTH w' hb b g s ∧ Keeps (foot3 hb b g) w w' := by
  have H := Box.mk (And.intro hI (And.intro hx hp))
  have Hat := Box.mk (atc_is (hb := hb) (b := b) (g := g) hr hvf hvt hvm hvn)
  have hib : i < 256 := by have := hn_lt h; omega
  rw [hvn] at hi
  obtain ⟨z, hz⟩ : ∃ z, q + 3 + i = z := ⟨_, rfl⟩
  have hzi : (q : Int) + 3 + (i : Int) = (z : Int) := by omega
  rw [hz]
  clear hI hx hp hr hvf hvt hvm hvn hz
  go_enter Try.func78, Try.ntmps78
  go_wp2_with fail
  have ka := (Keeps.refl (fun _ => False) w).alloc (.cells #[.int .i64 0, .int .i64 0, .int .i64 0, .int .i64 0] 110)
  have hh := heap_alloc_new w (.cells #[.int .i64 0, .int .i64 0, .int .i64 0, .int .i64 0] 110)
  refine (place_is x (H.out.1.keeps0 ka) H.out.2.1).mono ?_
  rintro e w1 ⟨⟨p, c', ok, rfl, hok, hpc⟩, k1⟩
  obtain ⟨rfl, rfl⟩ := hpc _ _ H.out.2.2
  rw [H.out.2.2] at hok
  subst hok
  have hh1 := k1.heap hh (fun h => h)
  have ha := lt_of_heap hh1
  obtain ⟨a, hae⟩ : ∃ a, w.heap.size = a := ⟨_, rfl⟩
  have hlt := H.out.1.lt
  rw [hae] at hh1 hlt ha ⊢
  have H1 := Box.mk ((H.out.1.keeps0 ka).keeps0 k1)
  have K1 := Box.mk (ka.trans k1)
  have Hae := Box.mk hae
  clear k1 H ka hh hae hpc
  simp only [Option.isSome_some]
  go_wp2_with fail
  refine (Hat.out _ H1.out).mono ?_
  rintro e w2 ⟨rfl, hI2, k2⟩
  have hh2 := k2.heap hh1 (by unfold foot3; omega)
  have hsz : a < w2.heap.size := lt_of_heap hh2
  clear hh1 ha H1
  go_wp2_with fail
  have hx2 := heap_alloc_new w2 (.cells #[.int .i64 (vf : Int), .int .i64 (vt : Int), .int .i64 (vm : Int), .int .i64 (vn : Int)] 110)
  have kb := (Keeps.refl (fun _ => False) w2).alloc (.cells #[.int .i64 (vf : Int), .int .i64 (vt : Int), .int .i64 (vm : Int), .int .i64 (vn : Int)] 110)
  have hh3 := kb.heap hh2 (fun h => h)
  have H3 := Box.mk (hI2.keeps0 kb)
  have K3 := Box.mk ((K1.out.mono (S' := foot3 hb b g) (fun _ _ h => h.elim)).trans (k2.trans (kb.mono (S' := foot3 hb b g) (fun _ _ h => h.elim))))
  obtain ⟨a2, ha2⟩ : ∃ a2, w2.heap.size = a2 := ⟨_, rfl⟩
  rw [ha2] at hx2 hsz ⊢
  clear ha2 hI2 k2 hh2 kb K1
  generalize w2.alloc (.cells #[.int .i64 (vf : Int), .int .i64 (vt : Int), .int .i64 (vm : Int), .int .i64 (vn : Int)] 110) = w3 at *
  have c0 := cell_of_heap hx2 0
  have c1 := cell_of_heap hx2 1
  have c2 := cell_of_heap hx2 2
  have c3 := cell_of_heap hx2 3
  have e0 := cell_of_heap hh3 0
  have e1 := cell_of_heap hh3 1
  have e2 := cell_of_heap hh3 2
  have e3 := cell_of_heap hh3 3
  have f0 := frozen_of_heap hh3
  simp only [List.getElem?_toArray, List.getElem?_cons_zero, List.getElem?_cons_succ] at c0 c1 c2 c3 e0 e1 e2 e3
  go_region
  have hs : ((((w3.setCell ⟨a, 0, none⟩ (.int .i64 (vf : Int))).setCell ⟨a, 1, none⟩ (.int .i64 (vt : Int))).setCell ⟨a, 2, none⟩ (.int .i64 (vm : Int))).setCell ⟨a, 3, none⟩ (.int .i64 (vn : Int))).drew.heap[a]? = _ := set4_heap hh3 (.int .i64 (vf : Int)) (.int .i64 (vt : Int)) (.int .i64 (vm : Int)) (.int .i64 (vn : Int))
  have ko : Keeps (fun z => z = a) w3 ((((w3.setCell ⟨a, 0, none⟩ (.int .i64 (vf : Int))).setCell ⟨a, 1, none⟩ (.int .i64 (vt : Int))).setCell ⟨a, 2, none⟩ (.int .i64 (vm : Int))).setCell ⟨a, 3, none⟩ (.int .i64 (vn : Int))).drew := (set4_own w3 a (.int .i64 (vf : Int)) (.int .i64 (vt : Int)) (.int .i64 (vm : Int)) (.int .i64 (vn : Int))).drew
  clear c0 c1 c2 c3 e0 e1 e2 e3 f0 hx2 hh3
  generalize ((((w3.setCell ⟨a, 0, none⟩ (.int .i64 (vf : Int))).setCell ⟨a, 1, none⟩ (.int .i64 (vt : Int))).setCell ⟨a, 2, none⟩ (.int .i64 (vm : Int))).setCell ⟨a, 3, none⟩ (.int .i64 (vn : Int))).drew = w4 at *
  have d0 := cell_of_heap hs 0
  have d1 := cell_of_heap hs 1
  have d2 := cell_of_heap hs 2
  have d3 := cell_of_heap hs 3
  simp only [List.getElem?_toArray, List.getElem?_cons_zero, List.getElem?_cons_succ] at d0 d1 d2 d3
  have H4 := Box.mk (H3.out.keeps ko (by omega) (by omega) (by omega))
  have K4 : Box (Keeps (foot3 hb b g) w w4) := ⟨K3.out.trans' ko (fun z hz h => by have := Hae.out; omega)⟩
  clear H3 K3 ko
  go_wp2_with fail
  exact bodyPost_ret (v := .tuple #[.int .i64 (z : Int), .agg #[.int .i64 (vf : Int), .int .i64 (vt : Int), .int .i64 (vm : Int), .int .i64 (vn : Int)], .nilIface]) (by simp [results, Try.results78, go_sem, d0, d1, d2, d3]) rfl ⟨rfl, H4.out, K4.out⟩

set_option maxRecDepth 100000 in
set_option maxHeartbeats 2000000 in
theorem get_is {hb b g x q c h i v : Nat} {s : TH} {w : World} (hI : IsTH w hb b g s) (hx : x < 18446744073709551616) (hp : tplace s x = some (q, c)) (hr : rdh s.W q = some h) (hi : i < hn h) (hq : q ≤ 1048576) (hf : hform h ≠ 3) (hl : q + 3 + i < s.W.length) (hv : wat s.W (q + 3 + i) = v) :
    Calls Try.prog 23 #[.pointer (some ⟨hb, 0, none⟩), .int .u64 x, .int .i64 i] w fun e w' => e = .returned (.tuple #[.int .u64 v, .nilIface]) ∧ IsTH w' hb b g s ∧ Keeps (foot3 hb b g) w w' := by
  obtain ⟨vf, hvf⟩ : ∃ vf, hform h = vf := ⟨_, rfl⟩
  obtain ⟨vt, hvt⟩ : ∃ vt, htag h = vt := ⟨_, rfl⟩
  obtain ⟨vm, hvm⟩ : ∃ vm, hmark h = vm := ⟨_, rfl⟩
  obtain ⟨vn, hvn⟩ : ∃ vn, hn h = vn := ⟨_, rfl⟩
  have HF := Box.mk (field_ok hI hx hp hr hi hq hvf hvt hvm hvn)
  rw [hvf] at hf
  have e3 : ((vf : Int) == 3) = false := by rw [beq_eq_false_iff_ne]; omega
  obtain ⟨z, hz⟩ : ∃ z, q + 3 + i = z := ⟨_, rfl⟩
  rw [hz] at HF hl hv
  have Hv := Box.mk (And.intro hl hv)
  clear hI hx hp hr hi hvf hvt hvm hvn hf hl hv hz
  go_enter Try.func23, Try.ntmps23
  go_wp2_with fail
  refine HF.out.mono ?_
  rintro e w1 ⟨rfl, hI1, k1⟩
  have ka := (Keeps.refl (fun _ => False) w1).alloc (.cells #[.int .i64 (vf : Int), .int .i64 (vt : Int), .int .i64 (vm : Int), .int .i64 (vn : Int)] 110)
  have hh := heap_alloc_new w1 (.cells #[.int .i64 (vf : Int), .int .i64 (vt : Int), .int .i64 (vm : Int), .int .i64 (vn : Int)] 110)
  have H2 := Box.mk (hI1.keeps0 ka)
  have K2 := Box.mk (k1.trans (ka.mono (S' := foot3 hb b g) (fun _ _ h => h.elim)))
  have hlt := hI1.lt
  clear HF hI1 k1 ka
  have hst := H2.out.store
  go_wp2_with fail
  obtain ⟨a, hae⟩ : ∃ a, w1.heap.size = a := ⟨_, rfl⟩
  rw [hae] at hh hlt ⊢
  clear hae
  generalize w1.alloc (.cells #[.int .i64 (vf : Int), .int .i64 (vt : Int), .int .i64 (vm : Int), .int .i64 (vn : Int)] 110) = w2 at *
  refine (wget_is H2.out.iw Hv.out.1).mono ?_
  rw [Hv.out.2]
  rintro e w3 ⟨rfl, hI3, k3⟩
  have H3 : Box (IsTH w3 hb b g s) := ⟨H2.out.ring k3 hI3⟩
  have K3 := Box.mk (K2.out.trans (k3.mono (S' := foot3 hb b g) (fun i _ h => Or.inr h)))
  have hh3 := k3.heap hh (by unfold foot; omega)
  have c0 := cell_of_heap hh3 0
  simp only [List.getElem?_toArray, List.getElem?_cons_zero, List.getElem?_cons_succ] at c0
  clear hI3 k3 H2 K2 hh hh3 hst
  go_wp2_with fail
  go_ret2
  exact ⟨rfl, H3.out, K3.out⟩

end Go.Proofs.Ytbjlapfcnldpoaa
