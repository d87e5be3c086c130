/- The heap's move by its contract. -/
import Derived.Test.YtbjlapfcnldpoaaTPlace
import Derived.Deep.RegionHeld3
namespace Go.Proofs.Ytbjlapfcnldpoaa
set_option linter.unusedVariables false
set_option linter.unusedSimpArgs false
open Go.RowKit

theorem tmove_parts {s s' : TH} {x c t mark l : Nat} (h : tmove s x c t mark l = some s') :
    ∃ hd W1 W2 W3, rdh s.W x = some hd ∧ wrt s.W x (hdr (hform hd) (htag hd) mark (hn hd)) = some W1 ∧ oRemove W1 x = some W2 ∧ oInsert W2 t x = some W3 ∧ lget s c l < 1000000 ∧ s' = { lset s c l (lget s c l + 1) with W := W3 } := by
  unfold tmove at h
  simp only [Option.bind_eq_bind, Option.bind_eq_some_iff] at h
  obtain ⟨hd, h1, W1, h2, W2, h3, W3, h4, u, h5, h6⟩ := h
  refine ⟨hd, W1, W2, W3, h1, h2, h3, h4, ?_, ?_⟩
  · unfold req at h5
    split at h5
    · rename_i h7; simpa using h7
    · cases h5
  · simp only [Option.pure_def, Option.some.injEq] at h6
    exact h6.symm
theorem wrt_parts {W W' : List Nat} {p x : Nat} (h : wrt W p x = some W') : p < W.length ∧ W' = W.set p x := by
  unfold wrt at h
  split at h
  · rename_i h1; injection h with h; exact ⟨h1, h.symm⟩
  · cases h
theorem oRemove_parts {W W' : List Nat} {q : Nat} (h : oRemove W q = some W') : q + 2 < W.length ∧ wat W (q + 1) + 2 < W.length ∧ wat W (q + 2) + 2 < W.length ∧ W' = setAll W [(wat W (q + 1), 2, wat W (q + 2)), (wat W (q + 2), 1, wat W (q + 1)), (q, 1, q), (q, 2, q)] := by
  unfold oRemove isPlace at h
  simp only [Bool.and_eq_true, decide_eq_true_eq] at h
  split at h
  · rename_i h1; injection h with h; exact ⟨h1.1.1, h1.1.2, h1.2, h.symm⟩
  · cases h
theorem oInsert_parts {W W' : List Nat} {p q : Nat} (h : oInsert W p q = some W') : p + 2 < W.length ∧ q + 2 < W.length ∧ wat W (p + 2) + 2 < W.length ∧ W' = setAll W [(q, 1, p), (q, 2, wat W (p + 2)), (p, 2, q), (wat W (p + 2), 1, q)] := by
  unfold oInsert isPlace at h
  simp only [Bool.and_eq_true, decide_eq_true_eq] at h
  split at h
  · rename_i h1; injection h with h; exact ⟨h1.1.1, h1.1.2, h1.2, h.symm⟩
  · cases h

set_option maxRecDepth 100000 in
set_option maxHeartbeats 2000000 in
theorem move_is {hb b g : Nat} {s s' : TH} {w : World} {x c t mark l : Nat} (hI : IsTH w hb b g s) (hm : tmove s x c t mark l = some s') (hc : c < 4) (hl : l < 4) (hmk : mark < 4) :
    Calls Try.prog 94 #[.pointer (some ⟨hb, 0, none⟩), .int .i64 x, .int .i64 c, .int .i64 t, .int .i64 mark, .int .i64 l] w fun e w' => e = .returned (.tuple #[]) ∧ IsTH w' hb b g s' ∧ Keeps (foot3 hb b g) w w' := by
  obtain ⟨hd, W1, W2, W3, h1, h2, h3, h4, h5, rfl⟩ := tmove_parts hm
  obtain ⟨p1, rfl⟩ := wrt_parts h2
  obtain ⟨q1, q2, q3, rfl⟩ := oRemove_parts h3
  obtain ⟨r1, r2, r3, rfl⟩ := oInsert_parts h4
  clear hm h2 h3 h4
  have H := Box.mk hI
  have H1 := Box.mk h1
  have hlt := Box.mk hI.lt
  clear hI h1
  go_enter Try.func94, Try.ntmps94
  go_wp2_with fail
  refine (at_is x H.out H1.out).mono ?_
  rintro e w1 ⟨rfl, hI1, k1⟩
  have b1 : hform hd < 4 := by unfold hform; omega
  have b2 : htag hd < 16 := by unfold htag; omega
  have b4 : hn hd < 256 := by unfold hn; omega
  obtain ⟨vf, hvf⟩ : ∃ vf, hform hd = vf := ⟨_, rfl⟩
  obtain ⟨vt, hvt⟩ : ∃ vt, htag hd = vt := ⟨_, rfl⟩
  obtain ⟨vm, hvm⟩ : ∃ vm, hmark hd = vm := ⟨_, rfl⟩
  obtain ⟨vn, hvn⟩ : ∃ vn, hn hd = vn := ⟨_, rfl⟩
  rw [hvf, hvt, hvm, hvn]
  rw [hvf] at b1
  rw [hvt] at b2
  rw [hvn] at b4
  unfold hval
  go_wp2_with fail
  have hh := heap_alloc_new w1 (.cells #[.int .i64 vf, .int .i64 vt, .int .i64 mark, .int .i64 vn] 110)
  have ka := (Keeps.refl (fun _ => False) w1).alloc (.cells #[.int .i64 vf, .int .i64 vt, .int .i64 mark, .int .i64 vn] 110)
  have H2 := Box.mk (hI1.keeps0 ka)
  have K2 := Box.mk (k1.trans (ka.mono (S' := foot3 hb b g) (fun _ _ h => h.elim)))
  obtain ⟨a, ha⟩ : ∃ a, w1.heap.size = a := ⟨_, rfl⟩
  have hlta : hb < a ∧ b < a ∧ g < a := by have := hI1.lt; omega
  rw [ha] at hh ⊢
  have Hp1 := Box.mk p1
  have Hhd : Box (hdr vf vt mark vn = hdr (hform hd) (htag hd) mark (hn hd)) := ⟨by rw [hvf, hvt, hvn]⟩
  clear ka hI1 k1 ha hvf hvt hvm hvn
  generalize w1.alloc (.cells #[.int .i64 vf, .int .i64 vt, .int .i64 mark, .int .i64 vn] 110) = w2 at *
  have hs := H2.out.store
  have c0 := cell_of_heap hh 0
  have c1 := cell_of_heap hh 1
  have c2 := cell_of_heap hh 2
  have c3 := cell_of_heap hh 3
  simp only [List.getElem?_toArray, List.getElem?_cons_zero, List.getElem?_cons_succ] at c0 c1 c2 c3
  have hna : ¬ foot b g a := by unfold foot; omega
  have hnh : ¬ foot b g hb := by have := H2.out.ne; unfold foot; omega
  clear hh
  go_region_held3 (fun w' => w'.cell? ⟨hb, 0, none⟩ = some (.pointer (some ⟨b, 0, none⟩)) ∧ w'.cell? ⟨a, 0, none⟩ = some (.int .i64 vf) ∧ w'.cell? ⟨a, 1, none⟩ = some (.int .i64 vt) ∧ w'.cell? ⟨a, 2, none⟩ = some (.int .i64 mark) ∧ w'.cell? ⟨a, 3, none⟩ = some (.int .i64 vn)) (first | exact ⟨k4.cell (k3.cell hs (fun h => h)) hnh, k4.cell (k3.cell c0 (fun h => h)) hna, k4.cell (k3.cell c1 (fun h => h)) hna, k4.cell (k3.cell c2 (fun h => h)) hna, k4.cell (k3.cell c3 (fun h => h)) hna⟩ | exact ⟨k3.cell hs (fun h => h), k3.cell c0 (fun h => h), k3.cell c1 (fun h => h), k3.cell c2 (fun h => h), k3.cell c3 (fun h => h)⟩ | go_keep) (first | (go_at_call 74; refine (hword_is vf vt mark vn _ b1 b2 hmk b4).mono ?_; rintro e w3 ⟨rfl, k3⟩) | (go_at_call 73; refine (wset_is _ ((H2.out.keeps0 (show Keeps (fun _ => False) w2 _ from ⟨k3.os, k3.tape, k3.output, k3.size, k3.block⟩)).iw) Hp1.out).mono ?_; rintro e w4 ⟨rfl, hI4, k4⟩))
  have k3' : Keeps (fun _ => False) w2 w3 := ⟨k3.os, k3.tape, k3.output, k3.size, k3.block⟩
  have H4' := (H2.out.keeps0 k3').ring k4 hI4
  rw [Hhd.out] at H4'
  have H4 := Box.mk H4'
  have K4 := Box.mk (K2.out.trans ((k3'.mono (S' := foot3 hb b g) (fun _ _ h => h.elim)).trans (k4.mono (S' := foot3 hb b g) (fun i _ h => Or.inr h))))
  have hs4 := H4.out.store
  clear H4' hI4 k3' k3 k4 H2 K2 hs c0 c1 c2 c3 hna Hhd
  go_wp2_with fail
  refine (rremove_is (q := x) H4.out.iw q1 rfl rfl q2 q3).mono ?_
  rintro e w5 ⟨rfl, hI5, k5⟩
  have H5 := Box.mk (H4.out.ring k5 hI5)
  have K5 := Box.mk (K4.out.trans (k5.mono (S' := foot3 hb b g) (fun i _ h => Or.inr h)))
  have hs5 := H5.out.store
  clear hI5 k5 H4 K4 hs4
  go_wp2_with fail
  refine (rinsert_is (p := t) (q := x) H5.out.iw r1 r2 rfl r3).mono ?_
  rintro e w6 ⟨rfl, hI6, k6⟩
  have H6 := Box.mk (H5.out.ring k6 hI6)
  have K6 := Box.mk (K5.out.trans (k6.mono (S' := foot3 hb b g) (fun i _ h => Or.inr h)))
  clear hI6 k6 H5 K5 hs5
  have hi : 4 * c + l < 16 := by omega
  obtain ⟨n, hn⟩ : ∃ n, lget s c l = n := ⟨_, rfl⟩
  have hn' : s.lists.getD (4 * c + l) 0 = n := hn
  have hcell := H6.out.lists hi
  have hfz := H6.out.frozen (10 + (4 * c + l))
  simp only at hcell
  rw [hn', show 10 + (4 * c + l) = 10 + c * 4 + l by omega] at hcell
  rw [show 10 + (4 * c + l) = 10 + c * 4 + l by omega] at hfz
  rw [hn] at h5
  have Hn2 := Box.mk hn
  have hput := H6.out.putList hi (n + 1)
  rw [show 10 + (4 * c + l) = 10 + c * 4 + l by omega] at hput
  rw [show ((n + 1 : Nat) : Int) = (n : Int) + 1 by omega] at hput
  have HP := Box.mk (hput.keeps0 ((Keeps.refl (fun _ => False) _).drew))
  have hc0 : (0 : Int) ≤ (c : Int) := by omega
  have hc1 : (c : Int) < 4 := by omega
  have hl0 : (0 : Int) ≤ (l : Int) := by omega
  have hl1 : (l : Int) < 4 := by omega
  have KP := Box.mk (K6.out.setCell (p := ⟨hb, 10 + c * 4 + l, none⟩) (fun _ => Or.inl rfl) (.int .i64 ((n : Int) + 1)))
  clear hput H6 K6 hn hn' q1 q2 q3 r1 r2 r3
  go_wp2_with fail
  go_region
  go_wp2_with fail
  go_end0
  exact ⟨rfl, by rw [Hn2.out]; exact HP.out, KP.out.drew⟩

end Go.Proofs.Ytbjlapfcnldpoaa
