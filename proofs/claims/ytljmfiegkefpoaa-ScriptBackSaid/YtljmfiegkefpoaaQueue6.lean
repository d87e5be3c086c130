/- The queue as a plain list of events. -/
import Derived.Test.YtljmfiegkefpoaaQueue5
namespace Go.Proofs.Ytljmfiegkefpoaa
set_option linter.unusedVariables false
set_option linter.unusedSimpArgs false
open Go.RowKit

/-- A queue in block b has the events l. -/
def IsQL (w : World) (b : Nat) (l : List (Int × Int)) : Prop := ∃ L, IsQ w b L ∧ qlist L = l

theorem qlist_len {w : World} {b : Nat} {L : List Int} (h : IsQ w b L) : ((qlist L).length : Int) = L.getD 33 0 := by
  have := h.n0
  unfold qlist
  simp only [List.length_map, List.length_range]
  omega
theorem qlist_zero : qlist (List.replicate 34 0) = [] := by decide
theorem IsQL.len {w : World} {b : Nat} {l : List (Int × Int)} (h : IsQL w b l) : l.length ≤ 16 := by
  obtain ⟨L, hq, rfl⟩ := h
  have := qlist_len hq
  have := hq.n1
  omega
theorem IsQL.lt {w : World} {b : Nat} {l : List (Int × Int)} (h : IsQL w b l) : b < w.heap.size := by obtain ⟨L, hq, _⟩ := h; exact hq.lt
theorem IsQL.keeps {w w' : World} {b : Nat} {l : List (Int × Int)} (h : IsQL w b l) {S : Nat → Prop} (hk : Keeps S w w') (h1 : ¬ S b) : IsQL w' b l := by
  obtain ⟨L, hq, hl⟩ := h
  exact ⟨L, hq.keeps hk h1, hl⟩
theorem IsQL.keeps0 {w w' : World} {b : Nat} {l : List (Int × Int)} (h : IsQL w b l) (hk : Keeps (fun _ => False) w w') : IsQL w' b l := h.keeps hk (fun h => h)
theorem IsQL.drewN {w : World} {b : Nat} {l : List (Int × Int)} (h : IsQL w b l) (n : Nat) : IsQL (w.drewN n) b l := by
  obtain ⟨L, hq, hl⟩ := h
  exact ⟨L, hq.drewN n, hl⟩

theorem qlist_push {w : World} {b : Nat} {L : List Int} (h : IsQ w b L) (hn : L.getD 33 0 < 16) (k n : Int) : qlist (qpush L k n) = qlist L ++ [(k, n)] := by
  have f0 := h.f0
  have f1 := h.f1
  have n0 := h.n0
  have hl := h.len
  obtain ⟨F, hF⟩ : ∃ F : Nat, L.getD 32 0 = (F : Int) := ⟨(L.getD 32 0).toNat, by omega⟩
  obtain ⟨N, hN⟩ : ∃ N : Nat, L.getD 33 0 = (N : Int) := ⟨(L.getD 33 0).toNat, by omega⟩
  have hp : qpos L (L.getD 33 0) = ((F + N) % 16) * 2 := by unfold qpos; rw [hF, hN]; omega
  have h16 : (F + N) % 16 < 16 := Nat.mod_lt _ (by omega)
  have e1 : (qpush L k n).getD 33 0 = (N : Int) + 1 := by unfold qpush; rw [hN]; simp only [List.getD_eq_getElem?_getD]; rw [List.getElem?_set_self (by simp; omega)]; rfl
  have e2 : (qpush L k n).getD 32 0 = (F : Int) := by
    unfold qpush
    rw [hp, ← hF]
    simp only [List.getD_eq_getElem?_getD]
    rw [List.getElem?_set_ne (by omega), List.getElem?_set_ne (by omega), List.getElem?_set_ne (by omega)]
  have e3 : ∀ j, j < 16 → qev F (qpush L k n) j = if j = N then (k, n) else qev F L j := by
    intro j hj
    rw [← qev_set F L hl k n N j (by omega) hj]
    have : (F + j) % 16 < 16 := Nat.mod_lt _ (by omega)
    unfold qpush
    rw [hp]
    simp only [qev, List.getD_eq_getElem?_getD]
    rw [List.getElem?_set_ne (show (33 : Nat) ≠ 2 * ((F + j) % 16) by omega), List.getElem?_set_ne (show (33 : Nat) ≠ 2 * ((F + j) % 16) + 1 by omega)]
  have hNn : N < 16 := by omega
  unfold qlist
  rw [e1, e2, hF, hN, show ((N : Int) + 1).toNat = N + 1 by omega, List.range_succ, List.map_append]
  simp only [Int.toNat_natCast, List.map_cons, List.map_nil]
  rw [e3 N hNn, if_pos rfl]
  congr 1
  apply List.map_congr_left
  intro j hj
  have : j < N := by simpa using hj
  rw [e3 j (by omega), if_neg (by omega)]

theorem qlist_pop {w : World} {b : Nat} {L : List Int} (h : IsQ w b L) (hn : 0 < L.getD 33 0) : qlist L = (L.getD (qpos L 0) 0, L.getD (qpos L 0 + 1) 0) :: qlist (qpop L) := by
  have f0 := h.f0
  have f1 := h.f1
  have n1 := h.n1
  have hl := h.len
  obtain ⟨F, hF⟩ : ∃ F : Nat, L.getD 32 0 = (F : Int) := ⟨(L.getD 32 0).toNat, by omega⟩
  obtain ⟨N, hN⟩ : ∃ N : Nat, L.getD 33 0 = (N : Int) + 1 := ⟨(L.getD 33 0 - 1).toNat, by omega⟩
  have hp : qpos L 0 = (F % 16) * 2 := by unfold qpos; rw [hF]; omega
  have e1 : (qpop L).getD 33 0 = (N : Int) := by unfold qpop; rw [hN]; simp only [List.getD_eq_getElem?_getD]; rw [List.getElem?_set_self (by simp; omega)]; simp
  have e2 : (qpop L).getD 32 0 = (((F + 1) % 16 : Nat) : Int) := by
    unfold qpop
    rw [hF]
    simp only [List.getD_eq_getElem?_getD]
    rw [List.getElem?_set_ne (by omega), List.getElem?_set_self (by omega)]
    simp
  have e3 : ∀ j, qev ((F + 1) % 16) (qpop L) j = qev F L (j + 1) := by
    intro j
    have h1 : (F + (j + 1)) % 16 < 16 := Nat.mod_lt _ (by omega)
    have h2 : ((F + 1) % 16 + j) % 16 = (F + (j + 1)) % 16 := by omega
    unfold qpop qev
    rw [h2]
    simp only [List.getD_eq_getElem?_getD]
    rw [List.getElem?_set_ne (by omega), List.getElem?_set_ne (by omega), List.getElem?_set_ne (by omega), List.getElem?_set_ne (by omega)]
  unfold qlist
  rw [e1, e2, hF, hN, show ((N : Int) + 1).toNat = N + 1 by omega, List.range_succ_eq_map, List.map_cons, hp]
  simp only [Int.toNat_natCast]
  congr 1
  · simp only [qev, Nat.add_zero, Nat.mul_comm 2]
  · rw [List.map_map]
    apply List.map_congr_left
    intro j _
    simp only [Function.comp]
    exact (e3 j).symm

theorem lnew_is (w : World) : Calls Try.prog 13 #[] w fun e w' => e = .returned (.pointer (some ⟨w.heap.size, 0, none⟩)) ∧ IsQL w' w.heap.size [] ∧ Keeps (fun _ => False) w w' :=
  (qnew_is w).mono fun _ _ ⟨h1, h2, h3⟩ => ⟨h1, ⟨_, h2, qlist_zero⟩, h3⟩
theorem lpush_is {b : Nat} {l : List (Int × Int)} {k n : Int} {w : World} (hq : IsQL w b l) (hn : l.length < 16) (hm : evMay k n = true) :
    Calls Try.prog 14 #[.pointer (some ⟨b, 0, none⟩), .agg #[.int .i64 k, .int .i64 n]] w fun e w' => e = .returned .nilIface ∧ IsQL w' b (l ++ [(k, n)]) ∧ Keeps (fun j => j = b) w w' := by
  obtain ⟨L, hq, rfl⟩ := hq
  have h := qlist_len hq
  exact (push_is b L k n w hq (by omega) hm).mono fun _ _ ⟨h1, h2, h3⟩ => ⟨h1, ⟨_, h2, qlist_push hq (by omega) k n⟩, h3⟩
theorem lpush_full {b : Nat} {l : List (Int × Int)} {k n : Int} {w : World} (hq : IsQL w b l) (hn : l.length = 16) (hm : evMay k n = true) :
    Calls Try.prog 14 #[.pointer (some ⟨b, 0, none⟩), .agg #[.int .i64 k, .int .i64 n]] w fun e w' => e = .returned (.iface 40 (.int .i64 18)) ∧ Keeps (fun _ => False) w w' := by
  obtain ⟨L, hq, rfl⟩ := hq
  have h := qlist_len hq
  exact push_full b L k n w hq (by omega) hm
theorem lpop_is {b : Nat} {p : Int × Int} {l : List (Int × Int)} {w : World} (hq : IsQL w b (p :: l)) :
    Calls Try.prog 19 #[.pointer (some ⟨b, 0, none⟩)] w fun e w' => e = .returned (.tuple #[.agg #[.int .i64 p.1, .int .i64 p.2], .bool true]) ∧ IsQL w' b l ∧ Keeps (fun j => j = b) w w' := by
  obtain ⟨L, hq, hl⟩ := hq
  have h := qlist_len hq
  rw [hl] at h
  have hp : 0 < L.getD 33 0 := by rw [← h]; simp
  rw [qlist_pop hq hp] at hl
  injection hl with h1 h2
  subst h1
  exact (pop_is b L w hq hp).mono fun _ _ ⟨h1, h3, h4⟩ => ⟨h1, ⟨_, h3, h2⟩, h4⟩
theorem lpop_none {b : Nat} {w : World} (hq : IsQL w b []) :
    Calls Try.prog 19 #[.pointer (some ⟨b, 0, none⟩)] w fun e w' => e = .returned (.tuple #[.agg #[.int .i64 0, .int .i64 0], .bool false]) ∧ Keeps (fun _ => False) w w' := by
  obtain ⟨L, hq, hl⟩ := hq
  have h := qlist_len hq
  rw [hl] at h
  exact pop_none b L w hq h.symm
theorem ldrop_is {b : Nat} (k : Int) {l : List (Int × Int)} {w : World} (hq : IsQL w b l) :
    Calls Try.prog 17 #[.pointer (some ⟨b, 0, none⟩), .int .i64 k] w fun e w' => e = .returned (.int .i64 ((l.length : Int) - ((l.filter (fun p => p.1 != k)).length : Int))) ∧
      IsQL w' b (l.filter (fun p => p.1 != k)) ∧ Keeps (fun j => j = b) w w' := by
  obtain ⟨L, hq, rfl⟩ := hq
  refine (drop_is b k L w hq).mono ?_
  rintro e w' ⟨L', rfl, h1, h2, h3⟩
  rw [h2.list]
  exact ⟨rfl, ⟨L', h1, h2.list⟩, h3⟩
theorem lall_is {b : Nat} {l : List (Int × Int)} {w : World} (hq : IsQL w b l) :
    Calls Try.prog 15 #[.pointer (some ⟨b, 0, none⟩)] w fun e w' => ∃ v, e = .returned v ∧ w'.ownsRow w.heap.size 27 2 v l.length (evCells l) ∧ Keeps (fun _ => False) w w' := by
  obtain ⟨L, hq, rfl⟩ := hq
  exact all_is b L w hq
theorem llen_is {b : Nat} {l : List (Int × Int)} {w : World} (hq : IsQL w b l) :
    Calls Try.prog 16 #[.pointer (some ⟨b, 0, none⟩)] w fun e w' => e = .returned (.int .i64 l.length) ∧ w' = w := by
  obtain ⟨L, hq, rfl⟩ := hq
  rw [qlist_len hq]
  exact qlen_is b L w hq
theorem lcopy_is {b : Nat} {l : List (Int × Int)} {w : World} (hq : IsQL w b l) :
    Calls Try.prog 25 #[.pointer (some ⟨b, 0, none⟩)] w fun e w' => e = .returned (.pointer (some ⟨w.heap.size, 0, none⟩)) ∧ IsQL w' w.heap.size l ∧ Keeps (fun _ => False) w w' := by
  obtain ⟨L, hq, rfl⟩ := hq
  exact (qcopy_is b L w hq).mono fun _ _ ⟨h1, h2, h3⟩ => ⟨h1, ⟨_, h2, rfl⟩, h3⟩

theorem IsEvs.lit (w : World) (k n : Int) : IsEvs (w.alloc (.cells #[.int .i64 k, .int .i64 n] 27)) (.slice (some ⟨w.heap.size, 0, none⟩) 1 1) [(k, n)] := by
  refine ⟨⟨_, 1, rfl⟩, by simp, fun a n' cap hv i hi => ?_⟩
  simp only [Value.slice.injEq] at hv
  obtain ⟨rfl, -, -⟩ := hv
  obtain rfl : i = 0 := by simpa using hi
  exact ⟨_, 0, rfl, by simp, by simp, by simp⟩
theorem IsEvs.nil (w : World) : IsEvs w (.slice none 0 0) [] := ⟨⟨none, 0, rfl⟩, by simp, fun a n cap hv i hi => by simp at hi⟩

set_option maxRecDepth 100000 in
set_option maxHeartbeats 1000000 in
theorem awake20 (w : World) : Calls Try.prog 12 #[] w fun e w' => e = .returned (.bool true) ∧ Keeps (fun _ => False) w w' := by
  go_enter Try.func12, Try.ntmps12
  go_wp2_with fail
  refine (lnew_is w).mono ?_
  rintro e w1 ⟨rfl, h1, k1⟩
  obtain ⟨b, hb⟩ : ∃ b, w.heap.size = b := ⟨_, rfl⟩
  rw [hb] at h1 ⊢
  have Hb : w.heap.size ≤ b := by omega
  clear hb
  have H1 := Box.mk h1
  have K1 := Box.mk k1
  clear h1 k1
  go_wp2_with fail
  refine (lpush_is H1.out (by simp) (by rfl)).mono ?_
  rintro e w2 ⟨rfl, h2, k2⟩
  have H2 := Box.mk h2
  have K2 := Box.mk (K1.out.trans' k2 (by intro i hi h; omega))
  clear h2 k2 H1 K1
  go_wp2_with fail
  refine (lpush_is H2.out (by simp) (by rfl)).mono ?_
  rintro e w3 ⟨rfl, h3, k3⟩
  have H3 := Box.mk h3
  have K3 := Box.mk (K2.out.trans' k3 (by intro i hi h; omega))
  clear h3 k3 H2 K2
  go_wp2_with fail
  refine (lpush_is H3.out (by simp) (by rfl)).mono ?_
  rintro e w4 ⟨rfl, h4, k4⟩
  have H4 := Box.mk h4
  have K4 := Box.mk (K3.out.trans' k4 (by intro i hi h; omega))
  clear h4 k4 H3 K3
  go_wp2_with fail
  refine (ldrop_is 1 H4.out).mono ?_
  rintro e w5 ⟨rfl, h5, k5⟩
  have H5 : Box (IsQL w5 b [(2, 65)]) := ⟨h5⟩
  have K5 := Box.mk (K4.out.trans' k5 (by intro i hi h; omega))
  clear h5 k5 H4 K4
  simp only [List.nil_append, List.cons_append, List.filter_cons, List.filter_nil, List.length_cons, List.length_nil, bne_self_eq_false, Bool.false_eq_true, if_false, Int.reduceBNe, if_true]
  go_wp2_with fail
  refine (lall_is H5.out).mono ?_
  rintro e w6 ⟨v, rfl, ho, k6⟩
  have HV := Box.mk ((IsEvs.of_own (l := [(2, 65)]) ho).keeps0 ((Keeps.refl (fun _ => False) w6).alloc (.cells #[.int .i64 2, .int .i64 65] 27)))
  have HU := Box.mk (IsEvs.lit w6 2 65)
  have H6 := Box.mk ((H5.out.keeps0 k6).keeps0 ((Keeps.refl (fun _ => False) w6).alloc (.cells #[.int .i64 2, .int .i64 65] 27)))
  have K6 := Box.mk ((K5.out.trans k6).alloc (.cells #[.int .i64 2, .int .i64 65] 27))
  clear ho k6 H5 K5
  go_wp2_with fail
  refine (same_is _ _ _ [(2, 65)] [(2, 65)] HV.out HU.out).mono ?_
  rintro e w7 ⟨rfl, q, rfl⟩
  simp only [decide_true]
  have H7 := Box.mk (H6.out.drewN q)
  have K7 := Box.mk (K6.out.drewN q)
  clear H6 K6 HU HV
  generalize (w6.alloc (.cells #[.int .i64 2, .int .i64 65] 27)).drewN q = w7 at *
  go_wp2_with fail
  refine (push_arg b 0 0 _ (by rfl)).mono ?_
  rintro e w8 ⟨rfl, k8⟩
  have H8 := Box.mk (H7.out.keeps0 k8)
  have K8 := Box.mk (K7.out.trans k8)
  clear k8 H7 K7
  go_wp2_with fail
  refine (is_kind _ _ _).mono ?_
  rintro e w9 ⟨rfl, rfl⟩
  go_wp2_with fail
  refine (llen_is H8.out).mono ?_
  rintro e w10 ⟨rfl, rfl⟩
  go_wp2_with fail
  go_ret
  exact ⟨rfl, K8.out⟩

end Go.Proofs.Ytljmfiegkefpoaa
