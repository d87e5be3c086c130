/- The queue's functions by contracts. -/
import Derived.Test.YtljmfiegkefpoaaProg
import Derived.Test.YtljmfiegkefpoaaBase
import Derived.Deep.RegionHeld3
namespace Go.Proofs.Ytljmfiegkefpoaa
set_option linter.unusedVariables false
set_option linter.unusedSimpArgs false
open Go.RowKit

/-- May an event be? -/
def evMay (k n : Int) : Bool := (k == 1 && decide (0 ≤ n ∧ n ≤ 1152921504606846975)) || (k == 2 && decide (0 ≤ n ∧ n ≤ 255))

/-- A queue lies in block b: its 34 numbers (row, first, n). -/
structure IsQ (w : World) (b : Nat) (L : List Int) : Prop where
  head : w.heap[b]? = some (.cells (L.map (Value.int .i64)).toArray 65 (0, 0))
  len : L.length = 34
  f0 : 0 ≤ L.getD 32 0
  f1 : L.getD 32 0 < 16
  n0 : 0 ≤ L.getD 33 0
  n1 : L.getD 33 0 ≤ 16

theorem IsQ.cell {w : World} {b : Nat} {L : List Int} (h : IsQ w b L) {j : Nat} (hj : j < 34) : w.cell? ⟨b, j, none⟩ = some (.int .i64 (L.getD j 0)) := by
  rw [cell_of_heap h.head]
  have hl := h.len
  simp [List.getD, show j < L.length by omega]
theorem IsQ.frozen {w : World} {b : Nat} {L : List Int} (h : IsQ w b L) (j : Nat) : w.frozen? ⟨b, j, none⟩ = false := frozen_of_heap h.head j
theorem IsQ.keeps {w w' : World} {b : Nat} {L : List Int} (h : IsQ w b L) {S : Nat → Prop} (hk : Keeps S w w') (h1 : ¬ S b) : IsQ w' b L :=
  ⟨hk.heap h.head h1, h.len, h.f0, h.f1, h.n0, h.n1⟩
theorem IsQ.drewN {w : World} {b : Nat} {L : List Int} (h : IsQ w b L) (n : Nat) : IsQ (w.drewN n) b L := ⟨h.head, h.len, h.f0, h.f1, h.n0, h.n1⟩
theorem IsQ.drew {w : World} {b : Nat} {L : List Int} (h : IsQ w b L) : IsQ w.drew b L := ⟨h.head, h.len, h.f0, h.f1, h.n0, h.n1⟩
theorem IsQ.lt {w : World} {b : Nat} {L : List Int} (h : IsQ w b L) : b < w.heap.size := lt_of_heap h.head

theorem may_is (k n : Int) (w : World) : Calls Try.prog 33 #[.agg #[.int .i64 k, .int .i64 n]] w fun e w' => e = .returned (.bool (evMay k n)) ∧ Keeps (fun _ => False) w w' := by
  have hk := Box.mk ((Keeps.refl (fun _ => False) w).alloc (.cells #[.int .i64 k, .int .i64 n] 27))
  by_cases h1 : k = 1
  · subst h1
    by_cases h0 : 0 ≤ n
    · by_cases hm : n ≤ 1152921504606846975
      · rw [show evMay 1 n = true by simp [evMay]; omega]
        go_enter Try.func33, Try.ntmps33
        go_wp2
        go_ret
        exact ⟨rfl, hk.out⟩
      · rw [show evMay 1 n = false by simp [evMay]; omega]
        go_enter Try.func33, Try.ntmps33
        go_wp2
        go_ret
        exact ⟨by simp; try omega, hk.out⟩
    · rw [show evMay 1 n = false by simp [evMay]; omega]
      go_enter Try.func33, Try.ntmps33
      go_wp2
      go_ret
      exact ⟨by simp; try omega, hk.out⟩
  · by_cases h2 : k = 2
    · subst h2
      clear h1
      by_cases h0 : 0 ≤ n
      · by_cases hm : n ≤ 255
        · rw [show evMay 2 n = true by simp [evMay]; omega]
          go_enter Try.func33, Try.ntmps33
          go_wp2
          go_ret
          exact ⟨rfl, hk.out⟩
        · rw [show evMay 2 n = false by simp [evMay]; omega]
          go_enter Try.func33, Try.ntmps33
          go_wp2
          go_ret
          exact ⟨by simp; try omega, hk.out⟩
      · rw [show evMay 2 n = false by simp [evMay]; omega]
        go_enter Try.func33, Try.ntmps33
        go_wp2
        go_ret
        exact ⟨by simp; try omega, hk.out⟩
    · rw [show evMay k n = false by simp [evMay, h1, h2]]
      go_enter Try.func33, Try.ntmps33
      go_wp2
      go_ret
      exact ⟨rfl, hk.out⟩

theorem at_is (b : Nat) (i f : Int) (w : World) (h : w.cell? ⟨b, 32, none⟩ = some (.int .i64 f)) (h0 : 0 ≤ f) (h1 : f < 16) (hi : 0 ≤ i) (hi1 : i ≤ 16) :
    Calls Try.prog 34 #[.pointer (some ⟨b, 0, none⟩), .int .i64 i] w fun e w' => e = .returned (.int .i64 ((f + i) % 16)) ∧ w' = w := by
  go_enter Try.func34, Try.ntmps34
  go_wp2
  go_ret
  exact ⟨rfl, rfl⟩

theorem qlen_nil (w : World) : Calls Try.prog 16 #[.pointer none] w fun e w' => e = .returned (.int .i64 0) ∧ w' = w := by
  go_enter Try.func16, Try.ntmps16
  go_wp2
  go_ret
  exact ⟨rfl, rfl⟩
theorem qlen_is (b : Nat) (L : List Int) (w : World) (hq : IsQ w b L) : Calls Try.prog 16 #[.pointer (some ⟨b, 0, none⟩)] w fun e w' => e = .returned (.int .i64 (L.getD 33 0)) ∧ w' = w := by
  have h := hq.cell (j := 33) (by omega)
  clear hq
  generalize L.getD 33 0 = n at h ⊢
  go_enter Try.func16, Try.ntmps16
  go_wp2
  go_ret
  exact ⟨rfl, rfl⟩

theorem qnew_is (w : World) : Calls Try.prog 13 #[] w fun e w' => e = .returned (.pointer (some ⟨w.heap.size, 0, none⟩)) ∧ IsQ w' w.heap.size (List.replicate 34 0) ∧ Keeps (fun _ => False) w w' := by
  go_enter Try.func13, Try.ntmps13
  go_wp2
  go_ret
  refine ⟨rfl, ⟨heap_alloc_new w _, rfl, by simp, by simp, by simp, by simp⟩, (Keeps.refl _ w).alloc _⟩

theorem push_nil (k n : Int) (w : World) : Calls Try.prog 14 #[.pointer none, .agg #[.int .i64 k, .int .i64 n]] w fun e w' => e = .returned (.iface 40 (.int .i64 1)) ∧ Keeps (fun _ => False) w w' := by
  have hk := Box.mk ((Keeps.refl (fun _ => False) w).alloc (.cells #[.int .i64 k, .int .i64 n] 27))
  go_enter Try.func14, Try.ntmps14
  go_wp2
  go_ret
  exact ⟨rfl, hk.out⟩

theorem push_arg (b : Nat) (k n : Int) (w : World) (hm : evMay k n = false) : Calls Try.prog 14 #[.pointer (some ⟨b, 0, none⟩), .agg #[.int .i64 k, .int .i64 n]] w fun e w' => e = .returned (.iface 40 (.int .i64 2)) ∧ Keeps (fun _ => False) w w' := by
  have hk := Box.mk ((Keeps.refl (fun _ => False) w).alloc (.cells #[.int .i64 k, .int .i64 n] 27))
  have HM := Box.mk (fun w => may_is k n w)
  rw [hm] at HM
  clear hm
  go_enter Try.func14, Try.ntmps14
  go_wp2_with fail
  refine (HM.out _).mono ?_
  rintro e w' ⟨rfl, k'⟩
  have hk' := Box.mk (hk.out.trans k')
  clear k'
  go_wp2_with fail
  go_ret
  exact ⟨rfl, hk'.out⟩

theorem push_full (b : Nat) (L : List Int) (k n : Int) (w : World) (hq : IsQ w b L) (hn : L.getD 33 0 = 16) (hm : evMay k n = true) :
    Calls Try.prog 14 #[.pointer (some ⟨b, 0, none⟩), .agg #[.int .i64 k, .int .i64 n]] w fun e w' => e = .returned (.iface 40 (.int .i64 18)) ∧ Keeps (fun _ => False) w w' := by
  have hk := Box.mk ((Keeps.refl (fun _ => False) w).alloc (.cells #[.int .i64 k, .int .i64 n] 27))
  have HM := Box.mk (fun w => may_is k n w)
  rw [hm] at HM
  have h := hq.cell (j := 33) (by omega)
  rw [hn] at h
  have H := Box.mk h
  clear hq hn hm h
  go_enter Try.func14, Try.ntmps14
  go_wp2_with fail
  refine (HM.out _).mono ?_
  rintro e w' ⟨rfl, k'⟩
  have hk' := Box.mk (hk.out.trans k')
  have h' := hk'.out.cell H.out (fun h => h)
  clear k'
  go_wp2_with fail
  go_ret
  exact ⟨rfl, hk'.out⟩

/-- A number of the queue's is set. -/
theorem IsQ.set {w : World} {b : Nat} {L : List Int} (h : IsQ w b L) {j : Nat} (hj : j < 32) (v : Int) : IsQ (w.setCell ⟨b, j, none⟩ (.int .i64 v)) b (L.set j v) := by
  refine ⟨?_, by simpa using h.len, ?_, ?_, ?_, ?_⟩
  · rw [heap_setCell_at h.head]
    simp [List.map_set]
  all_goals
    simp only [List.getD_eq_getElem?_getD, List.getElem?_set_ne (show j ≠ 32 by omega), List.getElem?_set_ne (show j ≠ 33 by omega)]
  · simpa using h.f0
  · simpa using h.f1
  · simpa using h.n0
  · simpa using h.n1
theorem IsQ.setF {w : World} {b : Nat} {L : List Int} (h : IsQ w b L) (v : Int) (h0 : 0 ≤ v) (h1 : v < 16) : IsQ (w.setCell ⟨b, 32, none⟩ (.int .i64 v)) b (L.set 32 v) := by
  have hl := h.len
  refine ⟨?_, by simpa using h.len, ?_, ?_, ?_, ?_⟩
  · rw [heap_setCell_at h.head]
    simp [List.map_set]
  all_goals
    simp only [List.getD_eq_getElem?_getD, List.getElem?_set_self (show 32 < L.length by omega), List.getElem?_set_ne (show 32 ≠ 33 by omega), Option.getD_some]
  · exact h0
  · exact h1
  · simpa using h.n0
  · simpa using h.n1
theorem IsQ.setN {w : World} {b : Nat} {L : List Int} (h : IsQ w b L) (v : Int) (h0 : 0 ≤ v) (h1 : v ≤ 16) : IsQ (w.setCell ⟨b, 33, none⟩ (.int .i64 v)) b (L.set 33 v) := by
  have hl := h.len
  refine ⟨?_, by simpa using h.len, ?_, ?_, ?_, ?_⟩
  · rw [heap_setCell_at h.head]
    simp [List.map_set]
  all_goals
    simp only [List.getD_eq_getElem?_getD, List.getElem?_set_self (show 33 < L.length by omega), List.getElem?_set_ne (show 33 ≠ 32 by omega), Option.getD_some]
  · simpa using h.f0
  · simpa using h.f1
  · exact h0
  · exact h1

theorem cell_set2 {w : World} {b i j : Nat} {u v x : Value} {p : Addr} (h : w.cell? p = some x) (n1 : (⟨b, i, none⟩ : Addr) ≠ p) (n2 : (⟨b, j, none⟩ : Addr) ≠ p) :
    ((w.setCell ⟨b, i, none⟩ u).setCell ⟨b, j, none⟩ v).cell? p = some x := by
  rw [World.cell?_setCell_other _ _ _ _ n2, World.cell?_setCell_other _ _ _ _ n1, h]

/-- Where the i-th event lies. -/
def qpos (L : List Int) (i : Int) : Nat := (2 * ((L.getD 32 0 + i) % 16)).toNat
/-- The queue behind a push. -/
def qpush (L : List Int) (k n : Int) : List Int := ((L.set (qpos L (L.getD 33 0)) k).set (qpos L (L.getD 33 0) + 1) n).set 33 (L.getD 33 0 + 1)

theorem push_is (b : Nat) (L : List Int) (k n : Int) (w : World) (hq : IsQ w b L) (hn : L.getD 33 0 < 16) (hm : evMay k n = true) :
    Calls Try.prog 14 #[.pointer (some ⟨b, 0, none⟩), .agg #[.int .i64 k, .int .i64 n]] w fun e w' => e = .returned .nilIface ∧ IsQ w' b (qpush L k n) ∧ Keeps (fun j => j = b) w w' := by
  have hk := Box.mk ((Keeps.refl (fun _ => False) w).alloc (.cells #[.int .i64 k, .int .i64 n] 27))
  have HM := Box.mk (fun w => may_is k n w)
  rw [hm] at HM
  have HQ := Box.mk hq
  have hlt := hq.lt
  obtain ⟨N, hN⟩ : ∃ N, L.getD 33 0 = N := ⟨_, rfl⟩
  obtain ⟨F, hF⟩ : ∃ F, L.getD 32 0 = F := ⟨_, rfl⟩
  have n0 := hq.n0
  have f0 := hq.f0
  have f1 := hq.f1
  rw [hN] at hn n0
  rw [hF] at f0 f1
  have HN := Box.mk hN
  have HF := Box.mk hF
  clear hq hm hN hF
  go_enter Try.func14, Try.ntmps14
  go_wp2_with fail
  refine (HM.out _).mono ?_
  rintro e w1 ⟨rfl, k'⟩
  have hk' := Box.mk (hk.out.trans k')
  have q1 := Box.mk (HQ.out.keeps hk'.out (fun h => h))
  have hN1 := q1.out.cell (j := 33) (by omega)
  have hF1 := q1.out.cell (j := 32) (by omega)
  rw [HN.out] at hN1
  rw [HF.out] at hF1
  have e0 : w1.cell? ⟨w.heap.size, 0, none⟩ = some (.int .i64 k) := k'.cell (by simp) (fun h => h)
  have e1 : w1.cell? ⟨w.heap.size, 1, none⟩ = some (.int .i64 n) := k'.cell (by simp) (fun h => h)
  clear k' hk
  obtain ⟨j, hj⟩ : ∃ j : Nat, (F + N) % 16 = j := ⟨((F + N) % 16).toNat, by omega⟩
  have hj16 : j < 16 := by omega
  have hj0 : (0 : Int) ≤ (j : Int) := by omega
  have hj1 : (j : Int) < (16 : Int) := by omega
  have hc0 := q1.out.cell (j := j * 2) (by omega)
  have hc1 := q1.out.cell (j := j * 2 + 1) (by omega)
  have z0 := q1.out.frozen (j * 2)
  have z1 := q1.out.frozen (j * 2 + 1)
  have z3 := q1.out.frozen 33
  have HAt := fun (w : World) (h : w.cell? ⟨b, 32, none⟩ = some (.int .i64 F)) => at_is b N F w h f0 f1 n0 (by omega)
  rw [hj] at HAt
  have HA := Box.mk HAt
  clear HAt
  have HJ := Box.mk hj
  clear hj
  generalize L.getD (j * 2) 0 = o0 at hc0
  generalize L.getD (j * 2 + 1) 0 = o1 at hc1
  have hne : w.heap.size ≠ b := by omega
  go_wp2_with fail
  go_region_held3 (fun w' => w'.cell? ⟨b, 33, none⟩ = some (.int .i64 N) ∧ w'.cell? ⟨w.heap.size, 0, none⟩ = some (.int .i64 k) ∧ w'.cell? ⟨w.heap.size, 1, none⟩ = some (.int .i64 n))
    (first | exact ⟨cell_set2 hN1 (by intro h; simp only [Addr.mk.injEq] at h; omega) (by intro h; simp only [Addr.mk.injEq] at h; omega), cell_set2 e0 (by intro h; simp only [Addr.mk.injEq] at h; omega) (by intro h; simp only [Addr.mk.injEq] at h; omega), cell_set2 e1 (by intro h; simp only [Addr.mk.injEq] at h; omega) (by intro h; simp only [Addr.mk.injEq] at h; omega)⟩ | go_keep)
    (first | (go_at_call 34; refine (HA.out _ (by exact hF1)).mono ?_; rintro e w' ⟨rfl, rfl⟩))
  have h33 := cell_set2 (u := .int .i64 k) (v := .int .i64 n) (b := b) (i := j * 2) (j := j * 2 + 1) hN1 (by intro h; simp only [Addr.mk.injEq] at h; omega) (by intro h; simp only [Addr.mk.injEq] at h; omega)
  have hq2 : IsQ ((((w1.setCell ⟨b, j * 2, none⟩ (.int .i64 k)).setCell ⟨b, j * 2 + 1, none⟩ (.int .i64 n)).setCell ⟨b, 33, none⟩ (.int .i64 (N + 1))).drew) b (qpush L k n) := by
    have hp : qpos L (L.getD 33 0) = j * 2 := by unfold qpos; rw [HN.out, HF.out, HJ.out]; omega
    have := (((q1.out.set (j := j * 2) (by omega) k).set (j := j * 2 + 1) (by omega) n).setN (N + 1) (by omega) (by omega)).drew
    unfold qpush
    rw [hp, HN.out]
    exact this
  have HQ2 := Box.mk hq2
  have HK2 := Box.mk ((((((hk'.out.mono (S' := fun j => j = b) (fun _ _ h => h.elim)).setCell (p := ⟨b, j * 2, none⟩) (fun _ => rfl) (.int .i64 k)).setCell (p := ⟨b, j * 2 + 1, none⟩) (fun _ => rfl) (.int .i64 n)).setCell (p := ⟨b, 33, none⟩) (fun _ => rfl) (.int .i64 (N + 1)))).drew)
  clear hq2 hN1 hF1 e0 e1 hc0 hc1 z0 z1 HA
  go_wp2
  go_ret
  exact ⟨rfl, HQ2.out, HK2.out⟩

end Go.Proofs.Ytljmfiegkefpoaa
