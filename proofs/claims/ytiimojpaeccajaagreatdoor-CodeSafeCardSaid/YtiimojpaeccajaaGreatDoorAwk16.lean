/- Law 16's awake says yes, in whatever world. -/
import Derived.Test.YtiimojpaeccajaaGreatDoorAwkC
namespace Go.Proofs.YtiimojpaeccajaaGreatDoor
set_option linter.unusedVariables false
set_option linter.unusedSimpArgs false
open Go.RowKit Go.Proofs.YtiimojpaeccajaaGreatDoorW.PrintWords Go.Proofs.YtiimojpaeccajaaGreatDoorW.PrintLast Go.Proofs.YtiimojpaeccajaaGreatDoorW.PrintMore

set_option maxHeartbeats 4000000 in
set_option maxRecDepth 100000 in
theorem awake16 (w : World) : Calls Tryz.prog 11 #[] w fun e w' => e = .returned (.bool true) ∧ Below w.heap.size w w' := by
  obtain ⟨W1, hW1⟩ : ∃ W1, w.alloc (.cells (l7.flatMap encI).toArray 54) = W1 := ⟨_, rfl⟩
  have hb1 : W1.heap[w.heap.size]? = some (.cells (l7.flatMap encI).toArray 54 (0, 0)) := by rw [← hW1]; exact heap_alloc_new w _
  have hK1 : Below w.heap.size w W1 := by rw [← hW1]; exact (Below.refl _ w).alloc (Nat.le_refl _) _
  have hC1 : Kd.C insK W1 (some ⟨w.heap.size, 0, none⟩) 7 l7 := block_C l7 l7_nil (by decide) hb1
  have HK1 := Box.mk hK1
  have HC1 := Box.mk hC1
  have HW1 := Box.mk hW1
  clear hb1 hK1 hC1 hW1
  go_enter Tryz.func11, Tryz.ntmps11
  go_wp2_with fail
  change Calls Tryz.prog _ _ (w.alloc (.cells (l7.flatMap encI).toArray 54)) _
  rw [HW1.out]
  have HS1 := Box.mk (stacks_is l7 (some ⟨w.heap.size, 0, none⟩) 7 W1 HC1.out (by decide) l7_small (by decide))
  refine HS1.out.mono ?_
  rintro e w2 H2
  obtain ⟨B2, kb, sb, lv, S, R, td, tv, rfl, hM, hBz, hSO, hS⟩ := H2.ok chk7 well7.1
  rw [show l7.length = 7 from rfl]
  have k2 := H2.keeps
  have HC2 := Box.mk (Kd.C_below HC1.out k2)
  have HK2 := Box.mk (HK1.out.trans (Below.mono k2 HK1.out.size))
  have hS5 := (hS 5 _).2 well7.2.1
  have hS6 := (hS 6 _).2 well7.2.2
  have g5 := hM.slot (i := 5) (by decide)
  have g6 := hM.slot (i := 6) (by decide)
  rw [hS5] at g5
  rw [hS6] at g6
  simp only at g5 g6
  obtain ⟨r5, hr5⟩ : ∃ r, R 5 = r := ⟨_, rfl⟩
  obtain ⟨r6, hr6⟩ : ∃ r, R 6 = r := ⟨_, rfl⟩
  have o5 := hM.rowAt hS5
  have o6 := hM.rowAt hS6
  rw [hr5] at g5 o5
  rw [hr6] at g6 o6
  have G5 := Box.mk g5
  have G6 := Box.mk g6
  have O5 := Box.mk o5
  have O6 := Box.mk o6
  clear H2 hM hBz hSO hS k2 hS5 hS6 g5 g6 o5 o6 hr5 hr6 HS1 HC1 HK1 HW1
  have HT := Box.mk (Text_is l7 (some ⟨w.heap.size, 0, none⟩) 7 w2 T7 HC2.out (by decide) l7_small (by decide) chk7 (tx7 w2))
  rw [show linesL l7 T7 l7.length = txt7.toList from lines7, Array.toArray_toList] at HT
  go_wp2_with fail
  refine HT.out.mono ?_
  rintro e w3 ⟨rfl, k3⟩
  have HC3 := Box.mk (Kd.C_below HC2.out k3)
  have HK3 := Box.mk (HK2.out.trans (Below.mono k3 HK2.out.size))
  have G53 := Box.mk (cell_below G5.out k3)
  have G63 := Box.mk (cell_below G6.out k3)
  have O53 := Box.mk (own_below O5.out k3)
  have O63 := Box.mk (own_below O6.out k3)
  clear k3 HT HC2 HK2 G5 G6 O5 O6
  have HS6 := Box.mk (stacks_is l6 (some ⟨w.heap.size, 0, none⟩) 7 w3 (insC_take (m := 6) HC3.out (by decide)) (by decide) l6_small (by decide))
  go_wp2_with fail
  refine HS6.out.mono ?_
  rintro e w4 H4
  have he := H4.no (fun h => by rw [chk6] at h; exact absurd h.1 (by decide))
  subst he
  have k4 := H4.keeps
  have HC4 := Box.mk (Kd.C_below HC3.out k4)
  have HK4 := Box.mk (HK3.out.trans (Below.mono k4 HK3.out.size))
  have G54 := Box.mk (cell_below G53.out k4)
  have G64 := Box.mk (cell_below G63.out k4)
  have O54 := Box.mk (own_below O53.out k4)
  have O64 := Box.mk (own_below O63.out k4)
  clear k4 H4 HS6 HC3 HK3 G53 G63 O53 O63
  have HO := Box.mk (PCodeSafe.spindleref16_Own.calls 40 (some ⟨w.heap.size, 0, none⟩) 7 l7 l7 w4 HC4.out (by decide) own7)
  go_wp2_with fail
  refine HO.out.mono ?_
  rintro e w5 ⟨v5, rfl, hR5, k5⟩
  obtain ⟨g5, c5, hv5⟩ : ∃ g c, v5 = .slice (some ⟨g, 0, none⟩) l7.length c := by
    obtain ⟨inn0, hown0⟩ := Kd.R_own hR5
    obtain ⟨g, c, h, -⟩ := own_form (p := 6) hown0
    exact ⟨g, c, h⟩
  subst hv5
  have hR5c : Kd.C insK w5 (some ⟨g5, 0, none⟩) l7.length l7 := by
    obtain ⟨A, c, he, hl, h⟩ := Kd.R_reads hR5
    injection he with he1 he2 he3
    rw [he1]; exact h
  obtain ⟨inn, hown⟩ := Kd.R_own hR5
  have hfz := World.ownsRow.frozenAt hown 41
  have hce : w5.cell? ⟨g5, 41, none⟩ = some (.int .i64 1) := insC_cells (j := 5) hR5c rfl rfl (i := 1) (by decide) rfl
  have hgB : w4.heap.size ≤ g5 := (hown.lt g5 rfl).1
  have hkk : Below w4.heap.size w4 (w5.setCell ⟨g5, 41, none⟩ (.int .i64 2)) := k5.setCell (p := ⟨g5, 41, none⟩) hgB _
  have hCm : Kd.C insK (w5.setCell ⟨g5, 41, none⟩ (.int .i64 2)) (some ⟨g5, 0, none⟩) 7 l7m := by
    have := insC_set hR5c l7_nil (q := 5) (x := mkI 12 1 ⟨#[]⟩ 0 0) rfl 2
    exact this
  have HCm := Box.mk hCm
  have HKm := Box.mk (HK4.out.trans (Below.mono hkk HK4.out.size))
  have G5m := Box.mk (cell_below G54.out hkk)
  have G6m := Box.mk (cell_below G64.out hkk)
  have O5m := Box.mk (own_below O54.out hkk)
  have O6m := Box.mk (own_below O64.out hkk)
  have hc7 : 7 ≤ c5 := by
    rcases hown.2 with ⟨h1, _⟩ | ⟨g', cap', cur, hv, _, _, h2, _⟩
    · cases h1
    · injection hv with h1 h2' h3
      rw [h3]; exact h2
  clear hR5 hR5c hown k5 hkk hCm hgB HO HC4 HK4 G54 G64 O54 O64
  rw [show l7.length = 7 from rfl]
  have HSm := Box.mk (stacks_is l7m (some ⟨g5, 0, none⟩) c5 _ HCm.out hc7 l7m_small (by decide))
  go_wp2_with fail
  refine HSm.out.mono ?_
  rintro e w6 H6
  have he := H6.no (fun h => ill7m h.2)
  subst he
  have k6 := H6.keeps
  have HC6 := Box.mk (Kd.C_below HCm.out k6)
  have HK6 := Box.mk (HKm.out.trans (Below.mono k6 HKm.out.size))
  have G56 := Box.mk (cell_below G5m.out k6)
  have G66 := Box.mk (cell_below G6m.out k6)
  have O56 := Box.mk (own_below O5m.out k6)
  have O66 := Box.mk (own_below O6m.out k6)
  clear k6 H6 HSm HCm HKm G5m G6m O5m O6m hfz hce
  have q5 := G56.out
  have q6 := G66.out
  rw [show [(0 : Int), 2].length = 2 from rfl] at q5
  rw [show [(0 : Int)].length = 1 from rfl] at q6
  go_wp2_with fail
  have hkA : Below w6.heap.size w6 (w6.alloc (.cells #[.int .i64 0, .int .i64 2] 3)) := (Below.refl _ w6).alloc (Nat.le_refl _) _
  have hSa : Kd.C (Kd.int .i64) (w6.alloc (.cells #[.int .i64 0, .int .i64 2] 3)) (some ⟨r5.1, 0, none⟩) 2 [0, 2] := intC_of [0, 2] (by decide) (fun j hj => by rw [Nat.zero_add]; exact ownI_cell (own_below O56.out hkA) hj)
  have hSb : Kd.C (Kd.int .i64) (w6.alloc (.cells #[.int .i64 0, .int .i64 2] 3)) (some ⟨w6.heap.size, 0, none⟩) 2 [0, 2] := intC_of [0, 2] (by decide) (fun j hj => by
    rw [Nat.zero_add, cell_of_heap (heap_alloc_new w6 _)]
    have : j = 0 ∨ j = 1 := by have : j < 2 := hj; omega
    rcases this with rfl | rfl <;> rfl)
  have HSm := Box.mk (PCodeSafe.spindleref16_Same.calls 10 (some ⟨r5.1, 0, none⟩) r5.2 [0, 2] (some ⟨w6.heap.size, 0, none⟩) 2 [0, 2] true _ hSa (by
    rcases O56.out.2 with ⟨h1, _⟩ | ⟨g', cap', cur, hv, _, _, h2, _⟩
    · cases h1
    · injection hv with h1 h2' h3
      rw [h3]; exact h2) hSb (by decide) (by decide +kernel))
  have HKA := Box.mk hkA
  clear hSa hSb hkA
  refine HSm.out.mono ?_
  rintro e w7 ⟨rfl, k7⟩
  have k7' := below_drawn0 k7
  have hk7 : Below w6.heap.size w6 w7 := HKA.out.trans (k7'.mono HKA.out.size)
  have HC7 := Box.mk (Kd.C_below HC6.out hk7)
  have HK7 := Box.mk (HK6.out.trans (Below.mono hk7 HK6.out.size))
  have q6' := cell_below q6 hk7
  have O67 := Box.mk (own_below O66.out hk7)
  clear k7 k7' hk7 HSm HKA q5 q6 HC6 HK6 G56 G66 O56 O66
  go_wp2_with fail
  have hkA : Below w7.heap.size w7 (w7.alloc (.cells #[.int .i64 0] 3)) := (Below.refl _ w7).alloc (Nat.le_refl _) _
  have hSa : Kd.C (Kd.int .i64) (w7.alloc (.cells #[.int .i64 0] 3)) (some ⟨r6.1, 0, none⟩) 1 [0] := intC_of [0] (by decide) (fun j hj => by rw [Nat.zero_add]; exact ownI_cell (own_below O67.out hkA) hj)
  have hSb : Kd.C (Kd.int .i64) (w7.alloc (.cells #[.int .i64 0] 3)) (some ⟨w7.heap.size, 0, none⟩) 1 [0] := intC_of [0] (by decide) (fun j hj => by
    rw [Nat.zero_add, cell_of_heap (heap_alloc_new w7 _)]
    have : j = 0 := by have : j < 1 := hj; omega
    subst this; rfl)
  have HSm := Box.mk (PCodeSafe.spindleref16_Same.calls 10 (some ⟨r6.1, 0, none⟩) r6.2 [0] (some ⟨w7.heap.size, 0, none⟩) 1 [0] true _ hSa (by
    rcases O67.out.2 with ⟨h1, _⟩ | ⟨g', cap', cur, hv, _, _, h2, _⟩
    · cases h1
    · injection hv with h1 h2' h3
      rw [h3]; exact h2) hSb (by decide) (by decide +kernel))
  have HKA := Box.mk hkA
  clear hSa hSb hkA
  refine HSm.out.mono ?_
  rintro e w8 ⟨rfl, k8⟩
  have k8' := below_drawn0 k8
  have hk8 : Below w7.heap.size w7 w8 := HKA.out.trans (k8'.mono HKA.out.size)
  have HC8 := Box.mk (Kd.C_below HC7.out hk8)
  have HK8 := Box.mk (HK7.out.trans (Below.mono hk8 HK7.out.size))
  clear k8 k8' hk8 HSm HKA q6' HC7 HK7 O67
  have HCk := Box.mk (check_is l7m (some ⟨g5, 0, none⟩) c5 w8 HC8.out hc7 l7m_small (by decide))
  rw [chk7m, if_pos rfl] at HCk
  have htx := txt7_list
  have HIs := fun (W : World) => is_kind 19 19 W
  rw [show ((19 : Int) == 19) = true from rfl] at HIs
  have HIs := Box.mk HIs
  go_wp2_with fail
  refine (HIs.out _).mono ?_
  rintro e w9 ⟨rfl, rfl⟩
  go_wp2_with fail
  refine (HIs.out _).mono ?_
  rintro e w9 ⟨rfl, rfl⟩
  go_wp2_with fail
  refine HCk.out.mono ?_
  rintro e w9 ⟨rfl, k9⟩
  have K9 := Box.mk (HK8.out.trans (Below.mono k9 HK8.out.size))
  clear k9 HCk HIs
  unfold errV
  simp only [if_true]
  go_wp2_with fail
  go_ret
  exact ⟨rfl, K9.out⟩

end Go.Proofs.YtiimojpaeccajaaGreatDoor
