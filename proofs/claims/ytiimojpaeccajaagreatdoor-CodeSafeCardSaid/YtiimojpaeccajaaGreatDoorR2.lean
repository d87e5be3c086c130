/- Contracts of spindlelaw16_small: sections out of what the print program wrote for this law. -/
import Derived.Test.YtiimojpaeccajaaGreatDoorPCodeSafex0
import Derived.Test.YtiimojpaeccajaaGreatDoorPCodeSafex1
import Derived.Test.YtiimojpaeccajaaGreatDoorR1
namespace Go.Proofs.YtiimojpaeccajaaGreatDoor.PCodeSafe
open Go.RowKit Go.Proofs.YtiimojpaeccajaaGreatDoorW.PrintWords Go.Proofs.YtiimojpaeccajaaGreatDoorW.PrintLast Go.Proofs.YtiimojpaeccajaaGreatDoorW.PrintMore
attribute [local go_sem] max2_int min2_int max_two min_two max_three min_three max_four min_four   -- for this text's walks alone
set_option linter.unusedVariables false
set_option linter.unusedSimpArgs false

/-! ### spindlelaw16_small: function 12 -/
def spindlelaw16_small.l0 : Nat → List (S54) → Int → Int → Option (Bool)
  | 0, _, _, _ => none
  | k + 1, x8, x9, x10 => if x10 < x9 then (if 0 ≤ x10 then (if x10 < (x8.length : Int) then (if (((rd_T54 x8 x10).f3).size : Int) > 200 then (some false) else ((spindleref08_Small.f k ((rd_T54 x8 x10).f4.f0) ((rd_T54 x8 x10).f4.f1) ((rd_T54 x8 x10).f4.f2) ((rd_T54 x8 x10).f4.f3)).bind fun t180 => (if t180 = true then ((spindleref08_Parts.f k ((rd_T54 x8 x10).f4.f0) ((rd_T54 x8 x10).f4.f1) ((rd_T54 x8 x10).f4.f2) ((rd_T54 x8 x10).f4.f3)).bind fun t181 => (if t181 > 300 then (some false) else (spindlelaw16_small.l0 k x8 x9 (wrap64 (x10 + 1))))) else (some false)))) else (none)) else (none)) else (some true)
def spindlelaw16_small.f (k : Nat) (l0 : List (S54)) : Option (Bool) := if (l0.length : Int) > 400 then (some false) else (spindlelaw16_small.l0 k l0 (l0.length : Int) 0)
theorem spindlelaw16_small.mono_l : ∀ k, (∀ y0 y1 y2, LeO (spindlelaw16_small.l0 k y0 y1 y2) (spindlelaw16_small.l0 (k + 1) y0 y1 y2))
  | 0 => fun _ _ _ r h => by simp [spindlelaw16_small.l0] at h
  | k + 1 => by
    have ih0 := spindlelaw16_small.mono_l k
    · intro y0 y1 y2
      unfold spindlelaw16_small.l0
      repeat' first
      | (with_reducible exact ih0 _ _ _)
      | (with_reducible exact spindleref08_Parts.mono _ _ _ _ _)
      | (with_reducible exact spindleref08_Small.mono _ _ _ _ _)
      | (with_reducible exact LeO.refl _)
      | (with_reducible exact LeO.none _)
      | (with_reducible refine LeO.ite ?_ ?_)
      | (with_reducible refine LeO.bind ?_ (fun _ => ?_))
      | exact ih0 _ _ _
      | exact spindleref08_Parts.mono _ _ _ _ _
      | exact spindleref08_Small.mono _ _ _ _ _
      | exact LeO.none _
      | refine LeO.ite ?_ ?_
      | refine LeO.bind ?_ (fun _ => ?_)
theorem spindlelaw16_small.mono : ∀ a0 k, LeO (spindlelaw16_small.f k a0) (spindlelaw16_small.f (k + 1) a0) := by
  intro a0 k
  have ih0 := spindlelaw16_small.mono_l k
  unfold spindlelaw16_small.f
  repeat' first
      | (with_reducible exact ih0 _ _ _)
      | (with_reducible exact spindleref08_Parts.mono _ _ _ _ _)
      | (with_reducible exact spindleref08_Small.mono _ _ _ _ _)
      | (with_reducible exact LeO.refl _)
      | (with_reducible exact LeO.none _)
      | (with_reducible refine LeO.ite ?_ ?_)
      | (with_reducible refine LeO.bind ?_ (fun _ => ?_))
      | exact ih0 _ _ _
      | exact spindleref08_Parts.mono _ _ _ _ _
      | exact spindleref08_Small.mono _ _ _ _ _
      | exact LeO.none _
      | refine LeO.ite ?_ ?_
      | refine LeO.bind ?_ (fun _ => ?_)
set_option maxHeartbeats 8000000 in
set_option maxRecDepth 100000 in
theorem spindlelaw16_small.calls (k : Nat) (A0 : Option Addr) (c0 : Nat) (l0 : List (S54)) (r : Bool) (w : World) (hr0 : Kd.C k54 w A0 l0.length l0) (hc0 : l0.length ≤ c0) (h : spindlelaw16_small.f k l0 = some r) :
    Calls Tryz.prog 12 #[.slice A0 l0.length c0] w fun e w' => e = .returned (.bool r) ∧ Below w.heap.size w w' := by
  have hu54 := Tryz.underlying54
  have hu45 := Tryz.underlying45
  have HR0 := Aside0.mk hr0
  have HC0 := Aside0.mk hc0
  clear hr0 hc0
  have HB := Aside0.mk (Below.refl w.heap.size w)
  have H : (if (l0.length : Int) > 400 then (some false) else (spindlelaw16_small.l0 k l0 (l0.length : Int) 0)) = some r := h
  clear h
  by_cases c2 : (l0.length : Int) > 400
  · rw [if_pos c2] at H
    have c2b0 : decide (400 < (l0.length : Int)) = true := decide_eq_true c2
    have c2b1 : decide (400 < l0.length) = true := decide_eq_true (by omega)
    clear c2
    obtain rfl := Option.some.inj H
    go_enter Tryz.func12, Tryz.ntmps12
    go_wp2
    go_ret
    exact ⟨by first | rfl | (simp [errW_none, errW_some] <;> rfl) | (simp [*, errW_none, errW_some] <;> rfl), by repeat (first | (with_reducible first | exact HB.out | apply below_alloc | apply pw_below_drewN | apply below_drew1) | exact HB.out)⟩
  · rw [if_neg c2] at H
    have c2b0 : decide (400 < (l0.length : Int)) = false := decide_eq_false c2
    have c2b1 : decide (400 < l0.length) = false := decide_eq_false (by omega)
    clear c2
    have H' := Aside0.mk H
    clear H
    go_enter Tryz.func12, Tryz.ntmps12
    go_wp2
    go_loopg [10] k (fun kq v10 w' => ∃ (x10_1 : Int), v10 = .int .i64 x10_1 ∧ Aside0 (spindlelaw16_small.l0 kq l0 (l0.length : Int) x10_1 = some r) ∧ Aside0 (kq ≤ k) ∧ Aside0 (Below w.heap.size w w'))
    case atStart => exact ⟨(0), (by first | rfl | (simp; done) | (simp [*]; done)), H', ⟨Nat.le_refl _⟩, ⟨by repeat (first | (with_reducible first | exact HB.out | apply below_alloc | apply pw_below_drewN | apply below_drew1) | exact HB.out)⟩⟩
    case round =>
      clear H'
      try clear c1
      try clear c2
      try clear c2b0
      try clear c2b1
      try clear p2
      obtain ⟨x10_1, rfl, HA, HK1, HB⟩ := hrel
      cases gk with
      | zero => exact absurd HA.out (by simp [spindlelaw16_small.l0])
      | succ k1 =>
        have H := HA.out
        clear HA
        simp only [spindlelaw16_small.l0] at H
        by_cases c3 : x10_1 < (l0.length : Int)
        · rw [if_pos c3] at H
          have c3b0 : decide (x10_1 < (l0.length : Int)) = true := decide_eq_true c3
          clear c3
          by_cases c4 : 0 ≤ x10_1
          · rw [if_pos c4] at H
            have c4b0 : decide (0 ≤ x10_1) = true := decide_eq_true c4
            clear c4
            by_cases c5 : x10_1 < (l0.length : Int)
            · rw [if_pos c5] at H
              have c5b0 : decide (x10_1 < (l0.length : Int)) = true := decide_eq_true c5
              clear c5
              by_cases c6 : (((rd_T54 l0 x10_1).f3).size : Int) > 200
              · rw [if_pos c6] at H
                have c6b0 : decide (200 < (((rd_T54 l0 x10_1).f3).size : Int)) = true := decide_eq_true c6
                have c6b1 : decide (200 < ((rd_T54 l0 x10_1).f3).size) = true := decide_eq_true (by omega)
                clear c6
                obtain rfl := Option.some.inj H
                have p178 : 0 ≤ (x10_1 : Int) := of_decide_eq_true (by first | (with_reducible assumption) | assumption)
                have q178 : x10_1 < (l0.length : Int) := of_decide_eq_true (by first | (with_reducible assumption) | assumption)
                obtain ⟨ad178, A178_7, c178_7, e178, hx178_0, hx178_1, hx178_2, hx178_3, hx178_4, hx178_5, hx178_6, hx178_7, hl178_7, hi178_7⟩ := at_T54 HR0.out x10_1 p178 q178
                cases e178
                replace hx178_0 := (HB.out.cell (World.block_lt_of_cell? w _ hx178_0)).trans hx178_0
                replace hx178_1 := (HB.out.cell (World.block_lt_of_cell? w _ hx178_1)).trans hx178_1
                replace hx178_2 := (HB.out.cell (World.block_lt_of_cell? w _ hx178_2)).trans hx178_2
                replace hx178_3 := (HB.out.cell (World.block_lt_of_cell? w _ hx178_3)).trans hx178_3
                replace hx178_4 := (HB.out.cell (World.block_lt_of_cell? w _ hx178_4)).trans hx178_4
                replace hx178_5 := (HB.out.cell (World.block_lt_of_cell? w _ hx178_5)).trans hx178_5
                replace hx178_6 := (HB.out.cell (World.block_lt_of_cell? w _ hx178_6)).trans hx178_6
                replace hx178_7 := (HB.out.cell (World.block_lt_of_cell? w _ hx178_7)).trans hx178_7
                have HR178_7 := Aside0.mk hi178_7
                have HC178_7 := Aside0.mk hl178_7
                clear hi178_7 hl178_7
                replace p178 := eq_true p178
                replace q178 := eq_true q178
                go_wp2_with (first | ((with_reducible refine gate_dst (N := 4) rfl ?_); refine box_event ?hg (N := 4) ?hd (cs := #[.int .i64 0, .int .i64 0, .int .i64 0, .string (⟨#[]⟩ : ByteArray), .int .i64 0, .int .i64 0, .string (⟨#[]⟩ : ByteArray), .slice none 0 0]) (t := 54) ?hr ?_; (case hd => rfl); (case hg => rfl); (case hr => first | (go_simp; done) | (go_simp; rfl)); intro gb179 hg w7 hbox hb; have n0_ := Aside0.mk (below_step (by repeat (first | (with_reducible first | exact HB.out | apply below_alloc | apply pw_below_drewN | apply below_drew1) | exact HB.out)) hb); have n1_ := Aside0.mk (hbox); have n2_ := Aside0.mk ((by rw [hg]; exact (below_size (by repeat (first | (with_reducible first | exact HB.out | apply below_alloc | apply pw_below_drewN | apply below_drew1) | exact HB.out))) : w.heap.size ≤ gb179)); have n3_ := Aside0.mk ((by rw [hg]; exact (below_size (by repeat (first | (with_reducible first | exact HB.out | apply below_alloc | apply pw_below_drewN | apply below_drew1) | exact HB.out))) : w.heap.size ≤ gb179)); clear HB; have HB := n0_; have BK179 := n1_; have GW179 := n2_; have GE179 := n3_; clear n0_ n1_ n2_ n3_; clear hb hbox hg; have hcz8_0 : w7.cell? ⟨gb179, 0, none⟩ = some (.int .i64 0) := (blk_cell BK179.out 0).trans rfl; have hcz8_1 : w7.cell? ⟨gb179, 1, none⟩ = some (.int .i64 0) := (blk_cell BK179.out 1).trans rfl; have hcz8_2 : w7.cell? ⟨gb179, 2, none⟩ = some (.int .i64 0) := (blk_cell BK179.out 2).trans rfl; have hcz8_3 : w7.cell? ⟨gb179, 3, none⟩ = some (.string (⟨#[]⟩ : ByteArray)) := (blk_cell BK179.out 3).trans rfl; have hcz8_4 : w7.cell? ⟨gb179, 4, none⟩ = some (.int .i64 0) := (blk_cell BK179.out 4).trans rfl; have hcz8_5 : w7.cell? ⟨gb179, 5, none⟩ = some (.int .i64 0) := (blk_cell BK179.out 5).trans rfl; have hcz8_6 : w7.cell? ⟨gb179, 6, none⟩ = some (.string (⟨#[]⟩ : ByteArray)) := (blk_cell BK179.out 6).trans rfl; have hcz8_7 : w7.cell? ⟨gb179, 7, none⟩ = some (.slice none 0 0) := (blk_cell BK179.out 7).trans rfl; have hfz8_0 := blk_frozen BK179.out 0; have hfz8_1 := blk_frozen BK179.out 1; have hfz8_2 := blk_frozen BK179.out 2; have hfz8_3 := blk_frozen BK179.out 3; have hfz8_4 := blk_frozen BK179.out 4; have hfz8_5 := blk_frozen BK179.out 5; have hfz8_6 := blk_frozen BK179.out 6; have hfz8_7 := blk_frozen BK179.out 7))
                go_ret
                exact ⟨by first | rfl | (simp [errW_none, errW_some] <;> rfl) | (simp [*, errW_none, errW_some] <;> rfl), by repeat (first | (with_reducible first | exact HB.out | apply below_alloc | apply pw_below_drewN | apply below_drew1 | refine below_set ?_ GE179.out) | exact HB.out)⟩
              · rw [if_neg c6] at H
                have c6b0 : decide (200 < (((rd_T54 l0 x10_1).f3).size : Int)) = false := decide_eq_false c6
                have c6b1 : decide (200 < ((rd_T54 l0 x10_1).f3).size) = false := decide_eq_false (by omega)
                clear c6
                replace H := Option.bind_eq_some_iff.mp H
                obtain ⟨t180, A90, H⟩ := H
                replace H : (if t180 = true then ((spindleref08_Parts.f k1 ((rd_T54 l0 x10_1).f4.f0) ((rd_T54 l0 x10_1).f4.f1) ((rd_T54 l0 x10_1).f4.f2) ((rd_T54 l0 x10_1).f4.f3)).bind fun t181 => (if t181 > 300 then (some false) else (spindlelaw16_small.l0 k1 l0 (l0.length : Int) (wrap64 (x10_1 + 1))))) else (some false)) = some r := H
                have A9 := Aside0.mk A90
                clear A90
                by_cases c10 : t180 = true
                · subst c10
                  have H1 : ((spindleref08_Parts.f k1 ((rd_T54 l0 x10_1).f4.f0) ((rd_T54 l0 x10_1).f4.f1) ((rd_T54 l0 x10_1).f4.f2) ((rd_T54 l0 x10_1).f4.f3)).bind fun t181 => (if t181 > 300 then (some false) else (spindlelaw16_small.l0 k1 l0 (l0.length : Int) (wrap64 (x10_1 + 1))))) = some r := by rw [if_pos rfl] at H; exact H
                  clear H
                  have H := H1
                  clear H1
                  replace H := Option.bind_eq_some_iff.mp H
                  obtain ⟨t181, A110, H⟩ := H
                  replace H : (if t181 > 300 then (some false) else (spindlelaw16_small.l0 k1 l0 (l0.length : Int) (wrap64 (x10_1 + 1)))) = some r := H
                  have A11 := Aside0.mk A110
                  clear A110
                  by_cases c12 : t181 > 300
                  · rw [if_pos c12] at H
                    have c12b0 : decide (300 < t181) = true := decide_eq_true c12
                    clear c12
                    obtain rfl := Option.some.inj H
                    have p178 : 0 ≤ (x10_1 : Int) := of_decide_eq_true (by first | (with_reducible assumption) | assumption)
                    have q178 : x10_1 < (l0.length : Int) := of_decide_eq_true (by first | (with_reducible assumption) | assumption)
                    obtain ⟨ad178, A178_7, c178_7, e178, hx178_0, hx178_1, hx178_2, hx178_3, hx178_4, hx178_5, hx178_6, hx178_7, hl178_7, hi178_7⟩ := at_T54 HR0.out x10_1 p178 q178
                    cases e178
                    replace hx178_0 := (HB.out.cell (World.block_lt_of_cell? w _ hx178_0)).trans hx178_0
                    replace hx178_1 := (HB.out.cell (World.block_lt_of_cell? w _ hx178_1)).trans hx178_1
                    replace hx178_2 := (HB.out.cell (World.block_lt_of_cell? w _ hx178_2)).trans hx178_2
                    replace hx178_3 := (HB.out.cell (World.block_lt_of_cell? w _ hx178_3)).trans hx178_3
                    replace hx178_4 := (HB.out.cell (World.block_lt_of_cell? w _ hx178_4)).trans hx178_4
                    replace hx178_5 := (HB.out.cell (World.block_lt_of_cell? w _ hx178_5)).trans hx178_5
                    replace hx178_6 := (HB.out.cell (World.block_lt_of_cell? w _ hx178_6)).trans hx178_6
                    replace hx178_7 := (HB.out.cell (World.block_lt_of_cell? w _ hx178_7)).trans hx178_7
                    have HR178_7 := Aside0.mk hi178_7
                    have HC178_7 := Aside0.mk hl178_7
                    clear hi178_7 hl178_7
                    replace p178 := eq_true p178
                    replace q178 := eq_true q178
                    go_wp2_with (first | ((with_reducible refine gate_dst (N := 4) rfl ?_); refine box_event ?hg (N := 4) ?hd (cs := #[.int .i64 0, .int .i64 0, .int .i64 0, .string (⟨#[]⟩ : ByteArray), .int .i64 0, .int .i64 0, .string (⟨#[]⟩ : ByteArray), .slice none 0 0]) (t := 54) ?hr ?_; (case hd => rfl); (case hg => rfl); (case hr => first | (go_simp; done) | (go_simp; rfl)); intro gb179 hg w13 hbox hb; have n0_ := Aside0.mk (below_step (by repeat (first | (with_reducible first | exact HB.out | apply below_alloc | apply pw_below_drewN | apply below_drew1) | exact HB.out)) hb); have n1_ := Aside0.mk (hbox); have n2_ := Aside0.mk ((by rw [hg]; exact (below_size (by repeat (first | (with_reducible first | exact HB.out | apply below_alloc | apply pw_below_drewN | apply below_drew1) | exact HB.out))) : w.heap.size ≤ gb179)); have n3_ := Aside0.mk ((by rw [hg]; exact (below_size (by repeat (first | (with_reducible first | exact HB.out | apply below_alloc | apply pw_below_drewN | apply below_drew1) | exact HB.out))) : w.heap.size ≤ gb179)); clear HB; have HB := n0_; have BK179 := n1_; have GW179 := n2_; have GE179 := n3_; clear n0_ n1_ n2_ n3_; clear hb hbox hg; have hcz14_0 : w13.cell? ⟨gb179, 0, none⟩ = some (.int .i64 0) := (blk_cell BK179.out 0).trans rfl; have hcz14_1 : w13.cell? ⟨gb179, 1, none⟩ = some (.int .i64 0) := (blk_cell BK179.out 1).trans rfl; have hcz14_2 : w13.cell? ⟨gb179, 2, none⟩ = some (.int .i64 0) := (blk_cell BK179.out 2).trans rfl; have hcz14_3 : w13.cell? ⟨gb179, 3, none⟩ = some (.string (⟨#[]⟩ : ByteArray)) := (blk_cell BK179.out 3).trans rfl; have hcz14_4 : w13.cell? ⟨gb179, 4, none⟩ = some (.int .i64 0) := (blk_cell BK179.out 4).trans rfl; have hcz14_5 : w13.cell? ⟨gb179, 5, none⟩ = some (.int .i64 0) := (blk_cell BK179.out 5).trans rfl; have hcz14_6 : w13.cell? ⟨gb179, 6, none⟩ = some (.string (⟨#[]⟩ : ByteArray)) := (blk_cell BK179.out 6).trans rfl; have hcz14_7 : w13.cell? ⟨gb179, 7, none⟩ = some (.slice none 0 0) := (blk_cell BK179.out 7).trans rfl; have hfz14_0 := blk_frozen BK179.out 0; have hfz14_1 := blk_frozen BK179.out 1; have hfz14_2 := blk_frozen BK179.out 2; have hfz14_3 := blk_frozen BK179.out 3; have hfz14_4 := blk_frozen BK179.out 4; have hfz14_5 := blk_frozen BK179.out 5; have hfz14_6 := blk_frozen BK179.out 6; have hfz14_7 := blk_frozen BK179.out 7) | (go_at_call 38; (with_reducible refine (spindleref08_Small.calls k1 ((rd_T54 l0 x10_1).f4.f0) ((rd_T54 l0 x10_1).f4.f1) ((rd_T54 l0 x10_1).f4.f2) _ _ ((rd_T54 l0 x10_1).f4.f3) true _ ?side1 ?side2 A9.out).mono ?_); (case side1 => exact Kd.C_below HR178_7.out (by repeat (first | (with_reducible first | exact HB.out | apply below_alloc | apply pw_below_drewN | apply below_drew1 | refine below_set ?_ GE179.out) | exact HB.out))); (case side2 => exact HC178_7.out); rintro e w15 ⟨rfl, hb⟩; have n0_ := Aside0.mk (blk_below (g := gb179) (o := .cells #[.int .i64 ((rd_T54 l0 x10_1).f0), .int .i64 ((rd_T54 l0 x10_1).f1), .int .i64 ((rd_T54 l0 x10_1).f2), .string ((rd_T54 l0 x10_1).f3), .int .i64 ((rd_T54 l0 x10_1).f4.f0), .int .i64 ((rd_T54 l0 x10_1).f4.f1), .string ((rd_T54 l0 x10_1).f4.f2), .slice A178_7 ((rd_T54 l0 x10_1).f4.f3).length c178_7] 54 (0, 0)) (by (with_reducible repeat (first | refine blk_drewN ?_ _ | refine blk_drew ?_ | refine blk_alloc ?_ _)); refine blk_put (cs := #[.int .i64 ((rd_T54 l0 x10_1).f0), .int .i64 ((rd_T54 l0 x10_1).f1), .int .i64 ((rd_T54 l0 x10_1).f2), .string ((rd_T54 l0 x10_1).f3), .int .i64 ((rd_T54 l0 x10_1).f4.f0), .int .i64 ((rd_T54 l0 x10_1).f4.f1), .string ((rd_T54 l0 x10_1).f4.f2), .slice none 0 0]) ?_ 7 _ rfl; (with_reducible repeat (first | refine blk_drewN ?_ _ | refine blk_drew ?_ | refine blk_alloc ?_ _)); refine blk_put (cs := #[.int .i64 ((rd_T54 l0 x10_1).f0), .int .i64 ((rd_T54 l0 x10_1).f1), .int .i64 ((rd_T54 l0 x10_1).f2), .string ((rd_T54 l0 x10_1).f3), .int .i64 ((rd_T54 l0 x10_1).f4.f0), .int .i64 ((rd_T54 l0 x10_1).f4.f1), .string (⟨#[]⟩ : ByteArray), .slice none 0 0]) ?_ 6 _ rfl; (with_reducible repeat (first | refine blk_drewN ?_ _ | refine blk_drew ?_ | refine blk_alloc ?_ _)); refine blk_put (cs := #[.int .i64 ((rd_T54 l0 x10_1).f0), .int .i64 ((rd_T54 l0 x10_1).f1), .int .i64 ((rd_T54 l0 x10_1).f2), .string ((rd_T54 l0 x10_1).f3), .int .i64 ((rd_T54 l0 x10_1).f4.f0), .int .i64 0, .string (⟨#[]⟩ : ByteArray), .slice none 0 0]) ?_ 5 _ rfl; (with_reducible repeat (first | refine blk_drewN ?_ _ | refine blk_drew ?_ | refine blk_alloc ?_ _)); refine blk_put (cs := #[.int .i64 ((rd_T54 l0 x10_1).f0), .int .i64 ((rd_T54 l0 x10_1).f1), .int .i64 ((rd_T54 l0 x10_1).f2), .string ((rd_T54 l0 x10_1).f3), .int .i64 0, .int .i64 0, .string (⟨#[]⟩ : ByteArray), .slice none 0 0]) ?_ 4 _ rfl; (with_reducible repeat (first | refine blk_drewN ?_ _ | refine blk_drew ?_ | refine blk_alloc ?_ _)); refine blk_put (cs := #[.int .i64 ((rd_T54 l0 x10_1).f0), .int .i64 ((rd_T54 l0 x10_1).f1), .int .i64 ((rd_T54 l0 x10_1).f2), .string (⟨#[]⟩ : ByteArray), .int .i64 0, .int .i64 0, .string (⟨#[]⟩ : ByteArray), .slice none 0 0]) ?_ 3 _ rfl; (with_reducible repeat (first | refine blk_drewN ?_ _ | refine blk_drew ?_ | refine blk_alloc ?_ _)); refine blk_put (cs := #[.int .i64 ((rd_T54 l0 x10_1).f0), .int .i64 ((rd_T54 l0 x10_1).f1), .int .i64 0, .string (⟨#[]⟩ : ByteArray), .int .i64 0, .int .i64 0, .string (⟨#[]⟩ : ByteArray), .slice none 0 0]) ?_ 2 _ rfl; (with_reducible repeat (first | refine blk_drewN ?_ _ | refine blk_drew ?_ | refine blk_alloc ?_ _)); refine blk_put (cs := #[.int .i64 ((rd_T54 l0 x10_1).f0), .int .i64 0, .int .i64 0, .string (⟨#[]⟩ : ByteArray), .int .i64 0, .int .i64 0, .string (⟨#[]⟩ : ByteArray), .slice none 0 0]) ?_ 1 _ rfl; (with_reducible repeat (first | refine blk_drewN ?_ _ | refine blk_drew ?_ | refine blk_alloc ?_ _)); refine blk_put (cs := #[.int .i64 0, .int .i64 0, .int .i64 0, .string (⟨#[]⟩ : ByteArray), .int .i64 0, .int .i64 0, .string (⟨#[]⟩ : ByteArray), .slice none 0 0]) ?_ 0 _ rfl; (with_reducible repeat (first | refine blk_drewN ?_ _ | refine blk_drew ?_ | refine blk_alloc ?_ _)); exact BK179.out) hb); have n1_ := Aside0.mk (below_step (by repeat (first | (with_reducible first | exact HB.out | apply below_alloc | apply pw_below_drewN | apply below_drew1 | refine below_set ?_ GE179.out) | exact HB.out)) hb); clear BK179; clear HB; have BK179 := n0_; have HB := n1_; clear n0_ n1_; (try clear hb); (try clear hb2); (try clear hk); (try clear hi); have hcz16_0 : w15.cell? ⟨gb179, 0, none⟩ = some (.int .i64 ((rd_T54 l0 x10_1).f0)) := (blk_cell BK179.out 0).trans rfl; have hcz16_1 : w15.cell? ⟨gb179, 1, none⟩ = some (.int .i64 ((rd_T54 l0 x10_1).f1)) := (blk_cell BK179.out 1).trans rfl; have hcz16_2 : w15.cell? ⟨gb179, 2, none⟩ = some (.int .i64 ((rd_T54 l0 x10_1).f2)) := (blk_cell BK179.out 2).trans rfl; have hcz16_3 : w15.cell? ⟨gb179, 3, none⟩ = some (.string ((rd_T54 l0 x10_1).f3)) := (blk_cell BK179.out 3).trans rfl; have hcz16_4 : w15.cell? ⟨gb179, 4, none⟩ = some (.int .i64 ((rd_T54 l0 x10_1).f4.f0)) := (blk_cell BK179.out 4).trans rfl; have hcz16_5 : w15.cell? ⟨gb179, 5, none⟩ = some (.int .i64 ((rd_T54 l0 x10_1).f4.f1)) := (blk_cell BK179.out 5).trans rfl; have hcz16_6 : w15.cell? ⟨gb179, 6, none⟩ = some (.string ((rd_T54 l0 x10_1).f4.f2)) := (blk_cell BK179.out 6).trans rfl; have hcz16_7 : w15.cell? ⟨gb179, 7, none⟩ = some (.slice A178_7 ((rd_T54 l0 x10_1).f4.f3).length c178_7) := (blk_cell BK179.out 7).trans rfl; have hfz16_0 := blk_frozen BK179.out 0; have hfz16_1 := blk_frozen BK179.out 1; have hfz16_2 := blk_frozen BK179.out 2; have hfz16_3 := blk_frozen BK179.out 3; have hfz16_4 := blk_frozen BK179.out 4; have hfz16_5 := blk_frozen BK179.out 5; have hfz16_6 := blk_frozen BK179.out 6; have hfz16_7 := blk_frozen BK179.out 7) | (go_at_call 39; (with_reducible refine (spindleref08_Parts.calls k1 ((rd_T54 l0 x10_1).f4.f0) ((rd_T54 l0 x10_1).f4.f1) ((rd_T54 l0 x10_1).f4.f2) _ _ ((rd_T54 l0 x10_1).f4.f3) t181 _ ?side1 ?side2 A11.out).mono ?_); (case side1 => repeat (first | exact (Kd.C_below HR178_7.out HB.out) | (with_reducible refine Kd.C_alloc ?_ _) | (with_reducible refine Kd.C_drewN ?_ _) | (with_reducible refine Kd.C_drew ?_))); (case side2 => exact HC178_7.out); rintro e w17 ⟨rfl, hb⟩; have n0_ := Aside0.mk (blk_below (g := gb179) (o := .cells #[.int .i64 ((rd_T54 l0 x10_1).f0), .int .i64 ((rd_T54 l0 x10_1).f1), .int .i64 ((rd_T54 l0 x10_1).f2), .string ((rd_T54 l0 x10_1).f3), .int .i64 ((rd_T54 l0 x10_1).f4.f0), .int .i64 ((rd_T54 l0 x10_1).f4.f1), .string ((rd_T54 l0 x10_1).f4.f2), .slice A178_7 ((rd_T54 l0 x10_1).f4.f3).length c178_7] 54 (0, 0)) (by (with_reducible repeat (first | refine blk_drewN ?_ _ | refine blk_drew ?_ | refine blk_alloc ?_ _)); exact BK179.out) hb); have n1_ := Aside0.mk (below_step (by repeat (first | (with_reducible first | exact HB.out | apply below_alloc | apply pw_below_drewN | apply below_drew1 | refine below_set ?_ GE179.out) | exact HB.out)) hb); clear BK179; clear HB; have BK179 := n0_; have HB := n1_; clear n0_ n1_; (try clear hb); (try clear hb2); (try clear hk); (try clear hi)))
                    go_ret
                    exact ⟨by first | rfl | (simp [errW_none, errW_some] <;> rfl) | (simp [*, errW_none, errW_some] <;> rfl), by repeat (first | (with_reducible first | exact HB.out | apply below_alloc | apply pw_below_drewN | apply below_drew1 | refine below_set ?_ GE179.out) | exact HB.out)⟩
                  · rw [if_neg c12] at H
                    have c12b0 : decide (300 < t181) = false := decide_eq_false c12
                    clear c12
                    have H' := Aside0.mk H
                    clear H
                    have p178 : 0 ≤ (x10_1 : Int) := of_decide_eq_true (by first | (with_reducible assumption) | assumption)
                    have q178 : x10_1 < (l0.length : Int) := of_decide_eq_true (by first | (with_reducible assumption) | assumption)
                    obtain ⟨ad178, A178_7, c178_7, e178, hx178_0, hx178_1, hx178_2, hx178_3, hx178_4, hx178_5, hx178_6, hx178_7, hl178_7, hi178_7⟩ := at_T54 HR0.out x10_1 p178 q178
                    cases e178
                    replace hx178_0 := (HB.out.cell (World.block_lt_of_cell? w _ hx178_0)).trans hx178_0
                    replace hx178_1 := (HB.out.cell (World.block_lt_of_cell? w _ hx178_1)).trans hx178_1
                    replace hx178_2 := (HB.out.cell (World.block_lt_of_cell? w _ hx178_2)).trans hx178_2
                    replace hx178_3 := (HB.out.cell (World.block_lt_of_cell? w _ hx178_3)).trans hx178_3
                    replace hx178_4 := (HB.out.cell (World.block_lt_of_cell? w _ hx178_4)).trans hx178_4
                    replace hx178_5 := (HB.out.cell (World.block_lt_of_cell? w _ hx178_5)).trans hx178_5
                    replace hx178_6 := (HB.out.cell (World.block_lt_of_cell? w _ hx178_6)).trans hx178_6
                    replace hx178_7 := (HB.out.cell (World.block_lt_of_cell? w _ hx178_7)).trans hx178_7
                    have HR178_7 := Aside0.mk hi178_7
                    have HC178_7 := Aside0.mk hl178_7
                    clear hi178_7 hl178_7
                    replace p178 := eq_true p178
                    replace q178 := eq_true q178
                    go_wp2_with (first | ((with_reducible refine gate_dst (N := 4) rfl ?_); refine box_event ?hg (N := 4) ?hd (cs := #[.int .i64 0, .int .i64 0, .int .i64 0, .string (⟨#[]⟩ : ByteArray), .int .i64 0, .int .i64 0, .string (⟨#[]⟩ : ByteArray), .slice none 0 0]) (t := 54) ?hr ?_; (case hd => rfl); (case hg => rfl); (case hr => first | (go_simp; done) | (go_simp; rfl)); intro gb179 hg w18 hbox hb; have n0_ := Aside0.mk (below_step (by repeat (first | (with_reducible first | exact HB.out | apply below_alloc | apply pw_below_drewN | apply below_drew1) | exact HB.out)) hb); have n1_ := Aside0.mk (hbox); have n2_ := Aside0.mk ((by rw [hg]; exact (below_size (by repeat (first | (with_reducible first | exact HB.out | apply below_alloc | apply pw_below_drewN | apply below_drew1) | exact HB.out))) : w.heap.size ≤ gb179)); have n3_ := Aside0.mk ((by rw [hg]; exact (below_size (by repeat (first | (with_reducible first | exact HB.out | apply below_alloc | apply pw_below_drewN | apply below_drew1) | exact HB.out))) : w.heap.size ≤ gb179)); clear HB; have HB := n0_; have BK179 := n1_; have GW179 := n2_; have GE179 := n3_; clear n0_ n1_ n2_ n3_; clear hb hbox hg; have hcz19_0 : w18.cell? ⟨gb179, 0, none⟩ = some (.int .i64 0) := (blk_cell BK179.out 0).trans rfl; have hcz19_1 : w18.cell? ⟨gb179, 1, none⟩ = some (.int .i64 0) := (blk_cell BK179.out 1).trans rfl; have hcz19_2 : w18.cell? ⟨gb179, 2, none⟩ = some (.int .i64 0) := (blk_cell BK179.out 2).trans rfl; have hcz19_3 : w18.cell? ⟨gb179, 3, none⟩ = some (.string (⟨#[]⟩ : ByteArray)) := (blk_cell BK179.out 3).trans rfl; have hcz19_4 : w18.cell? ⟨gb179, 4, none⟩ = some (.int .i64 0) := (blk_cell BK179.out 4).trans rfl; have hcz19_5 : w18.cell? ⟨gb179, 5, none⟩ = some (.int .i64 0) := (blk_cell BK179.out 5).trans rfl; have hcz19_6 : w18.cell? ⟨gb179, 6, none⟩ = some (.string (⟨#[]⟩ : ByteArray)) := (blk_cell BK179.out 6).trans rfl; have hcz19_7 : w18.cell? ⟨gb179, 7, none⟩ = some (.slice none 0 0) := (blk_cell BK179.out 7).trans rfl; have hfz19_0 := blk_frozen BK179.out 0; have hfz19_1 := blk_frozen BK179.out 1; have hfz19_2 := blk_frozen BK179.out 2; have hfz19_3 := blk_frozen BK179.out 3; have hfz19_4 := blk_frozen BK179.out 4; have hfz19_5 := blk_frozen BK179.out 5; have hfz19_6 := blk_frozen BK179.out 6; have hfz19_7 := blk_frozen BK179.out 7) | (go_at_call 38; (with_reducible refine (spindleref08_Small.calls k1 ((rd_T54 l0 x10_1).f4.f0) ((rd_T54 l0 x10_1).f4.f1) ((rd_T54 l0 x10_1).f4.f2) _ _ ((rd_T54 l0 x10_1).f4.f3) true _ ?side1 ?side2 A9.out).mono ?_); (case side1 => exact Kd.C_below HR178_7.out (by repeat (first | (with_reducible first | exact HB.out | apply below_alloc | apply pw_below_drewN | apply below_drew1 | refine below_set ?_ GE179.out) | exact HB.out))); (case side2 => exact HC178_7.out); rintro e w20 ⟨rfl, hb⟩; have n0_ := Aside0.mk (blk_below (g := gb179) (o := .cells #[.int .i64 ((rd_T54 l0 x10_1).f0), .int .i64 ((rd_T54 l0 x10_1).f1), .int .i64 ((rd_T54 l0 x10_1).f2), .string ((rd_T54 l0 x10_1).f3), .int .i64 ((rd_T54 l0 x10_1).f4.f0), .int .i64 ((rd_T54 l0 x10_1).f4.f1), .string ((rd_T54 l0 x10_1).f4.f2), .slice A178_7 ((rd_T54 l0 x10_1).f4.f3).length c178_7] 54 (0, 0)) (by (with_reducible repeat (first | refine blk_drewN ?_ _ | refine blk_drew ?_ | refine blk_alloc ?_ _)); refine blk_put (cs := #[.int .i64 ((rd_T54 l0 x10_1).f0), .int .i64 ((rd_T54 l0 x10_1).f1), .int .i64 ((rd_T54 l0 x10_1).f2), .string ((rd_T54 l0 x10_1).f3), .int .i64 ((rd_T54 l0 x10_1).f4.f0), .int .i64 ((rd_T54 l0 x10_1).f4.f1), .string ((rd_T54 l0 x10_1).f4.f2), .slice none 0 0]) ?_ 7 _ rfl; (with_reducible repeat (first | refine blk_drewN ?_ _ | refine blk_drew ?_ | refine blk_alloc ?_ _)); refine blk_put (cs := #[.int .i64 ((rd_T54 l0 x10_1).f0), .int .i64 ((rd_T54 l0 x10_1).f1), .int .i64 ((rd_T54 l0 x10_1).f2), .string ((rd_T54 l0 x10_1).f3), .int .i64 ((rd_T54 l0 x10_1).f4.f0), .int .i64 ((rd_T54 l0 x10_1).f4.f1), .string (⟨#[]⟩ : ByteArray), .slice none 0 0]) ?_ 6 _ rfl; (with_reducible repeat (first | refine blk_drewN ?_ _ | refine blk_drew ?_ | refine blk_alloc ?_ _)); refine blk_put (cs := #[.int .i64 ((rd_T54 l0 x10_1).f0), .int .i64 ((rd_T54 l0 x10_1).f1), .int .i64 ((rd_T54 l0 x10_1).f2), .string ((rd_T54 l0 x10_1).f3), .int .i64 ((rd_T54 l0 x10_1).f4.f0), .int .i64 0, .string (⟨#[]⟩ : ByteArray), .slice none 0 0]) ?_ 5 _ rfl; (with_reducible repeat (first | refine blk_drewN ?_ _ | refine blk_drew ?_ | refine blk_alloc ?_ _)); refine blk_put (cs := #[.int .i64 ((rd_T54 l0 x10_1).f0), .int .i64 ((rd_T54 l0 x10_1).f1), .int .i64 ((rd_T54 l0 x10_1).f2), .string ((rd_T54 l0 x10_1).f3), .int .i64 0, .int .i64 0, .string (⟨#[]⟩ : ByteArray), .slice none 0 0]) ?_ 4 _ rfl; (with_reducible repeat (first | refine blk_drewN ?_ _ | refine blk_drew ?_ | refine blk_alloc ?_ _)); refine blk_put (cs := #[.int .i64 ((rd_T54 l0 x10_1).f0), .int .i64 ((rd_T54 l0 x10_1).f1), .int .i64 ((rd_T54 l0 x10_1).f2), .string (⟨#[]⟩ : ByteArray), .int .i64 0, .int .i64 0, .string (⟨#[]⟩ : ByteArray), .slice none 0 0]) ?_ 3 _ rfl; (with_reducible repeat (first | refine blk_drewN ?_ _ | refine blk_drew ?_ | refine blk_alloc ?_ _)); refine blk_put (cs := #[.int .i64 ((rd_T54 l0 x10_1).f0), .int .i64 ((rd_T54 l0 x10_1).f1), .int .i64 0, .string (⟨#[]⟩ : ByteArray), .int .i64 0, .int .i64 0, .string (⟨#[]⟩ : ByteArray), .slice none 0 0]) ?_ 2 _ rfl; (with_reducible repeat (first | refine blk_drewN ?_ _ | refine blk_drew ?_ | refine blk_alloc ?_ _)); refine blk_put (cs := #[.int .i64 ((rd_T54 l0 x10_1).f0), .int .i64 0, .int .i64 0, .string (⟨#[]⟩ : ByteArray), .int .i64 0, .int .i64 0, .string (⟨#[]⟩ : ByteArray), .slice none 0 0]) ?_ 1 _ rfl; (with_reducible repeat (first | refine blk_drewN ?_ _ | refine blk_drew ?_ | refine blk_alloc ?_ _)); refine blk_put (cs := #[.int .i64 0, .int .i64 0, .int .i64 0, .string (⟨#[]⟩ : ByteArray), .int .i64 0, .int .i64 0, .string (⟨#[]⟩ : ByteArray), .slice none 0 0]) ?_ 0 _ rfl; (with_reducible repeat (first | refine blk_drewN ?_ _ | refine blk_drew ?_ | refine blk_alloc ?_ _)); exact BK179.out) hb); have n1_ := Aside0.mk (below_step (by repeat (first | (with_reducible first | exact HB.out | apply below_alloc | apply pw_below_drewN | apply below_drew1 | refine below_set ?_ GE179.out) | exact HB.out)) hb); clear BK179; clear HB; have BK179 := n0_; have HB := n1_; clear n0_ n1_; (try clear hb); (try clear hb2); (try clear hk); (try clear hi); have hcz21_0 : w20.cell? ⟨gb179, 0, none⟩ = some (.int .i64 ((rd_T54 l0 x10_1).f0)) := (blk_cell BK179.out 0).trans rfl; have hcz21_1 : w20.cell? ⟨gb179, 1, none⟩ = some (.int .i64 ((rd_T54 l0 x10_1).f1)) := (blk_cell BK179.out 1).trans rfl; have hcz21_2 : w20.cell? ⟨gb179, 2, none⟩ = some (.int .i64 ((rd_T54 l0 x10_1).f2)) := (blk_cell BK179.out 2).trans rfl; have hcz21_3 : w20.cell? ⟨gb179, 3, none⟩ = some (.string ((rd_T54 l0 x10_1).f3)) := (blk_cell BK179.out 3).trans rfl; have hcz21_4 : w20.cell? ⟨gb179, 4, none⟩ = some (.int .i64 ((rd_T54 l0 x10_1).f4.f0)) := (blk_cell BK179.out 4).trans rfl; have hcz21_5 : w20.cell? ⟨gb179, 5, none⟩ = some (.int .i64 ((rd_T54 l0 x10_1).f4.f1)) := (blk_cell BK179.out 5).trans rfl; have hcz21_6 : w20.cell? ⟨gb179, 6, none⟩ = some (.string ((rd_T54 l0 x10_1).f4.f2)) := (blk_cell BK179.out 6).trans rfl; have hcz21_7 : w20.cell? ⟨gb179, 7, none⟩ = some (.slice A178_7 ((rd_T54 l0 x10_1).f4.f3).length c178_7) := (blk_cell BK179.out 7).trans rfl; have hfz21_0 := blk_frozen BK179.out 0; have hfz21_1 := blk_frozen BK179.out 1; have hfz21_2 := blk_frozen BK179.out 2; have hfz21_3 := blk_frozen BK179.out 3; have hfz21_4 := blk_frozen BK179.out 4; have hfz21_5 := blk_frozen BK179.out 5; have hfz21_6 := blk_frozen BK179.out 6; have hfz21_7 := blk_frozen BK179.out 7) | (go_at_call 39; (with_reducible refine (spindleref08_Parts.calls k1 ((rd_T54 l0 x10_1).f4.f0) ((rd_T54 l0 x10_1).f4.f1) ((rd_T54 l0 x10_1).f4.f2) _ _ ((rd_T54 l0 x10_1).f4.f3) t181 _ ?side1 ?side2 A11.out).mono ?_); (case side1 => repeat (first | exact (Kd.C_below HR178_7.out HB.out) | (with_reducible refine Kd.C_alloc ?_ _) | (with_reducible refine Kd.C_drewN ?_ _) | (with_reducible refine Kd.C_drew ?_))); (case side2 => exact HC178_7.out); rintro e w22 ⟨rfl, hb⟩; have n0_ := Aside0.mk (blk_below (g := gb179) (o := .cells #[.int .i64 ((rd_T54 l0 x10_1).f0), .int .i64 ((rd_T54 l0 x10_1).f1), .int .i64 ((rd_T54 l0 x10_1).f2), .string ((rd_T54 l0 x10_1).f3), .int .i64 ((rd_T54 l0 x10_1).f4.f0), .int .i64 ((rd_T54 l0 x10_1).f4.f1), .string ((rd_T54 l0 x10_1).f4.f2), .slice A178_7 ((rd_T54 l0 x10_1).f4.f3).length c178_7] 54 (0, 0)) (by (with_reducible repeat (first | refine blk_drewN ?_ _ | refine blk_drew ?_ | refine blk_alloc ?_ _)); exact BK179.out) hb); have n1_ := Aside0.mk (below_step (by repeat (first | (with_reducible first | exact HB.out | apply below_alloc | apply pw_below_drewN | apply below_drew1 | refine below_set ?_ GE179.out) | exact HB.out)) hb); clear BK179; clear HB; have BK179 := n0_; have HB := n1_; clear n0_ n1_; (try clear hb); (try clear hb2); (try clear hk); (try clear hi)))
                    go_roundg k1
                    case measure => have := HK1.out; omega
                    case rel => exact ⟨(wrap64 (x10_1 + 1)), (by first | rfl | (simp; done) | (simp [*]; done)), H', ⟨by have := HK1.out; omega⟩, ⟨by repeat (first | (with_reducible first | exact HB.out | apply below_alloc | apply pw_below_drewN | apply below_drew1 | refine below_set ?_ GE179.out) | exact HB.out)⟩⟩
                · replace c10 := Bool.eq_false_iff.mpr c10
                  subst c10
                  have H1 : (some false) = some r := by rw [if_neg (show ¬ (false = true) by decide)] at H; exact H
                  clear H
                  have H := H1
                  clear H1
                  obtain rfl := Option.some.inj H
                  have p178 : 0 ≤ (x10_1 : Int) := of_decide_eq_true (by first | (with_reducible assumption) | assumption)
                  have q178 : x10_1 < (l0.length : Int) := of_decide_eq_true (by first | (with_reducible assumption) | assumption)
                  obtain ⟨ad178, A178_7, c178_7, e178, hx178_0, hx178_1, hx178_2, hx178_3, hx178_4, hx178_5, hx178_6, hx178_7, hl178_7, hi178_7⟩ := at_T54 HR0.out x10_1 p178 q178
                  cases e178
                  replace hx178_0 := (HB.out.cell (World.block_lt_of_cell? w _ hx178_0)).trans hx178_0
                  replace hx178_1 := (HB.out.cell (World.block_lt_of_cell? w _ hx178_1)).trans hx178_1
                  replace hx178_2 := (HB.out.cell (World.block_lt_of_cell? w _ hx178_2)).trans hx178_2
                  replace hx178_3 := (HB.out.cell (World.block_lt_of_cell? w _ hx178_3)).trans hx178_3
                  replace hx178_4 := (HB.out.cell (World.block_lt_of_cell? w _ hx178_4)).trans hx178_4
                  replace hx178_5 := (HB.out.cell (World.block_lt_of_cell? w _ hx178_5)).trans hx178_5
                  replace hx178_6 := (HB.out.cell (World.block_lt_of_cell? w _ hx178_6)).trans hx178_6
                  replace hx178_7 := (HB.out.cell (World.block_lt_of_cell? w _ hx178_7)).trans hx178_7
                  have HR178_7 := Aside0.mk hi178_7
                  have HC178_7 := Aside0.mk hl178_7
                  clear hi178_7 hl178_7
                  replace p178 := eq_true p178
                  replace q178 := eq_true q178
                  go_wp2_with (first | ((with_reducible refine gate_dst (N := 4) rfl ?_); refine box_event ?hg (N := 4) ?hd (cs := #[.int .i64 0, .int .i64 0, .int .i64 0, .string (⟨#[]⟩ : ByteArray), .int .i64 0, .int .i64 0, .string (⟨#[]⟩ : ByteArray), .slice none 0 0]) (t := 54) ?hr ?_; (case hd => rfl); (case hg => rfl); (case hr => first | (go_simp; done) | (go_simp; rfl)); intro gb179 hg w23 hbox hb; have n0_ := Aside0.mk (below_step (by repeat (first | (with_reducible first | exact HB.out | apply below_alloc | apply pw_below_drewN | apply below_drew1) | exact HB.out)) hb); have n1_ := Aside0.mk (hbox); have n2_ := Aside0.mk ((by rw [hg]; exact (below_size (by repeat (first | (with_reducible first | exact HB.out | apply below_alloc | apply pw_below_drewN | apply below_drew1) | exact HB.out))) : w.heap.size ≤ gb179)); have n3_ := Aside0.mk ((by rw [hg]; exact (below_size (by repeat (first | (with_reducible first | exact HB.out | apply below_alloc | apply pw_below_drewN | apply below_drew1) | exact HB.out))) : w.heap.size ≤ gb179)); clear HB; have HB := n0_; have BK179 := n1_; have GW179 := n2_; have GE179 := n3_; clear n0_ n1_ n2_ n3_; clear hb hbox hg; have hcz24_0 : w23.cell? ⟨gb179, 0, none⟩ = some (.int .i64 0) := (blk_cell BK179.out 0).trans rfl; have hcz24_1 : w23.cell? ⟨gb179, 1, none⟩ = some (.int .i64 0) := (blk_cell BK179.out 1).trans rfl; have hcz24_2 : w23.cell? ⟨gb179, 2, none⟩ = some (.int .i64 0) := (blk_cell BK179.out 2).trans rfl; have hcz24_3 : w23.cell? ⟨gb179, 3, none⟩ = some (.string (⟨#[]⟩ : ByteArray)) := (blk_cell BK179.out 3).trans rfl; have hcz24_4 : w23.cell? ⟨gb179, 4, none⟩ = some (.int .i64 0) := (blk_cell BK179.out 4).trans rfl; have hcz24_5 : w23.cell? ⟨gb179, 5, none⟩ = some (.int .i64 0) := (blk_cell BK179.out 5).trans rfl; have hcz24_6 : w23.cell? ⟨gb179, 6, none⟩ = some (.string (⟨#[]⟩ : ByteArray)) := (blk_cell BK179.out 6).trans rfl; have hcz24_7 : w23.cell? ⟨gb179, 7, none⟩ = some (.slice none 0 0) := (blk_cell BK179.out 7).trans rfl; have hfz24_0 := blk_frozen BK179.out 0; have hfz24_1 := blk_frozen BK179.out 1; have hfz24_2 := blk_frozen BK179.out 2; have hfz24_3 := blk_frozen BK179.out 3; have hfz24_4 := blk_frozen BK179.out 4; have hfz24_5 := blk_frozen BK179.out 5; have hfz24_6 := blk_frozen BK179.out 6; have hfz24_7 := blk_frozen BK179.out 7) | (go_at_call 38; (with_reducible refine (spindleref08_Small.calls k1 ((rd_T54 l0 x10_1).f4.f0) ((rd_T54 l0 x10_1).f4.f1) ((rd_T54 l0 x10_1).f4.f2) _ _ ((rd_T54 l0 x10_1).f4.f3) false _ ?side1 ?side2 A9.out).mono ?_); (case side1 => exact Kd.C_below HR178_7.out (by repeat (first | (with_reducible first | exact HB.out | apply below_alloc | apply pw_below_drewN | apply below_drew1 | refine below_set ?_ GE179.out) | exact HB.out))); (case side2 => exact HC178_7.out); rintro e w25 ⟨rfl, hb⟩; have n0_ := Aside0.mk (blk_below (g := gb179) (o := .cells #[.int .i64 ((rd_T54 l0 x10_1).f0), .int .i64 ((rd_T54 l0 x10_1).f1), .int .i64 ((rd_T54 l0 x10_1).f2), .string ((rd_T54 l0 x10_1).f3), .int .i64 ((rd_T54 l0 x10_1).f4.f0), .int .i64 ((rd_T54 l0 x10_1).f4.f1), .string ((rd_T54 l0 x10_1).f4.f2), .slice A178_7 ((rd_T54 l0 x10_1).f4.f3).length c178_7] 54 (0, 0)) (by (with_reducible repeat (first | refine blk_drewN ?_ _ | refine blk_drew ?_ | refine blk_alloc ?_ _)); refine blk_put (cs := #[.int .i64 ((rd_T54 l0 x10_1).f0), .int .i64 ((rd_T54 l0 x10_1).f1), .int .i64 ((rd_T54 l0 x10_1).f2), .string ((rd_T54 l0 x10_1).f3), .int .i64 ((rd_T54 l0 x10_1).f4.f0), .int .i64 ((rd_T54 l0 x10_1).f4.f1), .string ((rd_T54 l0 x10_1).f4.f2), .slice none 0 0]) ?_ 7 _ rfl; (with_reducible repeat (first | refine blk_drewN ?_ _ | refine blk_drew ?_ | refine blk_alloc ?_ _)); refine blk_put (cs := #[.int .i64 ((rd_T54 l0 x10_1).f0), .int .i64 ((rd_T54 l0 x10_1).f1), .int .i64 ((rd_T54 l0 x10_1).f2), .string ((rd_T54 l0 x10_1).f3), .int .i64 ((rd_T54 l0 x10_1).f4.f0), .int .i64 ((rd_T54 l0 x10_1).f4.f1), .string (⟨#[]⟩ : ByteArray), .slice none 0 0]) ?_ 6 _ rfl; (with_reducible repeat (first | refine blk_drewN ?_ _ | refine blk_drew ?_ | refine blk_alloc ?_ _)); refine blk_put (cs := #[.int .i64 ((rd_T54 l0 x10_1).f0), .int .i64 ((rd_T54 l0 x10_1).f1), .int .i64 ((rd_T54 l0 x10_1).f2), .string ((rd_T54 l0 x10_1).f3), .int .i64 ((rd_T54 l0 x10_1).f4.f0), .int .i64 0, .string (⟨#[]⟩ : ByteArray), .slice none 0 0]) ?_ 5 _ rfl; (with_reducible repeat (first | refine blk_drewN ?_ _ | refine blk_drew ?_ | refine blk_alloc ?_ _)); refine blk_put (cs := #[.int .i64 ((rd_T54 l0 x10_1).f0), .int .i64 ((rd_T54 l0 x10_1).f1), .int .i64 ((rd_T54 l0 x10_1).f2), .string ((rd_T54 l0 x10_1).f3), .int .i64 0, .int .i64 0, .string (⟨#[]⟩ : ByteArray), .slice none 0 0]) ?_ 4 _ rfl; (with_reducible repeat (first | refine blk_drewN ?_ _ | refine blk_drew ?_ | refine blk_alloc ?_ _)); refine blk_put (cs := #[.int .i64 ((rd_T54 l0 x10_1).f0), .int .i64 ((rd_T54 l0 x10_1).f1), .int .i64 ((rd_T54 l0 x10_1).f2), .string (⟨#[]⟩ : ByteArray), .int .i64 0, .int .i64 0, .string (⟨#[]⟩ : ByteArray), .slice none 0 0]) ?_ 3 _ rfl; (with_reducible repeat (first | refine blk_drewN ?_ _ | refine blk_drew ?_ | refine blk_alloc ?_ _)); refine blk_put (cs := #[.int .i64 ((rd_T54 l0 x10_1).f0), .int .i64 ((rd_T54 l0 x10_1).f1), .int .i64 0, .string (⟨#[]⟩ : ByteArray), .int .i64 0, .int .i64 0, .string (⟨#[]⟩ : ByteArray), .slice none 0 0]) ?_ 2 _ rfl; (with_reducible repeat (first | refine blk_drewN ?_ _ | refine blk_drew ?_ | refine blk_alloc ?_ _)); refine blk_put (cs := #[.int .i64 ((rd_T54 l0 x10_1).f0), .int .i64 0, .int .i64 0, .string (⟨#[]⟩ : ByteArray), .int .i64 0, .int .i64 0, .string (⟨#[]⟩ : ByteArray), .slice none 0 0]) ?_ 1 _ rfl; (with_reducible repeat (first | refine blk_drewN ?_ _ | refine blk_drew ?_ | refine blk_alloc ?_ _)); refine blk_put (cs := #[.int .i64 0, .int .i64 0, .int .i64 0, .string (⟨#[]⟩ : ByteArray), .int .i64 0, .int .i64 0, .string (⟨#[]⟩ : ByteArray), .slice none 0 0]) ?_ 0 _ rfl; (with_reducible repeat (first | refine blk_drewN ?_ _ | refine blk_drew ?_ | refine blk_alloc ?_ _)); exact BK179.out) hb); have n1_ := Aside0.mk (below_step (by repeat (first | (with_reducible first | exact HB.out | apply below_alloc | apply pw_below_drewN | apply below_drew1 | refine below_set ?_ GE179.out) | exact HB.out)) hb); clear BK179; clear HB; have BK179 := n0_; have HB := n1_; clear n0_ n1_; (try clear hb); (try clear hb2); (try clear hk); (try clear hi)))
                  go_ret
                  exact ⟨by first | rfl | (simp [errW_none, errW_some] <;> rfl) | (simp [*, errW_none, errW_some] <;> rfl), by repeat (first | (with_reducible first | exact HB.out | apply below_alloc | apply pw_below_drewN | apply below_drew1 | refine below_set ?_ GE179.out) | exact HB.out)⟩
            · rw [if_neg c5] at H
              exact absurd H (by simp)
          · rw [if_neg c4] at H
            exact absurd H (by simp)
        · rw [if_neg c3] at H
          have c3b0 : decide (x10_1 < (l0.length : Int)) = false := decide_eq_false c3
          clear c3
          obtain rfl := Option.some.inj H
          go_wp2
          go_ret
          exact ⟨by first | rfl | (simp [errW_none, errW_some] <;> rfl) | (simp [*, errW_none, errW_some] <;> rfl), by repeat (first | (with_reducible first | exact HB.out | apply below_alloc | apply pw_below_drewN | apply below_drew1) | exact HB.out)⟩

end Go.Proofs.YtiimojpaeccajaaGreatDoor.PCodeSafe
