/- The document's May, by its contract. -/
import Derived.Test.YtiimojpaeccajaaDoorRgt
import Derived.Deep.CutRange
namespace Go.Proofs.YtiimojpaeccajaaDoor
set_option linter.unusedVariables false
set_option linter.unusedSimpArgs false
open Go.RowKit Go.Proofs.YtiimojpaeccajaaDoorW.PrintWords Go.Proofs.YtiimojpaeccajaaDoorW.PrintLast Go.Proofs.YtiimojpaeccajaaDoorW.PrintMore

/-- The document's right datum, by its contract. -/
theorem right8_is {w : World} (d : Dat) {A : Option Addr} {c : Nat} (hC : Kd.C datK w A d.f3.length d.f3) (hc : d.f3.length ≤ c) (hs : dsz d ≤ 4000) :
    Calls Tryd.prog 44 #[.agg #[.int .i64 d.f0, .int .i64 d.f1, .string d.f2, .slice A d.f3.length c]] w fun e w' => e = .returned (.bool (fitB 64 d)) ∧ Below w.heap.size w w' := by
  obtain ⟨K, hK⟩ := Right08 d hs
  exact PCodeStacks.spindleref08_Right.calls K d.f0 d.f1 d.f2 A c d.f3 _ w hC hc (hK K (Nat.le_refl _))
theorem symbol7_is (s : ByteArray) (w : World) :
    Calls Tryd.prog 45 #[.string s] w fun e w' => e = .returned (.bool (symS s.toList)) ∧ Below w.heap.size w w' := by
  rw [ByteArray.toList_eq]
  refine (PCodeStacks.spindleref07_Symbol.calls (s.size + 3) s _ w (sym07 s (s.size + 3) (Nat.le_refl _))).mono ?_
  rintro e w' ⟨rfl, k⟩
  exact ⟨rfl, below_drawn0 k⟩
def voidB (d : Dat) : Bool := (d.f0 == 0) && ((d.f1 == 0) || (d.f1 == 1)) && d.f2.toList.isEmpty && (d.f3.length == 0)
def placeB (A : Int) (n : Nat) : Bool := decide (0 ≤ A) && decide (A < n)
theorem const_void (d : Dat) : constB d = (voidB d || fitB 64 d) := by
  unfold constB voidB
  by_cases h : d.f0 = 0
  · rw [if_pos h, h]
    have hf : fitB 64 d = false := by
      rw [show (64 : Nat) = 63 + 1 from rfl, fitB, h]
      rfl
    rw [hf, Bool.or_false]
    have e : (d.f1 / 2 == 0) = ((d.f1 == 0) || (d.f1 == 1)) := Bool.eq_iff_iff.2 (by simp; omega)
    rw [e]
    rfl
  · have e : (d.f0 == 0) = false := by simpa using h
    rw [if_neg h, e]
    simp

set_option maxHeartbeats 4000000 in
set_option maxRecDepth 100000 in
theorem may16_1 (A B : Int) (T : ByteArray) (d : Dat) (n : Nat) (w : World) {DA : Option Addr} {c : Nat} (hC : Kd.C datK w DA d.f3.length d.f3) (hc : d.f3.length ≤ c) (hs : dsz d ≤ 4000) (hn : n ≤ 8000) :
    Calls Tryd.prog 37 #[.agg #[.int .i64 1, .int .i64 A, .int .i64 B, .string T, .int .i64 d.f0, .int .i64 d.f1, .string d.f2, .slice DA d.f3.length c], .int .i64 n] w fun e w' => e = .returned (.bool (insB n ⟨1, A, B, T, d⟩)) ∧ Below w.heap.size w w' := by
  have HK := Box.mk ((Below.refl _ w).alloc (Nat.le_refl _) (.cells #[.int .i64 1, .int .i64 A, .int .i64 B, .string T, .int .i64 d.f0, .int .i64 d.f1, .string d.f2, .slice DA d.f3.length c] 44))
  have hb := heap_alloc_new w (.cells #[.int .i64 1, .int .i64 A, .int .i64 B, .string T, .int .i64 d.f0, .int .i64 d.f1, .string d.f2, .slice DA d.f3.length c] 44)
  obtain ⟨W, hW⟩ : ∃ W, w.alloc (.cells #[.int .i64 1, .int .i64 A, .int .i64 B, .string T, .int .i64 d.f0, .int .i64 d.f1, .string d.f2, .slice DA d.f3.length c] 44) = W := ⟨_, rfl⟩
  rw [hW] at HK hb
  have HCW := Box.mk (Kd.C_below hC HK.out)
  obtain ⟨g, hg⟩ : ∃ g, w.heap.size = g := ⟨_, rfl⟩
  rw [hg] at hb
  have h0 : W.cell? ⟨g, 0, none⟩ = some (.int .i64 1) := by rw [cell_of_heap hb]; rfl
  have h1 : W.cell? ⟨g, 1, none⟩ = some (.int .i64 A) := by rw [cell_of_heap hb]; rfl
  have h2 : W.cell? ⟨g, 2, none⟩ = some (.int .i64 B) := by rw [cell_of_heap hb]; rfl
  have h3 : W.cell? ⟨g, 3, none⟩ = some (.string T) := by rw [cell_of_heap hb]; rfl
  have h4 : W.cell? ⟨g, 4, none⟩ = some (.int .i64 d.f0) := by rw [cell_of_heap hb]; rfl
  have h5 : W.cell? ⟨g, 5, none⟩ = some (.int .i64 d.f1) := by rw [cell_of_heap hb]; rfl
  have h6 : W.cell? ⟨g, 6, none⟩ = some (.string d.f2) := by rw [cell_of_heap hb]; rfl
  have h7 : W.cell? ⟨g, 7, none⟩ = some (.slice DA d.f3.length c) := by rw [cell_of_heap hb]; rfl
  have HW := Box.mk hW
  have Hg := Box.mk hg
  obtain ⟨r, hr⟩ : ∃ r, insB n ⟨1, A, B, T, d⟩ = r := ⟨_, rfl⟩
  have Hr := Box.mk hr
  rw [hr]
  clear hb hC hW hg hr
  go_enter Tryd.func37, Tryd.ntmps37
  go_upto_region 1 with fail
  rw [HW.out, Hg.out]
  go_cut [0, 5] from 8 to 30 (fun p0 s w' => s = .bool (dEmp d) ∧ w' = W)
  case first =>
    go_wp2_with fail
    all_goals
      go_meet
      refine ⟨?_, rfl⟩
      go_light
      unfold dEmp
      simp_all
      try exact natbeq _
  case rest =>
    obtain ⟨rfl, hwc⟩ := hcut
    rw [hwc]
    clear hwc
    obtain ⟨de, hde⟩ : ∃ de, dEmp d = de := ⟨_, rfl⟩
    have Hde := Box.mk hde
    rw [hde]
    clear hde
    go_upto_region 2 with fail
    go_cut [0, 6] from 31 to 39 (fun p0 s w' => s = .bool (placeB A n) ∧ w' = W)
    case first =>
      go_wp2_with fail
      all_goals
        go_meet
        refine ⟨?_, rfl⟩
        go_light
        unfold placeB
        simp_all
        try (intros; omega)
    case rest =>
      obtain ⟨rfl, hwc⟩ := hcut
      rw [hwc]
      clear hwc
      obtain ⟨pl, hpl⟩ : ∃ pl, placeB A n = pl := ⟨_, rfl⟩
      have Hpl := Box.mk hpl
      rw [hpl]
      clear hpl
      obtain ⟨fr, hfr⟩ : ∃ fr, fitB 64 d = fr := ⟨_, rfl⟩
      have HS := Box.mk (right8_is d HCW.out hc hs)
      rw [hfr] at HS
      obtain ⟨vd, hvd⟩ : ∃ vd, voidB d = vd := ⟨_, rfl⟩
      have HI : Box (insB n ⟨1, A, B, T, d⟩ = ((A == 0) && (B == 0) && T.toList.isEmpty && (vd || fr))) := ⟨by
        unfold insB
        rw [if_pos (show (1 : Int) = 1 by decide)]
        dsimp only
        rw [const_void, hvd, hfr]⟩
      have Hvd := Box.mk hvd
      clear hvd hfr
      go_upto_region 5 with fail
      go_cut [0, 7] from 44 to 72 (fun p0 s w' => s = .bool vd ∧ w' = W)
      case first =>
        go_wp2_with fail
        all_goals
          go_meet
          refine ⟨?_, rfl⟩
          rw [← Hvd.out]
          go_light
          unfold voidB
          clear Hvd HI HS
          simp_all
          try exact natbeq _
      case rest =>
        obtain ⟨rfl, hwc⟩ := hcut
        rw [hwc]
        clear hwc
        go_wp2_with (go_at_call 44; refine HS.out.mono ?_; rintro e w' ⟨rfl, k2⟩)
        all_goals
          go_ret
          refine ⟨?_, by first | exact HK.out | exact HK.out.trans (Below.mono (by assumption) HK.out.size)⟩
          rw [← Hr.out, HI.out]
          go_light
          clear Hde Hpl HW Hg HCW HI HK Hr HS Hvd h0 h1 h2 h3 h4 h5 h6 h7
          simp_all

set_option maxHeartbeats 4000000 in
set_option maxRecDepth 100000 in
theorem may16_2 (A B : Int) (T : ByteArray) (d : Dat) (n : Nat) (w : World) {DA : Option Addr} {c : Nat} (hC : Kd.C datK w DA d.f3.length d.f3) (hc : d.f3.length ≤ c) (hs : dsz d ≤ 4000) (hn : n ≤ 8000) :
    Calls Tryd.prog 37 #[.agg #[.int .i64 2, .int .i64 A, .int .i64 B, .string T, .int .i64 d.f0, .int .i64 d.f1, .string d.f2, .slice DA d.f3.length c], .int .i64 n] w fun e w' => e = .returned (.bool (insB n ⟨2, A, B, T, d⟩)) ∧ Below w.heap.size w w' := by
  have HK := Box.mk ((Below.refl _ w).alloc (Nat.le_refl _) (.cells #[.int .i64 2, .int .i64 A, .int .i64 B, .string T, .int .i64 d.f0, .int .i64 d.f1, .string d.f2, .slice DA d.f3.length c] 44))
  have hb := heap_alloc_new w (.cells #[.int .i64 2, .int .i64 A, .int .i64 B, .string T, .int .i64 d.f0, .int .i64 d.f1, .string d.f2, .slice DA d.f3.length c] 44)
  obtain ⟨W, hW⟩ : ∃ W, w.alloc (.cells #[.int .i64 2, .int .i64 A, .int .i64 B, .string T, .int .i64 d.f0, .int .i64 d.f1, .string d.f2, .slice DA d.f3.length c] 44) = W := ⟨_, rfl⟩
  rw [hW] at HK hb
  have HCW := Box.mk (Kd.C_below hC HK.out)
  obtain ⟨g, hg⟩ : ∃ g, w.heap.size = g := ⟨_, rfl⟩
  rw [hg] at hb
  have h0 : W.cell? ⟨g, 0, none⟩ = some (.int .i64 2) := by rw [cell_of_heap hb]; rfl
  have h1 : W.cell? ⟨g, 1, none⟩ = some (.int .i64 A) := by rw [cell_of_heap hb]; rfl
  have h2 : W.cell? ⟨g, 2, none⟩ = some (.int .i64 B) := by rw [cell_of_heap hb]; rfl
  have h3 : W.cell? ⟨g, 3, none⟩ = some (.string T) := by rw [cell_of_heap hb]; rfl
  have h4 : W.cell? ⟨g, 4, none⟩ = some (.int .i64 d.f0) := by rw [cell_of_heap hb]; rfl
  have h5 : W.cell? ⟨g, 5, none⟩ = some (.int .i64 d.f1) := by rw [cell_of_heap hb]; rfl
  have h6 : W.cell? ⟨g, 6, none⟩ = some (.string d.f2) := by rw [cell_of_heap hb]; rfl
  have h7 : W.cell? ⟨g, 7, none⟩ = some (.slice DA d.f3.length c) := by rw [cell_of_heap hb]; rfl
  have HW := Box.mk hW
  have Hg := Box.mk hg
  obtain ⟨r, hr⟩ : ∃ r, insB n ⟨2, A, B, T, d⟩ = r := ⟨_, rfl⟩
  have Hr := Box.mk hr
  rw [hr]
  clear hb hC hW hg hr
  go_enter Tryd.func37, Tryd.ntmps37
  go_upto_region 1 with fail
  rw [HW.out, Hg.out]
  go_cut [0, 5] from 8 to 30 (fun p0 s w' => s = .bool (dEmp d) ∧ w' = W)
  case first =>
    go_wp2_with fail
    all_goals
      go_meet
      refine ⟨?_, rfl⟩
      go_light
      unfold dEmp
      simp_all
      try exact natbeq _
  case rest =>
    obtain ⟨rfl, hwc⟩ := hcut
    rw [hwc]
    clear hwc
    obtain ⟨de, hde⟩ : ∃ de, dEmp d = de := ⟨_, rfl⟩
    have Hde := Box.mk hde
    rw [hde]
    clear hde
    go_upto_region 2 with fail
    go_cut [0, 6] from 31 to 39 (fun p0 s w' => s = .bool (placeB A n) ∧ w' = W)
    case first =>
      go_wp2_with fail
      all_goals
        go_meet
        refine ⟨?_, rfl⟩
        go_light
        unfold placeB
        simp_all
        try (intros; omega)
    case rest =>
      obtain ⟨rfl, hwc⟩ := hcut
      rw [hwc]
      clear hwc
      obtain ⟨pl, hpl⟩ : ∃ pl, placeB A n = pl := ⟨_, rfl⟩
      have Hpl := Box.mk hpl
      rw [hpl]
      clear hpl
      have HI : Box (insB n ⟨2, A, B, T, d⟩ = (decide (0 ≤ A) && decide (A ≤ 200) && decide (0 ≤ B) && decide (B ≤ 23) && T.toList.isEmpty && de)) := ⟨by
        unfold insB
        rw [if_neg (show ¬ ((2 : Int) = 1) by decide), if_pos (show (2 : Int) = 2 ∨ (2 : Int) = 4 by decide)]
        dsimp only
        rw [Hde.out]
        try rw [← Hpl.out, placeB]
        try (first | rfl | ac_rfl)⟩
      go_wp2_with fail
      all_goals
        go_ret
        refine ⟨?_, HK.out⟩
        rw [← Hr.out, HI.out]
        go_light
        clear Hde Hpl HW Hg HCW HI HK Hr h0 h1 h2 h3 h4 h5 h6 h7
        simp_all
        try (intros; omega)

set_option maxHeartbeats 4000000 in
set_option maxRecDepth 100000 in
theorem may16_3 (A B : Int) (T : ByteArray) (d : Dat) (n : Nat) (w : World) {DA : Option Addr} {c : Nat} (hC : Kd.C datK w DA d.f3.length d.f3) (hc : d.f3.length ≤ c) (hs : dsz d ≤ 4000) (hn : n ≤ 8000) :
    Calls Tryd.prog 37 #[.agg #[.int .i64 3, .int .i64 A, .int .i64 B, .string T, .int .i64 d.f0, .int .i64 d.f1, .string d.f2, .slice DA d.f3.length c], .int .i64 n] w fun e w' => e = .returned (.bool (insB n ⟨3, A, B, T, d⟩)) ∧ Below w.heap.size w w' := by
  have HK := Box.mk ((Below.refl _ w).alloc (Nat.le_refl _) (.cells #[.int .i64 3, .int .i64 A, .int .i64 B, .string T, .int .i64 d.f0, .int .i64 d.f1, .string d.f2, .slice DA d.f3.length c] 44))
  have hb := heap_alloc_new w (.cells #[.int .i64 3, .int .i64 A, .int .i64 B, .string T, .int .i64 d.f0, .int .i64 d.f1, .string d.f2, .slice DA d.f3.length c] 44)
  obtain ⟨W, hW⟩ : ∃ W, w.alloc (.cells #[.int .i64 3, .int .i64 A, .int .i64 B, .string T, .int .i64 d.f0, .int .i64 d.f1, .string d.f2, .slice DA d.f3.length c] 44) = W := ⟨_, rfl⟩
  rw [hW] at HK hb
  have HCW := Box.mk (Kd.C_below hC HK.out)
  obtain ⟨g, hg⟩ : ∃ g, w.heap.size = g := ⟨_, rfl⟩
  rw [hg] at hb
  have h0 : W.cell? ⟨g, 0, none⟩ = some (.int .i64 3) := by rw [cell_of_heap hb]; rfl
  have h1 : W.cell? ⟨g, 1, none⟩ = some (.int .i64 A) := by rw [cell_of_heap hb]; rfl
  have h2 : W.cell? ⟨g, 2, none⟩ = some (.int .i64 B) := by rw [cell_of_heap hb]; rfl
  have h3 : W.cell? ⟨g, 3, none⟩ = some (.string T) := by rw [cell_of_heap hb]; rfl
  have h4 : W.cell? ⟨g, 4, none⟩ = some (.int .i64 d.f0) := by rw [cell_of_heap hb]; rfl
  have h5 : W.cell? ⟨g, 5, none⟩ = some (.int .i64 d.f1) := by rw [cell_of_heap hb]; rfl
  have h6 : W.cell? ⟨g, 6, none⟩ = some (.string d.f2) := by rw [cell_of_heap hb]; rfl
  have h7 : W.cell? ⟨g, 7, none⟩ = some (.slice DA d.f3.length c) := by rw [cell_of_heap hb]; rfl
  have HW := Box.mk hW
  have Hg := Box.mk hg
  obtain ⟨r, hr⟩ : ∃ r, insB n ⟨3, A, B, T, d⟩ = r := ⟨_, rfl⟩
  have Hr := Box.mk hr
  rw [hr]
  clear hb hC hW hg hr
  go_enter Tryd.func37, Tryd.ntmps37
  go_upto_region 1 with fail
  rw [HW.out, Hg.out]
  go_cut [0, 5] from 8 to 30 (fun p0 s w' => s = .bool (dEmp d) ∧ w' = W)
  case first =>
    go_wp2_with fail
    all_goals
      go_meet
      refine ⟨?_, rfl⟩
      go_light
      unfold dEmp
      simp_all
      try exact natbeq _
  case rest =>
    obtain ⟨rfl, hwc⟩ := hcut
    rw [hwc]
    clear hwc
    obtain ⟨de, hde⟩ : ∃ de, dEmp d = de := ⟨_, rfl⟩
    have Hde := Box.mk hde
    rw [hde]
    clear hde
    go_upto_region 2 with fail
    go_cut [0, 6] from 31 to 39 (fun p0 s w' => s = .bool (placeB A n) ∧ w' = W)
    case first =>
      go_wp2_with fail
      all_goals
        go_meet
        refine ⟨?_, rfl⟩
        go_light
        unfold placeB
        simp_all
        try (intros; omega)
    case rest =>
      obtain ⟨rfl, hwc⟩ := hcut
      rw [hwc]
      clear hwc
      obtain ⟨pl, hpl⟩ : ∃ pl, placeB A n = pl := ⟨_, rfl⟩
      have Hpl := Box.mk hpl
      rw [hpl]
      clear hpl
      obtain ⟨sy, hsy⟩ : ∃ sy, symS T.toList = sy := ⟨_, rfl⟩
      have HS := Box.mk (symbol7_is T W)
      rw [hsy] at HS
      have HI : Box (insB n ⟨3, A, B, T, d⟩ = ((A == 0) && (B == 0) && sy && de)) := ⟨by
        unfold insB
        rw [if_neg (show ¬ ((3 : Int) = 1) by decide), if_neg (show ¬ ((3 : Int) = 2 ∨ (3 : Int) = 4) by decide), if_pos (show (3 : Int) = 3 ∨ (3 : Int) = 5 ∨ (3 : Int) = 6 by decide)]
        dsimp only
        rw [Hde.out, hsy]⟩
      clear hsy
      go_wp2_with (go_at_call 45; refine HS.out.mono ?_; rintro e w' ⟨rfl, k2⟩)
      all_goals
        go_ret
        refine ⟨?_, by first | exact HK.out | exact HK.out.trans (Below.mono (by assumption) HK.out.size)⟩
        rw [← Hr.out, HI.out]
        go_light
        clear Hde Hpl HW Hg HCW HI HK Hr HS h0 h1 h2 h3 h4 h5 h6 h7
        simp_all

set_option maxHeartbeats 4000000 in
set_option maxRecDepth 100000 in
theorem may16_4 (A B : Int) (T : ByteArray) (d : Dat) (n : Nat) (w : World) {DA : Option Addr} {c : Nat} (hC : Kd.C datK w DA d.f3.length d.f3) (hc : d.f3.length ≤ c) (hs : dsz d ≤ 4000) (hn : n ≤ 8000) :
    Calls Tryd.prog 37 #[.agg #[.int .i64 4, .int .i64 A, .int .i64 B, .string T, .int .i64 d.f0, .int .i64 d.f1, .string d.f2, .slice DA d.f3.length c], .int .i64 n] w fun e w' => e = .returned (.bool (insB n ⟨4, A, B, T, d⟩)) ∧ Below w.heap.size w w' := by
  have HK := Box.mk ((Below.refl _ w).alloc (Nat.le_refl _) (.cells #[.int .i64 4, .int .i64 A, .int .i64 B, .string T, .int .i64 d.f0, .int .i64 d.f1, .string d.f2, .slice DA d.f3.length c] 44))
  have hb := heap_alloc_new w (.cells #[.int .i64 4, .int .i64 A, .int .i64 B, .string T, .int .i64 d.f0, .int .i64 d.f1, .string d.f2, .slice DA d.f3.length c] 44)
  obtain ⟨W, hW⟩ : ∃ W, w.alloc (.cells #[.int .i64 4, .int .i64 A, .int .i64 B, .string T, .int .i64 d.f0, .int .i64 d.f1, .string d.f2, .slice DA d.f3.length c] 44) = W := ⟨_, rfl⟩
  rw [hW] at HK hb
  have HCW := Box.mk (Kd.C_below hC HK.out)
  obtain ⟨g, hg⟩ : ∃ g, w.heap.size = g := ⟨_, rfl⟩
  rw [hg] at hb
  have h0 : W.cell? ⟨g, 0, none⟩ = some (.int .i64 4) := by rw [cell_of_heap hb]; rfl
  have h1 : W.cell? ⟨g, 1, none⟩ = some (.int .i64 A) := by rw [cell_of_heap hb]; rfl
  have h2 : W.cell? ⟨g, 2, none⟩ = some (.int .i64 B) := by rw [cell_of_heap hb]; rfl
  have h3 : W.cell? ⟨g, 3, none⟩ = some (.string T) := by rw [cell_of_heap hb]; rfl
  have h4 : W.cell? ⟨g, 4, none⟩ = some (.int .i64 d.f0) := by rw [cell_of_heap hb]; rfl
  have h5 : W.cell? ⟨g, 5, none⟩ = some (.int .i64 d.f1) := by rw [cell_of_heap hb]; rfl
  have h6 : W.cell? ⟨g, 6, none⟩ = some (.string d.f2) := by rw [cell_of_heap hb]; rfl
  have h7 : W.cell? ⟨g, 7, none⟩ = some (.slice DA d.f3.length c) := by rw [cell_of_heap hb]; rfl
  have HW := Box.mk hW
  have Hg := Box.mk hg
  obtain ⟨r, hr⟩ : ∃ r, insB n ⟨4, A, B, T, d⟩ = r := ⟨_, rfl⟩
  have Hr := Box.mk hr
  rw [hr]
  clear hb hC hW hg hr
  go_enter Tryd.func37, Tryd.ntmps37
  go_upto_region 1 with fail
  rw [HW.out, Hg.out]
  go_cut [0, 5] from 8 to 30 (fun p0 s w' => s = .bool (dEmp d) ∧ w' = W)
  case first =>
    go_wp2_with fail
    all_goals
      go_meet
      refine ⟨?_, rfl⟩
      go_light
      unfold dEmp
      simp_all
      try exact natbeq _
  case rest =>
    obtain ⟨rfl, hwc⟩ := hcut
    rw [hwc]
    clear hwc
    obtain ⟨de, hde⟩ : ∃ de, dEmp d = de := ⟨_, rfl⟩
    have Hde := Box.mk hde
    rw [hde]
    clear hde
    go_upto_region 2 with fail
    go_cut [0, 6] from 31 to 39 (fun p0 s w' => s = .bool (placeB A n) ∧ w' = W)
    case first =>
      go_wp2_with fail
      all_goals
        go_meet
        refine ⟨?_, rfl⟩
        go_light
        unfold placeB
        simp_all
        try (intros; omega)
    case rest =>
      obtain ⟨rfl, hwc⟩ := hcut
      rw [hwc]
      clear hwc
      obtain ⟨pl, hpl⟩ : ∃ pl, placeB A n = pl := ⟨_, rfl⟩
      have Hpl := Box.mk hpl
      rw [hpl]
      clear hpl
      have HI : Box (insB n ⟨4, A, B, T, d⟩ = (decide (0 ≤ A) && decide (A ≤ 200) && decide (0 ≤ B) && decide (B ≤ 23) && T.toList.isEmpty && de)) := ⟨by
        unfold insB
        rw [if_neg (show ¬ ((4 : Int) = 1) by decide), if_pos (show (4 : Int) = 2 ∨ (4 : Int) = 4 by decide)]
        dsimp only
        rw [Hde.out]
        try rw [← Hpl.out, placeB]
        try (first | rfl | ac_rfl)⟩
      go_wp2_with fail
      all_goals
        go_ret
        refine ⟨?_, HK.out⟩
        rw [← Hr.out, HI.out]
        go_light
        clear Hde Hpl HW Hg HCW HI HK Hr h0 h1 h2 h3 h4 h5 h6 h7
        simp_all
        try (intros; omega)

set_option maxHeartbeats 4000000 in
set_option maxRecDepth 100000 in
theorem may16_5 (A B : Int) (T : ByteArray) (d : Dat) (n : Nat) (w : World) {DA : Option Addr} {c : Nat} (hC : Kd.C datK w DA d.f3.length d.f3) (hc : d.f3.length ≤ c) (hs : dsz d ≤ 4000) (hn : n ≤ 8000) :
    Calls Tryd.prog 37 #[.agg #[.int .i64 5, .int .i64 A, .int .i64 B, .string T, .int .i64 d.f0, .int .i64 d.f1, .string d.f2, .slice DA d.f3.length c], .int .i64 n] w fun e w' => e = .returned (.bool (insB n ⟨5, A, B, T, d⟩)) ∧ Below w.heap.size w w' := by
  have HK := Box.mk ((Below.refl _ w).alloc (Nat.le_refl _) (.cells #[.int .i64 5, .int .i64 A, .int .i64 B, .string T, .int .i64 d.f0, .int .i64 d.f1, .string d.f2, .slice DA d.f3.length c] 44))
  have hb := heap_alloc_new w (.cells #[.int .i64 5, .int .i64 A, .int .i64 B, .string T, .int .i64 d.f0, .int .i64 d.f1, .string d.f2, .slice DA d.f3.length c] 44)
  obtain ⟨W, hW⟩ : ∃ W, w.alloc (.cells #[.int .i64 5, .int .i64 A, .int .i64 B, .string T, .int .i64 d.f0, .int .i64 d.f1, .string d.f2, .slice DA d.f3.length c] 44) = W := ⟨_, rfl⟩
  rw [hW] at HK hb
  have HCW := Box.mk (Kd.C_below hC HK.out)
  obtain ⟨g, hg⟩ : ∃ g, w.heap.size = g := ⟨_, rfl⟩
  rw [hg] at hb
  have h0 : W.cell? ⟨g, 0, none⟩ = some (.int .i64 5) := by rw [cell_of_heap hb]; rfl
  have h1 : W.cell? ⟨g, 1, none⟩ = some (.int .i64 A) := by rw [cell_of_heap hb]; rfl
  have h2 : W.cell? ⟨g, 2, none⟩ = some (.int .i64 B) := by rw [cell_of_heap hb]; rfl
  have h3 : W.cell? ⟨g, 3, none⟩ = some (.string T) := by rw [cell_of_heap hb]; rfl
  have h4 : W.cell? ⟨g, 4, none⟩ = some (.int .i64 d.f0) := by rw [cell_of_heap hb]; rfl
  have h5 : W.cell? ⟨g, 5, none⟩ = some (.int .i64 d.f1) := by rw [cell_of_heap hb]; rfl
  have h6 : W.cell? ⟨g, 6, none⟩ = some (.string d.f2) := by rw [cell_of_heap hb]; rfl
  have h7 : W.cell? ⟨g, 7, none⟩ = some (.slice DA d.f3.length c) := by rw [cell_of_heap hb]; rfl
  have HW := Box.mk hW
  have Hg := Box.mk hg
  obtain ⟨r, hr⟩ : ∃ r, insB n ⟨5, A, B, T, d⟩ = r := ⟨_, rfl⟩
  have Hr := Box.mk hr
  rw [hr]
  clear hb hC hW hg hr
  go_enter Tryd.func37, Tryd.ntmps37
  go_upto_region 1 with fail
  rw [HW.out, Hg.out]
  go_cut [0, 5] from 8 to 30 (fun p0 s w' => s = .bool (dEmp d) ∧ w' = W)
  case first =>
    go_wp2_with fail
    all_goals
      go_meet
      refine ⟨?_, rfl⟩
      go_light
      unfold dEmp
      simp_all
      try exact natbeq _
  case rest =>
    obtain ⟨rfl, hwc⟩ := hcut
    rw [hwc]
    clear hwc
    obtain ⟨de, hde⟩ : ∃ de, dEmp d = de := ⟨_, rfl⟩
    have Hde := Box.mk hde
    rw [hde]
    clear hde
    go_upto_region 2 with fail
    go_cut [0, 6] from 31 to 39 (fun p0 s w' => s = .bool (placeB A n) ∧ w' = W)
    case first =>
      go_wp2_with fail
      all_goals
        go_meet
        refine ⟨?_, rfl⟩
        go_light
        unfold placeB
        simp_all
        try (intros; omega)
    case rest =>
      obtain ⟨rfl, hwc⟩ := hcut
      rw [hwc]
      clear hwc
      obtain ⟨pl, hpl⟩ : ∃ pl, placeB A n = pl := ⟨_, rfl⟩
      have Hpl := Box.mk hpl
      rw [hpl]
      clear hpl
      obtain ⟨sy, hsy⟩ : ∃ sy, symS T.toList = sy := ⟨_, rfl⟩
      have HS := Box.mk (symbol7_is T W)
      rw [hsy] at HS
      have HI : Box (insB n ⟨5, A, B, T, d⟩ = ((A == 0) && (B == 0) && sy && de)) := ⟨by
        unfold insB
        rw [if_neg (show ¬ ((5 : Int) = 1) by decide), if_neg (show ¬ ((5 : Int) = 2 ∨ (5 : Int) = 4) by decide), if_pos (show (5 : Int) = 3 ∨ (5 : Int) = 5 ∨ (5 : Int) = 6 by decide)]
        dsimp only
        rw [Hde.out, hsy]⟩
      clear hsy
      go_wp2_with (go_at_call 45; refine HS.out.mono ?_; rintro e w' ⟨rfl, k2⟩)
      all_goals
        go_ret
        refine ⟨?_, by first | exact HK.out | exact HK.out.trans (Below.mono (by assumption) HK.out.size)⟩
        rw [← Hr.out, HI.out]
        go_light
        clear Hde Hpl HW Hg HCW HI HK Hr HS h0 h1 h2 h3 h4 h5 h6 h7
        simp_all

set_option maxHeartbeats 4000000 in
set_option maxRecDepth 100000 in
theorem may16_6 (A B : Int) (T : ByteArray) (d : Dat) (n : Nat) (w : World) {DA : Option Addr} {c : Nat} (hC : Kd.C datK w DA d.f3.length d.f3) (hc : d.f3.length ≤ c) (hs : dsz d ≤ 4000) (hn : n ≤ 8000) :
    Calls Tryd.prog 37 #[.agg #[.int .i64 6, .int .i64 A, .int .i64 B, .string T, .int .i64 d.f0, .int .i64 d.f1, .string d.f2, .slice DA d.f3.length c], .int .i64 n] w fun e w' => e = .returned (.bool (insB n ⟨6, A, B, T, d⟩)) ∧ Below w.heap.size w w' := by
  have HK := Box.mk ((Below.refl _ w).alloc (Nat.le_refl _) (.cells #[.int .i64 6, .int .i64 A, .int .i64 B, .string T, .int .i64 d.f0, .int .i64 d.f1, .string d.f2, .slice DA d.f3.length c] 44))
  have hb := heap_alloc_new w (.cells #[.int .i64 6, .int .i64 A, .int .i64 B, .string T, .int .i64 d.f0, .int .i64 d.f1, .string d.f2, .slice DA d.f3.length c] 44)
  obtain ⟨W, hW⟩ : ∃ W, w.alloc (.cells #[.int .i64 6, .int .i64 A, .int .i64 B, .string T, .int .i64 d.f0, .int .i64 d.f1, .string d.f2, .slice DA d.f3.length c] 44) = W := ⟨_, rfl⟩
  rw [hW] at HK hb
  have HCW := Box.mk (Kd.C_below hC HK.out)
  obtain ⟨g, hg⟩ : ∃ g, w.heap.size = g := ⟨_, rfl⟩
  rw [hg] at hb
  have h0 : W.cell? ⟨g, 0, none⟩ = some (.int .i64 6) := by rw [cell_of_heap hb]; rfl
  have h1 : W.cell? ⟨g, 1, none⟩ = some (.int .i64 A) := by rw [cell_of_heap hb]; rfl
  have h2 : W.cell? ⟨g, 2, none⟩ = some (.int .i64 B) := by rw [cell_of_heap hb]; rfl
  have h3 : W.cell? ⟨g, 3, none⟩ = some (.string T) := by rw [cell_of_heap hb]; rfl
  have h4 : W.cell? ⟨g, 4, none⟩ = some (.int .i64 d.f0) := by rw [cell_of_heap hb]; rfl
  have h5 : W.cell? ⟨g, 5, none⟩ = some (.int .i64 d.f1) := by rw [cell_of_heap hb]; rfl
  have h6 : W.cell? ⟨g, 6, none⟩ = some (.string d.f2) := by rw [cell_of_heap hb]; rfl
  have h7 : W.cell? ⟨g, 7, none⟩ = some (.slice DA d.f3.length c) := by rw [cell_of_heap hb]; rfl
  have HW := Box.mk hW
  have Hg := Box.mk hg
  obtain ⟨r, hr⟩ : ∃ r, insB n ⟨6, A, B, T, d⟩ = r := ⟨_, rfl⟩
  have Hr := Box.mk hr
  rw [hr]
  clear hb hC hW hg hr
  go_enter Tryd.func37, Tryd.ntmps37
  go_upto_region 1 with fail
  rw [HW.out, Hg.out]
  go_cut [0, 5] from 8 to 30 (fun p0 s w' => s = .bool (dEmp d) ∧ w' = W)
  case first =>
    go_wp2_with fail
    all_goals
      go_meet
      refine ⟨?_, rfl⟩
      go_light
      unfold dEmp
      simp_all
      try exact natbeq _
  case rest =>
    obtain ⟨rfl, hwc⟩ := hcut
    rw [hwc]
    clear hwc
    obtain ⟨de, hde⟩ : ∃ de, dEmp d = de := ⟨_, rfl⟩
    have Hde := Box.mk hde
    rw [hde]
    clear hde
    go_upto_region 2 with fail
    go_cut [0, 6] from 31 to 39 (fun p0 s w' => s = .bool (placeB A n) ∧ w' = W)
    case first =>
      go_wp2_with fail
      all_goals
        go_meet
        refine ⟨?_, rfl⟩
        go_light
        unfold placeB
        simp_all
        try (intros; omega)
    case rest =>
      obtain ⟨rfl, hwc⟩ := hcut
      rw [hwc]
      clear hwc
      obtain ⟨pl, hpl⟩ : ∃ pl, placeB A n = pl := ⟨_, rfl⟩
      have Hpl := Box.mk hpl
      rw [hpl]
      clear hpl
      obtain ⟨sy, hsy⟩ : ∃ sy, symS T.toList = sy := ⟨_, rfl⟩
      have HS := Box.mk (symbol7_is T W)
      rw [hsy] at HS
      have HI : Box (insB n ⟨6, A, B, T, d⟩ = ((A == 0) && (B == 0) && sy && de)) := ⟨by
        unfold insB
        rw [if_neg (show ¬ ((6 : Int) = 1) by decide), if_neg (show ¬ ((6 : Int) = 2 ∨ (6 : Int) = 4) by decide), if_pos (show (6 : Int) = 3 ∨ (6 : Int) = 5 ∨ (6 : Int) = 6 by decide)]
        dsimp only
        rw [Hde.out, hsy]⟩
      clear hsy
      go_wp2_with (go_at_call 45; refine HS.out.mono ?_; rintro e w' ⟨rfl, k2⟩)
      all_goals
        go_ret
        refine ⟨?_, by first | exact HK.out | exact HK.out.trans (Below.mono (by assumption) HK.out.size)⟩
        rw [← Hr.out, HI.out]
        go_light
        clear Hde Hpl HW Hg HCW HI HK Hr HS h0 h1 h2 h3 h4 h5 h6 h7
        simp_all

set_option maxHeartbeats 4000000 in
set_option maxRecDepth 100000 in
theorem may16_7 (A B : Int) (T : ByteArray) (d : Dat) (n : Nat) (w : World) {DA : Option Addr} {c : Nat} (hC : Kd.C datK w DA d.f3.length d.f3) (hc : d.f3.length ≤ c) (hs : dsz d ≤ 4000) (hn : n ≤ 8000) :
    Calls Tryd.prog 37 #[.agg #[.int .i64 7, .int .i64 A, .int .i64 B, .string T, .int .i64 d.f0, .int .i64 d.f1, .string d.f2, .slice DA d.f3.length c], .int .i64 n] w fun e w' => e = .returned (.bool (insB n ⟨7, A, B, T, d⟩)) ∧ Below w.heap.size w w' := by
  have HK := Box.mk ((Below.refl _ w).alloc (Nat.le_refl _) (.cells #[.int .i64 7, .int .i64 A, .int .i64 B, .string T, .int .i64 d.f0, .int .i64 d.f1, .string d.f2, .slice DA d.f3.length c] 44))
  have hb := heap_alloc_new w (.cells #[.int .i64 7, .int .i64 A, .int .i64 B, .string T, .int .i64 d.f0, .int .i64 d.f1, .string d.f2, .slice DA d.f3.length c] 44)
  obtain ⟨W, hW⟩ : ∃ W, w.alloc (.cells #[.int .i64 7, .int .i64 A, .int .i64 B, .string T, .int .i64 d.f0, .int .i64 d.f1, .string d.f2, .slice DA d.f3.length c] 44) = W := ⟨_, rfl⟩
  rw [hW] at HK hb
  have HCW := Box.mk (Kd.C_below hC HK.out)
  obtain ⟨g, hg⟩ : ∃ g, w.heap.size = g := ⟨_, rfl⟩
  rw [hg] at hb
  have h0 : W.cell? ⟨g, 0, none⟩ = some (.int .i64 7) := by rw [cell_of_heap hb]; rfl
  have h1 : W.cell? ⟨g, 1, none⟩ = some (.int .i64 A) := by rw [cell_of_heap hb]; rfl
  have h2 : W.cell? ⟨g, 2, none⟩ = some (.int .i64 B) := by rw [cell_of_heap hb]; rfl
  have h3 : W.cell? ⟨g, 3, none⟩ = some (.string T) := by rw [cell_of_heap hb]; rfl
  have h4 : W.cell? ⟨g, 4, none⟩ = some (.int .i64 d.f0) := by rw [cell_of_heap hb]; rfl
  have h5 : W.cell? ⟨g, 5, none⟩ = some (.int .i64 d.f1) := by rw [cell_of_heap hb]; rfl
  have h6 : W.cell? ⟨g, 6, none⟩ = some (.string d.f2) := by rw [cell_of_heap hb]; rfl
  have h7 : W.cell? ⟨g, 7, none⟩ = some (.slice DA d.f3.length c) := by rw [cell_of_heap hb]; rfl
  have HW := Box.mk hW
  have Hg := Box.mk hg
  obtain ⟨r, hr⟩ : ∃ r, insB n ⟨7, A, B, T, d⟩ = r := ⟨_, rfl⟩
  have Hr := Box.mk hr
  rw [hr]
  clear hb hC hW hg hr
  go_enter Tryd.func37, Tryd.ntmps37
  go_upto_region 1 with fail
  rw [HW.out, Hg.out]
  go_cut [0, 5] from 8 to 30 (fun p0 s w' => s = .bool (dEmp d) ∧ w' = W)
  case first =>
    go_wp2_with fail
    all_goals
      go_meet
      refine ⟨?_, rfl⟩
      go_light
      unfold dEmp
      simp_all
      try exact natbeq _
  case rest =>
    obtain ⟨rfl, hwc⟩ := hcut
    rw [hwc]
    clear hwc
    obtain ⟨de, hde⟩ : ∃ de, dEmp d = de := ⟨_, rfl⟩
    have Hde := Box.mk hde
    rw [hde]
    clear hde
    go_upto_region 2 with fail
    go_cut [0, 6] from 31 to 39 (fun p0 s w' => s = .bool (placeB A n) ∧ w' = W)
    case first =>
      go_wp2_with fail
      all_goals
        go_meet
        refine ⟨?_, rfl⟩
        go_light
        unfold placeB
        simp_all
        try (intros; omega)
    case rest =>
      obtain ⟨rfl, hwc⟩ := hcut
      rw [hwc]
      clear hwc
      obtain ⟨pl, hpl⟩ : ∃ pl, placeB A n = pl := ⟨_, rfl⟩
      have Hpl := Box.mk hpl
      rw [hpl]
      clear hpl
      have HI : Box (insB n ⟨7, A, B, T, d⟩ = (pl && (B == 0) && T.toList.isEmpty && de)) := ⟨by
        unfold insB
        rw [if_neg (show ¬ ((7 : Int) = 1) by decide), if_neg (show ¬ ((7 : Int) = 2 ∨ (7 : Int) = 4) by decide), if_neg (show ¬ ((7 : Int) = 3 ∨ (7 : Int) = 5 ∨ (7 : Int) = 6) by decide), if_neg (show ¬ ((7 : Int) = 9) by decide), if_pos (show (7 : Int) = 7 ∨ (7 : Int) = 8 ∨ (7 : Int) = 10 by decide)]
        dsimp only
        rw [Hde.out]
        try rw [← Hpl.out, placeB]
        try (first | rfl | ac_rfl)⟩
      go_wp2_with fail
      all_goals
        go_ret
        refine ⟨?_, HK.out⟩
        rw [← Hr.out, HI.out]
        go_light
        clear Hde Hpl HW Hg HCW HI HK Hr h0 h1 h2 h3 h4 h5 h6 h7
        simp_all
        try (intros; omega)

set_option maxHeartbeats 4000000 in
set_option maxRecDepth 100000 in
theorem may16_8 (A B : Int) (T : ByteArray) (d : Dat) (n : Nat) (w : World) {DA : Option Addr} {c : Nat} (hC : Kd.C datK w DA d.f3.length d.f3) (hc : d.f3.length ≤ c) (hs : dsz d ≤ 4000) (hn : n ≤ 8000) :
    Calls Tryd.prog 37 #[.agg #[.int .i64 8, .int .i64 A, .int .i64 B, .string T, .int .i64 d.f0, .int .i64 d.f1, .string d.f2, .slice DA d.f3.length c], .int .i64 n] w fun e w' => e = .returned (.bool (insB n ⟨8, A, B, T, d⟩)) ∧ Below w.heap.size w w' := by
  have HK := Box.mk ((Below.refl _ w).alloc (Nat.le_refl _) (.cells #[.int .i64 8, .int .i64 A, .int .i64 B, .string T, .int .i64 d.f0, .int .i64 d.f1, .string d.f2, .slice DA d.f3.length c] 44))
  have hb := heap_alloc_new w (.cells #[.int .i64 8, .int .i64 A, .int .i64 B, .string T, .int .i64 d.f0, .int .i64 d.f1, .string d.f2, .slice DA d.f3.length c] 44)
  obtain ⟨W, hW⟩ : ∃ W, w.alloc (.cells #[.int .i64 8, .int .i64 A, .int .i64 B, .string T, .int .i64 d.f0, .int .i64 d.f1, .string d.f2, .slice DA d.f3.length c] 44) = W := ⟨_, rfl⟩
  rw [hW] at HK hb
  have HCW := Box.mk (Kd.C_below hC HK.out)
  obtain ⟨g, hg⟩ : ∃ g, w.heap.size = g := ⟨_, rfl⟩
  rw [hg] at hb
  have h0 : W.cell? ⟨g, 0, none⟩ = some (.int .i64 8) := by rw [cell_of_heap hb]; rfl
  have h1 : W.cell? ⟨g, 1, none⟩ = some (.int .i64 A) := by rw [cell_of_heap hb]; rfl
  have h2 : W.cell? ⟨g, 2, none⟩ = some (.int .i64 B) := by rw [cell_of_heap hb]; rfl
  have h3 : W.cell? ⟨g, 3, none⟩ = some (.string T) := by rw [cell_of_heap hb]; rfl
  have h4 : W.cell? ⟨g, 4, none⟩ = some (.int .i64 d.f0) := by rw [cell_of_heap hb]; rfl
  have h5 : W.cell? ⟨g, 5, none⟩ = some (.int .i64 d.f1) := by rw [cell_of_heap hb]; rfl
  have h6 : W.cell? ⟨g, 6, none⟩ = some (.string d.f2) := by rw [cell_of_heap hb]; rfl
  have h7 : W.cell? ⟨g, 7, none⟩ = some (.slice DA d.f3.length c) := by rw [cell_of_heap hb]; rfl
  have HW := Box.mk hW
  have Hg := Box.mk hg
  obtain ⟨r, hr⟩ : ∃ r, insB n ⟨8, A, B, T, d⟩ = r := ⟨_, rfl⟩
  have Hr := Box.mk hr
  rw [hr]
  clear hb hC hW hg hr
  go_enter Tryd.func37, Tryd.ntmps37
  go_upto_region 1 with fail
  rw [HW.out, Hg.out]
  go_cut [0, 5] from 8 to 30 (fun p0 s w' => s = .bool (dEmp d) ∧ w' = W)
  case first =>
    go_wp2_with fail
    all_goals
      go_meet
      refine ⟨?_, rfl⟩
      go_light
      unfold dEmp
      simp_all
      try exact natbeq _
  case rest =>
    obtain ⟨rfl, hwc⟩ := hcut
    rw [hwc]
    clear hwc
    obtain ⟨de, hde⟩ : ∃ de, dEmp d = de := ⟨_, rfl⟩
    have Hde := Box.mk hde
    rw [hde]
    clear hde
    go_upto_region 2 with fail
    go_cut [0, 6] from 31 to 39 (fun p0 s w' => s = .bool (placeB A n) ∧ w' = W)
    case first =>
      go_wp2_with fail
      all_goals
        go_meet
        refine ⟨?_, rfl⟩
        go_light
        unfold placeB
        simp_all
        try (intros; omega)
    case rest =>
      obtain ⟨rfl, hwc⟩ := hcut
      rw [hwc]
      clear hwc
      obtain ⟨pl, hpl⟩ : ∃ pl, placeB A n = pl := ⟨_, rfl⟩
      have Hpl := Box.mk hpl
      rw [hpl]
      clear hpl
      have HI : Box (insB n ⟨8, A, B, T, d⟩ = (pl && (B == 0) && T.toList.isEmpty && de)) := ⟨by
        unfold insB
        rw [if_neg (show ¬ ((8 : Int) = 1) by decide), if_neg (show ¬ ((8 : Int) = 2 ∨ (8 : Int) = 4) by decide), if_neg (show ¬ ((8 : Int) = 3 ∨ (8 : Int) = 5 ∨ (8 : Int) = 6) by decide), if_neg (show ¬ ((8 : Int) = 9) by decide), if_pos (show (8 : Int) = 7 ∨ (8 : Int) = 8 ∨ (8 : Int) = 10 by decide)]
        dsimp only
        rw [Hde.out]
        try rw [← Hpl.out, placeB]
        try (first | rfl | ac_rfl)⟩
      go_wp2_with fail
      all_goals
        go_ret
        refine ⟨?_, HK.out⟩
        rw [← Hr.out, HI.out]
        go_light
        clear Hde Hpl HW Hg HCW HI HK Hr h0 h1 h2 h3 h4 h5 h6 h7
        simp_all
        try (intros; omega)

set_option maxHeartbeats 4000000 in
set_option maxRecDepth 100000 in
theorem may16_9 (A B : Int) (T : ByteArray) (d : Dat) (n : Nat) (w : World) {DA : Option Addr} {c : Nat} (hC : Kd.C datK w DA d.f3.length d.f3) (hc : d.f3.length ≤ c) (hs : dsz d ≤ 4000) (hn : n ≤ 8000) :
    Calls Tryd.prog 37 #[.agg #[.int .i64 9, .int .i64 A, .int .i64 B, .string T, .int .i64 d.f0, .int .i64 d.f1, .string d.f2, .slice DA d.f3.length c], .int .i64 n] w fun e w' => e = .returned (.bool (insB n ⟨9, A, B, T, d⟩)) ∧ Below w.heap.size w w' := by
  have HK := Box.mk ((Below.refl _ w).alloc (Nat.le_refl _) (.cells #[.int .i64 9, .int .i64 A, .int .i64 B, .string T, .int .i64 d.f0, .int .i64 d.f1, .string d.f2, .slice DA d.f3.length c] 44))
  have hb := heap_alloc_new w (.cells #[.int .i64 9, .int .i64 A, .int .i64 B, .string T, .int .i64 d.f0, .int .i64 d.f1, .string d.f2, .slice DA d.f3.length c] 44)
  obtain ⟨W, hW⟩ : ∃ W, w.alloc (.cells #[.int .i64 9, .int .i64 A, .int .i64 B, .string T, .int .i64 d.f0, .int .i64 d.f1, .string d.f2, .slice DA d.f3.length c] 44) = W := ⟨_, rfl⟩
  rw [hW] at HK hb
  have HCW := Box.mk (Kd.C_below hC HK.out)
  obtain ⟨g, hg⟩ : ∃ g, w.heap.size = g := ⟨_, rfl⟩
  rw [hg] at hb
  have h0 : W.cell? ⟨g, 0, none⟩ = some (.int .i64 9) := by rw [cell_of_heap hb]; rfl
  have h1 : W.cell? ⟨g, 1, none⟩ = some (.int .i64 A) := by rw [cell_of_heap hb]; rfl
  have h2 : W.cell? ⟨g, 2, none⟩ = some (.int .i64 B) := by rw [cell_of_heap hb]; rfl
  have h3 : W.cell? ⟨g, 3, none⟩ = some (.string T) := by rw [cell_of_heap hb]; rfl
  have h4 : W.cell? ⟨g, 4, none⟩ = some (.int .i64 d.f0) := by rw [cell_of_heap hb]; rfl
  have h5 : W.cell? ⟨g, 5, none⟩ = some (.int .i64 d.f1) := by rw [cell_of_heap hb]; rfl
  have h6 : W.cell? ⟨g, 6, none⟩ = some (.string d.f2) := by rw [cell_of_heap hb]; rfl
  have h7 : W.cell? ⟨g, 7, none⟩ = some (.slice DA d.f3.length c) := by rw [cell_of_heap hb]; rfl
  have HW := Box.mk hW
  have Hg := Box.mk hg
  obtain ⟨r, hr⟩ : ∃ r, insB n ⟨9, A, B, T, d⟩ = r := ⟨_, rfl⟩
  have Hr := Box.mk hr
  rw [hr]
  clear hb hC hW hg hr
  go_enter Tryd.func37, Tryd.ntmps37
  go_upto_region 1 with fail
  rw [HW.out, Hg.out]
  go_cut [0, 5] from 8 to 30 (fun p0 s w' => s = .bool (dEmp d) ∧ w' = W)
  case first =>
    go_wp2_with fail
    all_goals
      go_meet
      refine ⟨?_, rfl⟩
      go_light
      unfold dEmp
      simp_all
      try exact natbeq _
  case rest =>
    obtain ⟨rfl, hwc⟩ := hcut
    rw [hwc]
    clear hwc
    obtain ⟨de, hde⟩ : ∃ de, dEmp d = de := ⟨_, rfl⟩
    have Hde := Box.mk hde
    rw [hde]
    clear hde
    go_upto_region 2 with fail
    go_cut [0, 6] from 31 to 39 (fun p0 s w' => s = .bool (placeB A n) ∧ w' = W)
    case first =>
      go_wp2_with fail
      all_goals
        go_meet
        refine ⟨?_, rfl⟩
        go_light
        unfold placeB
        simp_all
        try (intros; omega)
    case rest =>
      obtain ⟨rfl, hwc⟩ := hcut
      rw [hwc]
      clear hwc
      obtain ⟨pl, hpl⟩ : ∃ pl, placeB A n = pl := ⟨_, rfl⟩
      have Hpl := Box.mk hpl
      rw [hpl]
      clear hpl
      have HI : Box (insB n ⟨9, A, B, T, d⟩ = (pl && decide (0 ≤ B) && decide (B ≤ 49) && (B != 1) && T.toList.isEmpty && de)) := ⟨by
        unfold insB
        rw [if_neg (show ¬ ((9 : Int) = 1) by decide), if_neg (show ¬ ((9 : Int) = 2 ∨ (9 : Int) = 4) by decide), if_neg (show ¬ ((9 : Int) = 3 ∨ (9 : Int) = 5 ∨ (9 : Int) = 6) by decide), if_pos (show (9 : Int) = 9 by decide)]
        dsimp only
        rw [Hde.out]
        try rw [← Hpl.out, placeB]
        try (first | rfl | ac_rfl)⟩
      go_wp2_with fail
      all_goals
        go_ret
        refine ⟨?_, HK.out⟩
        rw [← Hr.out, HI.out]
        go_light
        clear Hde Hpl HW Hg HCW HI HK Hr h0 h1 h2 h3 h4 h5 h6 h7
        simp_all
        try (intros; omega)

set_option maxHeartbeats 4000000 in
set_option maxRecDepth 100000 in
theorem may16_10 (A B : Int) (T : ByteArray) (d : Dat) (n : Nat) (w : World) {DA : Option Addr} {c : Nat} (hC : Kd.C datK w DA d.f3.length d.f3) (hc : d.f3.length ≤ c) (hs : dsz d ≤ 4000) (hn : n ≤ 8000) :
    Calls Tryd.prog 37 #[.agg #[.int .i64 10, .int .i64 A, .int .i64 B, .string T, .int .i64 d.f0, .int .i64 d.f1, .string d.f2, .slice DA d.f3.length c], .int .i64 n] w fun e w' => e = .returned (.bool (insB n ⟨10, A, B, T, d⟩)) ∧ Below w.heap.size w w' := by
  have HK := Box.mk ((Below.refl _ w).alloc (Nat.le_refl _) (.cells #[.int .i64 10, .int .i64 A, .int .i64 B, .string T, .int .i64 d.f0, .int .i64 d.f1, .string d.f2, .slice DA d.f3.length c] 44))
  have hb := heap_alloc_new w (.cells #[.int .i64 10, .int .i64 A, .int .i64 B, .string T, .int .i64 d.f0, .int .i64 d.f1, .string d.f2, .slice DA d.f3.length c] 44)
  obtain ⟨W, hW⟩ : ∃ W, w.alloc (.cells #[.int .i64 10, .int .i64 A, .int .i64 B, .string T, .int .i64 d.f0, .int .i64 d.f1, .string d.f2, .slice DA d.f3.length c] 44) = W := ⟨_, rfl⟩
  rw [hW] at HK hb
  have HCW := Box.mk (Kd.C_below hC HK.out)
  obtain ⟨g, hg⟩ : ∃ g, w.heap.size = g := ⟨_, rfl⟩
  rw [hg] at hb
  have h0 : W.cell? ⟨g, 0, none⟩ = some (.int .i64 10) := by rw [cell_of_heap hb]; rfl
  have h1 : W.cell? ⟨g, 1, none⟩ = some (.int .i64 A) := by rw [cell_of_heap hb]; rfl
  have h2 : W.cell? ⟨g, 2, none⟩ = some (.int .i64 B) := by rw [cell_of_heap hb]; rfl
  have h3 : W.cell? ⟨g, 3, none⟩ = some (.string T) := by rw [cell_of_heap hb]; rfl
  have h4 : W.cell? ⟨g, 4, none⟩ = some (.int .i64 d.f0) := by rw [cell_of_heap hb]; rfl
  have h5 : W.cell? ⟨g, 5, none⟩ = some (.int .i64 d.f1) := by rw [cell_of_heap hb]; rfl
  have h6 : W.cell? ⟨g, 6, none⟩ = some (.string d.f2) := by rw [cell_of_heap hb]; rfl
  have h7 : W.cell? ⟨g, 7, none⟩ = some (.slice DA d.f3.length c) := by rw [cell_of_heap hb]; rfl
  have HW := Box.mk hW
  have Hg := Box.mk hg
  obtain ⟨r, hr⟩ : ∃ r, insB n ⟨10, A, B, T, d⟩ = r := ⟨_, rfl⟩
  have Hr := Box.mk hr
  rw [hr]
  clear hb hC hW hg hr
  go_enter Tryd.func37, Tryd.ntmps37
  go_upto_region 1 with fail
  rw [HW.out, Hg.out]
  go_cut [0, 5] from 8 to 30 (fun p0 s w' => s = .bool (dEmp d) ∧ w' = W)
  case first =>
    go_wp2_with fail
    all_goals
      go_meet
      refine ⟨?_, rfl⟩
      go_light
      unfold dEmp
      simp_all
      try exact natbeq _
  case rest =>
    obtain ⟨rfl, hwc⟩ := hcut
    rw [hwc]
    clear hwc
    obtain ⟨de, hde⟩ : ∃ de, dEmp d = de := ⟨_, rfl⟩
    have Hde := Box.mk hde
    rw [hde]
    clear hde
    go_upto_region 2 with fail
    go_cut [0, 6] from 31 to 39 (fun p0 s w' => s = .bool (placeB A n) ∧ w' = W)
    case first =>
      go_wp2_with fail
      all_goals
        go_meet
        refine ⟨?_, rfl⟩
        go_light
        unfold placeB
        simp_all
        try (intros; omega)
    case rest =>
      obtain ⟨rfl, hwc⟩ := hcut
      rw [hwc]
      clear hwc
      obtain ⟨pl, hpl⟩ : ∃ pl, placeB A n = pl := ⟨_, rfl⟩
      have Hpl := Box.mk hpl
      rw [hpl]
      clear hpl
      have HI : Box (insB n ⟨10, A, B, T, d⟩ = (pl && (B == 0) && T.toList.isEmpty && de)) := ⟨by
        unfold insB
        rw [if_neg (show ¬ ((10 : Int) = 1) by decide), if_neg (show ¬ ((10 : Int) = 2 ∨ (10 : Int) = 4) by decide), if_neg (show ¬ ((10 : Int) = 3 ∨ (10 : Int) = 5 ∨ (10 : Int) = 6) by decide), if_neg (show ¬ ((10 : Int) = 9) by decide), if_pos (show (10 : Int) = 7 ∨ (10 : Int) = 8 ∨ (10 : Int) = 10 by decide)]
        dsimp only
        rw [Hde.out]
        try rw [← Hpl.out, placeB]
        try (first | rfl | ac_rfl)⟩
      go_wp2_with fail
      all_goals
        go_ret
        refine ⟨?_, HK.out⟩
        rw [← Hr.out, HI.out]
        go_light
        clear Hde Hpl HW Hg HCW HI HK Hr h0 h1 h2 h3 h4 h5 h6 h7
        simp_all
        try (intros; omega)

set_option maxHeartbeats 4000000 in
set_option maxRecDepth 100000 in
theorem may16_11 (A B : Int) (T : ByteArray) (d : Dat) (n : Nat) (w : World) {DA : Option Addr} {c : Nat} (hC : Kd.C datK w DA d.f3.length d.f3) (hc : d.f3.length ≤ c) (hs : dsz d ≤ 4000) (hn : n ≤ 8000) :
    Calls Tryd.prog 37 #[.agg #[.int .i64 11, .int .i64 A, .int .i64 B, .string T, .int .i64 d.f0, .int .i64 d.f1, .string d.f2, .slice DA d.f3.length c], .int .i64 n] w fun e w' => e = .returned (.bool (insB n ⟨11, A, B, T, d⟩)) ∧ Below w.heap.size w w' := by
  have HK := Box.mk ((Below.refl _ w).alloc (Nat.le_refl _) (.cells #[.int .i64 11, .int .i64 A, .int .i64 B, .string T, .int .i64 d.f0, .int .i64 d.f1, .string d.f2, .slice DA d.f3.length c] 44))
  have hb := heap_alloc_new w (.cells #[.int .i64 11, .int .i64 A, .int .i64 B, .string T, .int .i64 d.f0, .int .i64 d.f1, .string d.f2, .slice DA d.f3.length c] 44)
  obtain ⟨W, hW⟩ : ∃ W, w.alloc (.cells #[.int .i64 11, .int .i64 A, .int .i64 B, .string T, .int .i64 d.f0, .int .i64 d.f1, .string d.f2, .slice DA d.f3.length c] 44) = W := ⟨_, rfl⟩
  rw [hW] at HK hb
  have HCW := Box.mk (Kd.C_below hC HK.out)
  obtain ⟨g, hg⟩ : ∃ g, w.heap.size = g := ⟨_, rfl⟩
  rw [hg] at hb
  have h0 : W.cell? ⟨g, 0, none⟩ = some (.int .i64 11) := by rw [cell_of_heap hb]; rfl
  have h1 : W.cell? ⟨g, 1, none⟩ = some (.int .i64 A) := by rw [cell_of_heap hb]; rfl
  have h2 : W.cell? ⟨g, 2, none⟩ = some (.int .i64 B) := by rw [cell_of_heap hb]; rfl
  have h3 : W.cell? ⟨g, 3, none⟩ = some (.string T) := by rw [cell_of_heap hb]; rfl
  have h4 : W.cell? ⟨g, 4, none⟩ = some (.int .i64 d.f0) := by rw [cell_of_heap hb]; rfl
  have h5 : W.cell? ⟨g, 5, none⟩ = some (.int .i64 d.f1) := by rw [cell_of_heap hb]; rfl
  have h6 : W.cell? ⟨g, 6, none⟩ = some (.string d.f2) := by rw [cell_of_heap hb]; rfl
  have h7 : W.cell? ⟨g, 7, none⟩ = some (.slice DA d.f3.length c) := by rw [cell_of_heap hb]; rfl
  have HW := Box.mk hW
  have Hg := Box.mk hg
  obtain ⟨r, hr⟩ : ∃ r, insB n ⟨11, A, B, T, d⟩ = r := ⟨_, rfl⟩
  have Hr := Box.mk hr
  rw [hr]
  clear hb hC hW hg hr
  go_enter Tryd.func37, Tryd.ntmps37
  go_upto_region 1 with fail
  rw [HW.out, Hg.out]
  go_cut [0, 5] from 8 to 30 (fun p0 s w' => s = .bool (dEmp d) ∧ w' = W)
  case first =>
    go_wp2_with fail
    all_goals
      go_meet
      refine ⟨?_, rfl⟩
      go_light
      unfold dEmp
      simp_all
      try exact natbeq _
  case rest =>
    obtain ⟨rfl, hwc⟩ := hcut
    rw [hwc]
    clear hwc
    obtain ⟨de, hde⟩ : ∃ de, dEmp d = de := ⟨_, rfl⟩
    have Hde := Box.mk hde
    rw [hde]
    clear hde
    go_upto_region 2 with fail
    go_cut [0, 6] from 31 to 39 (fun p0 s w' => s = .bool (placeB A n) ∧ w' = W)
    case first =>
      go_wp2_with fail
      all_goals
        go_meet
        refine ⟨?_, rfl⟩
        go_light
        unfold placeB
        simp_all
        try (intros; omega)
    case rest =>
      obtain ⟨rfl, hwc⟩ := hcut
      rw [hwc]
      clear hwc
      obtain ⟨pl, hpl⟩ : ∃ pl, placeB A n = pl := ⟨_, rfl⟩
      have Hpl := Box.mk hpl
      rw [hpl]
      clear hpl
      have HI : Box (insB n ⟨11, A, B, T, d⟩ = ((A == 0) && (B == 0) && T.toList.isEmpty && de)) := ⟨by
        unfold insB
        rw [if_neg (show ¬ ((11 : Int) = 1) by decide), if_neg (show ¬ ((11 : Int) = 2 ∨ (11 : Int) = 4) by decide), if_neg (show ¬ ((11 : Int) = 3 ∨ (11 : Int) = 5 ∨ (11 : Int) = 6) by decide), if_neg (show ¬ ((11 : Int) = 9) by decide), if_neg (show ¬ ((11 : Int) = 7 ∨ (11 : Int) = 8 ∨ (11 : Int) = 10) by decide), if_neg (show ¬ ((11 : Int) = 12 ∨ (11 : Int) = 13) by decide), if_pos (show (11 : Int) = 11 ∨ (11 : Int) = 14 by decide)]
        dsimp only
        rw [Hde.out]
        try rw [← Hpl.out, placeB]
        try (first | rfl | ac_rfl)⟩
      go_wp2_with fail
      all_goals
        go_ret
        refine ⟨?_, HK.out⟩
        rw [← Hr.out, HI.out]
        go_light
        clear Hde Hpl HW Hg HCW HI HK Hr h0 h1 h2 h3 h4 h5 h6 h7
        simp_all
        try (intros; omega)

set_option maxHeartbeats 4000000 in
set_option maxRecDepth 100000 in
theorem may16_12 (A B : Int) (T : ByteArray) (d : Dat) (n : Nat) (w : World) {DA : Option Addr} {c : Nat} (hC : Kd.C datK w DA d.f3.length d.f3) (hc : d.f3.length ≤ c) (hs : dsz d ≤ 4000) (hn : n ≤ 8000) :
    Calls Tryd.prog 37 #[.agg #[.int .i64 12, .int .i64 A, .int .i64 B, .string T, .int .i64 d.f0, .int .i64 d.f1, .string d.f2, .slice DA d.f3.length c], .int .i64 n] w fun e w' => e = .returned (.bool (insB n ⟨12, A, B, T, d⟩)) ∧ Below w.heap.size w w' := by
  have HK := Box.mk ((Below.refl _ w).alloc (Nat.le_refl _) (.cells #[.int .i64 12, .int .i64 A, .int .i64 B, .string T, .int .i64 d.f0, .int .i64 d.f1, .string d.f2, .slice DA d.f3.length c] 44))
  have hb := heap_alloc_new w (.cells #[.int .i64 12, .int .i64 A, .int .i64 B, .string T, .int .i64 d.f0, .int .i64 d.f1, .string d.f2, .slice DA d.f3.length c] 44)
  obtain ⟨W, hW⟩ : ∃ W, w.alloc (.cells #[.int .i64 12, .int .i64 A, .int .i64 B, .string T, .int .i64 d.f0, .int .i64 d.f1, .string d.f2, .slice DA d.f3.length c] 44) = W := ⟨_, rfl⟩
  rw [hW] at HK hb
  have HCW := Box.mk (Kd.C_below hC HK.out)
  obtain ⟨g, hg⟩ : ∃ g, w.heap.size = g := ⟨_, rfl⟩
  rw [hg] at hb
  have h0 : W.cell? ⟨g, 0, none⟩ = some (.int .i64 12) := by rw [cell_of_heap hb]; rfl
  have h1 : W.cell? ⟨g, 1, none⟩ = some (.int .i64 A) := by rw [cell_of_heap hb]; rfl
  have h2 : W.cell? ⟨g, 2, none⟩ = some (.int .i64 B) := by rw [cell_of_heap hb]; rfl
  have h3 : W.cell? ⟨g, 3, none⟩ = some (.string T) := by rw [cell_of_heap hb]; rfl
  have h4 : W.cell? ⟨g, 4, none⟩ = some (.int .i64 d.f0) := by rw [cell_of_heap hb]; rfl
  have h5 : W.cell? ⟨g, 5, none⟩ = some (.int .i64 d.f1) := by rw [cell_of_heap hb]; rfl
  have h6 : W.cell? ⟨g, 6, none⟩ = some (.string d.f2) := by rw [cell_of_heap hb]; rfl
  have h7 : W.cell? ⟨g, 7, none⟩ = some (.slice DA d.f3.length c) := by rw [cell_of_heap hb]; rfl
  have HW := Box.mk hW
  have Hg := Box.mk hg
  obtain ⟨r, hr⟩ : ∃ r, insB n ⟨12, A, B, T, d⟩ = r := ⟨_, rfl⟩
  have Hr := Box.mk hr
  rw [hr]
  clear hb hC hW hg hr
  go_enter Tryd.func37, Tryd.ntmps37
  go_upto_region 1 with fail
  rw [HW.out, Hg.out]
  go_cut [0, 5] from 8 to 30 (fun p0 s w' => s = .bool (dEmp d) ∧ w' = W)
  case first =>
    go_wp2_with fail
    all_goals
      go_meet
      refine ⟨?_, rfl⟩
      go_light
      unfold dEmp
      simp_all
      try exact natbeq _
  case rest =>
    obtain ⟨rfl, hwc⟩ := hcut
    rw [hwc]
    clear hwc
    obtain ⟨de, hde⟩ : ∃ de, dEmp d = de := ⟨_, rfl⟩
    have Hde := Box.mk hde
    rw [hde]
    clear hde
    go_upto_region 2 with fail
    go_cut [0, 6] from 31 to 39 (fun p0 s w' => s = .bool (placeB A n) ∧ w' = W)
    case first =>
      go_wp2_with fail
      all_goals
        go_meet
        refine ⟨?_, rfl⟩
        go_light
        unfold placeB
        simp_all
        try (intros; omega)
    case rest =>
      obtain ⟨rfl, hwc⟩ := hcut
      rw [hwc]
      clear hwc
      obtain ⟨pl, hpl⟩ : ∃ pl, placeB A n = pl := ⟨_, rfl⟩
      have Hpl := Box.mk hpl
      rw [hpl]
      clear hpl
      have HI : Box (insB n ⟨12, A, B, T, d⟩ = (decide (0 ≤ A) && decide (A ≤ 28) && (B == 0) && T.toList.isEmpty && de)) := ⟨by
        unfold insB
        rw [if_neg (show ¬ ((12 : Int) = 1) by decide), if_neg (show ¬ ((12 : Int) = 2 ∨ (12 : Int) = 4) by decide), if_neg (show ¬ ((12 : Int) = 3 ∨ (12 : Int) = 5 ∨ (12 : Int) = 6) by decide), if_neg (show ¬ ((12 : Int) = 9) by decide), if_neg (show ¬ ((12 : Int) = 7 ∨ (12 : Int) = 8 ∨ (12 : Int) = 10) by decide), if_pos (show (12 : Int) = 12 ∨ (12 : Int) = 13 by decide)]
        dsimp only
        rw [Hde.out]
        try rw [← Hpl.out, placeB]
        try (first | rfl | ac_rfl)⟩
      go_wp2_with fail
      all_goals
        go_ret
        refine ⟨?_, HK.out⟩
        rw [← Hr.out, HI.out]
        go_light
        clear Hde Hpl HW Hg HCW HI HK Hr h0 h1 h2 h3 h4 h5 h6 h7
        simp_all
        try (intros; omega)

set_option maxHeartbeats 4000000 in
set_option maxRecDepth 100000 in
theorem may16_13 (A B : Int) (T : ByteArray) (d : Dat) (n : Nat) (w : World) {DA : Option Addr} {c : Nat} (hC : Kd.C datK w DA d.f3.length d.f3) (hc : d.f3.length ≤ c) (hs : dsz d ≤ 4000) (hn : n ≤ 8000) :
    Calls Tryd.prog 37 #[.agg #[.int .i64 13, .int .i64 A, .int .i64 B, .string T, .int .i64 d.f0, .int .i64 d.f1, .string d.f2, .slice DA d.f3.length c], .int .i64 n] w fun e w' => e = .returned (.bool (insB n ⟨13, A, B, T, d⟩)) ∧ Below w.heap.size w w' := by
  have HK := Box.mk ((Below.refl _ w).alloc (Nat.le_refl _) (.cells #[.int .i64 13, .int .i64 A, .int .i64 B, .string T, .int .i64 d.f0, .int .i64 d.f1, .string d.f2, .slice DA d.f3.length c] 44))
  have hb := heap_alloc_new w (.cells #[.int .i64 13, .int .i64 A, .int .i64 B, .string T, .int .i64 d.f0, .int .i64 d.f1, .string d.f2, .slice DA d.f3.length c] 44)
  obtain ⟨W, hW⟩ : ∃ W, w.alloc (.cells #[.int .i64 13, .int .i64 A, .int .i64 B, .string T, .int .i64 d.f0, .int .i64 d.f1, .string d.f2, .slice DA d.f3.length c] 44) = W := ⟨_, rfl⟩
  rw [hW] at HK hb
  have HCW := Box.mk (Kd.C_below hC HK.out)
  obtain ⟨g, hg⟩ : ∃ g, w.heap.size = g := ⟨_, rfl⟩
  rw [hg] at hb
  have h0 : W.cell? ⟨g, 0, none⟩ = some (.int .i64 13) := by rw [cell_of_heap hb]; rfl
  have h1 : W.cell? ⟨g, 1, none⟩ = some (.int .i64 A) := by rw [cell_of_heap hb]; rfl
  have h2 : W.cell? ⟨g, 2, none⟩ = some (.int .i64 B) := by rw [cell_of_heap hb]; rfl
  have h3 : W.cell? ⟨g, 3, none⟩ = some (.string T) := by rw [cell_of_heap hb]; rfl
  have h4 : W.cell? ⟨g, 4, none⟩ = some (.int .i64 d.f0) := by rw [cell_of_heap hb]; rfl
  have h5 : W.cell? ⟨g, 5, none⟩ = some (.int .i64 d.f1) := by rw [cell_of_heap hb]; rfl
  have h6 : W.cell? ⟨g, 6, none⟩ = some (.string d.f2) := by rw [cell_of_heap hb]; rfl
  have h7 : W.cell? ⟨g, 7, none⟩ = some (.slice DA d.f3.length c) := by rw [cell_of_heap hb]; rfl
  have HW := Box.mk hW
  have Hg := Box.mk hg
  obtain ⟨r, hr⟩ : ∃ r, insB n ⟨13, A, B, T, d⟩ = r := ⟨_, rfl⟩
  have Hr := Box.mk hr
  rw [hr]
  clear hb hC hW hg hr
  go_enter Tryd.func37, Tryd.ntmps37
  go_upto_region 1 with fail
  rw [HW.out, Hg.out]
  go_cut [0, 5] from 8 to 30 (fun p0 s w' => s = .bool (dEmp d) ∧ w' = W)
  case first =>
    go_wp2_with fail
    all_goals
      go_meet
      refine ⟨?_, rfl⟩
      go_light
      unfold dEmp
      simp_all
      try exact natbeq _
  case rest =>
    obtain ⟨rfl, hwc⟩ := hcut
    rw [hwc]
    clear hwc
    obtain ⟨de, hde⟩ : ∃ de, dEmp d = de := ⟨_, rfl⟩
    have Hde := Box.mk hde
    rw [hde]
    clear hde
    go_upto_region 2 with fail
    go_cut [0, 6] from 31 to 39 (fun p0 s w' => s = .bool (placeB A n) ∧ w' = W)
    case first =>
      go_wp2_with fail
      all_goals
        go_meet
        refine ⟨?_, rfl⟩
        go_light
        unfold placeB
        simp_all
        try (intros; omega)
    case rest =>
      obtain ⟨rfl, hwc⟩ := hcut
      rw [hwc]
      clear hwc
      obtain ⟨pl, hpl⟩ : ∃ pl, placeB A n = pl := ⟨_, rfl⟩
      have Hpl := Box.mk hpl
      rw [hpl]
      clear hpl
      have HI : Box (insB n ⟨13, A, B, T, d⟩ = (decide (0 ≤ A) && decide (A ≤ 28) && (B == 0) && T.toList.isEmpty && de)) := ⟨by
        unfold insB
        rw [if_neg (show ¬ ((13 : Int) = 1) by decide), if_neg (show ¬ ((13 : Int) = 2 ∨ (13 : Int) = 4) by decide), if_neg (show ¬ ((13 : Int) = 3 ∨ (13 : Int) = 5 ∨ (13 : Int) = 6) by decide), if_neg (show ¬ ((13 : Int) = 9) by decide), if_neg (show ¬ ((13 : Int) = 7 ∨ (13 : Int) = 8 ∨ (13 : Int) = 10) by decide), if_pos (show (13 : Int) = 12 ∨ (13 : Int) = 13 by decide)]
        dsimp only
        rw [Hde.out]
        try rw [← Hpl.out, placeB]
        try (first | rfl | ac_rfl)⟩
      go_wp2_with fail
      all_goals
        go_ret
        refine ⟨?_, HK.out⟩
        rw [← Hr.out, HI.out]
        go_light
        clear Hde Hpl HW Hg HCW HI HK Hr h0 h1 h2 h3 h4 h5 h6 h7
        simp_all
        try (intros; omega)

set_option maxHeartbeats 4000000 in
set_option maxRecDepth 100000 in
theorem may16_14 (A B : Int) (T : ByteArray) (d : Dat) (n : Nat) (w : World) {DA : Option Addr} {c : Nat} (hC : Kd.C datK w DA d.f3.length d.f3) (hc : d.f3.length ≤ c) (hs : dsz d ≤ 4000) (hn : n ≤ 8000) :
    Calls Tryd.prog 37 #[.agg #[.int .i64 14, .int .i64 A, .int .i64 B, .string T, .int .i64 d.f0, .int .i64 d.f1, .string d.f2, .slice DA d.f3.length c], .int .i64 n] w fun e w' => e = .returned (.bool (insB n ⟨14, A, B, T, d⟩)) ∧ Below w.heap.size w w' := by
  have HK := Box.mk ((Below.refl _ w).alloc (Nat.le_refl _) (.cells #[.int .i64 14, .int .i64 A, .int .i64 B, .string T, .int .i64 d.f0, .int .i64 d.f1, .string d.f2, .slice DA d.f3.length c] 44))
  have hb := heap_alloc_new w (.cells #[.int .i64 14, .int .i64 A, .int .i64 B, .string T, .int .i64 d.f0, .int .i64 d.f1, .string d.f2, .slice DA d.f3.length c] 44)
  obtain ⟨W, hW⟩ : ∃ W, w.alloc (.cells #[.int .i64 14, .int .i64 A, .int .i64 B, .string T, .int .i64 d.f0, .int .i64 d.f1, .string d.f2, .slice DA d.f3.length c] 44) = W := ⟨_, rfl⟩
  rw [hW] at HK hb
  have HCW := Box.mk (Kd.C_below hC HK.out)
  obtain ⟨g, hg⟩ : ∃ g, w.heap.size = g := ⟨_, rfl⟩
  rw [hg] at hb
  have h0 : W.cell? ⟨g, 0, none⟩ = some (.int .i64 14) := by rw [cell_of_heap hb]; rfl
  have h1 : W.cell? ⟨g, 1, none⟩ = some (.int .i64 A) := by rw [cell_of_heap hb]; rfl
  have h2 : W.cell? ⟨g, 2, none⟩ = some (.int .i64 B) := by rw [cell_of_heap hb]; rfl
  have h3 : W.cell? ⟨g, 3, none⟩ = some (.string T) := by rw [cell_of_heap hb]; rfl
  have h4 : W.cell? ⟨g, 4, none⟩ = some (.int .i64 d.f0) := by rw [cell_of_heap hb]; rfl
  have h5 : W.cell? ⟨g, 5, none⟩ = some (.int .i64 d.f1) := by rw [cell_of_heap hb]; rfl
  have h6 : W.cell? ⟨g, 6, none⟩ = some (.string d.f2) := by rw [cell_of_heap hb]; rfl
  have h7 : W.cell? ⟨g, 7, none⟩ = some (.slice DA d.f3.length c) := by rw [cell_of_heap hb]; rfl
  have HW := Box.mk hW
  have Hg := Box.mk hg
  obtain ⟨r, hr⟩ : ∃ r, insB n ⟨14, A, B, T, d⟩ = r := ⟨_, rfl⟩
  have Hr := Box.mk hr
  rw [hr]
  clear hb hC hW hg hr
  go_enter Tryd.func37, Tryd.ntmps37
  go_upto_region 1 with fail
  rw [HW.out, Hg.out]
  go_cut [0, 5] from 8 to 30 (fun p0 s w' => s = .bool (dEmp d) ∧ w' = W)
  case first =>
    go_wp2_with fail
    all_goals
      go_meet
      refine ⟨?_, rfl⟩
      go_light
      unfold dEmp
      simp_all
      try exact natbeq _
  case rest =>
    obtain ⟨rfl, hwc⟩ := hcut
    rw [hwc]
    clear hwc
    obtain ⟨de, hde⟩ : ∃ de, dEmp d = de := ⟨_, rfl⟩
    have Hde := Box.mk hde
    rw [hde]
    clear hde
    go_upto_region 2 with fail
    go_cut [0, 6] from 31 to 39 (fun p0 s w' => s = .bool (placeB A n) ∧ w' = W)
    case first =>
      go_wp2_with fail
      all_goals
        go_meet
        refine ⟨?_, rfl⟩
        go_light
        unfold placeB
        simp_all
        try (intros; omega)
    case rest =>
      obtain ⟨rfl, hwc⟩ := hcut
      rw [hwc]
      clear hwc
      obtain ⟨pl, hpl⟩ : ∃ pl, placeB A n = pl := ⟨_, rfl⟩
      have Hpl := Box.mk hpl
      rw [hpl]
      clear hpl
      have HI : Box (insB n ⟨14, A, B, T, d⟩ = ((A == 0) && (B == 0) && T.toList.isEmpty && de)) := ⟨by
        unfold insB
        rw [if_neg (show ¬ ((14 : Int) = 1) by decide), if_neg (show ¬ ((14 : Int) = 2 ∨ (14 : Int) = 4) by decide), if_neg (show ¬ ((14 : Int) = 3 ∨ (14 : Int) = 5 ∨ (14 : Int) = 6) by decide), if_neg (show ¬ ((14 : Int) = 9) by decide), if_neg (show ¬ ((14 : Int) = 7 ∨ (14 : Int) = 8 ∨ (14 : Int) = 10) by decide), if_neg (show ¬ ((14 : Int) = 12 ∨ (14 : Int) = 13) by decide), if_pos (show (14 : Int) = 11 ∨ (14 : Int) = 14 by decide)]
        dsimp only
        rw [Hde.out]
        try rw [← Hpl.out, placeB]
        try (first | rfl | ac_rfl)⟩
      go_wp2_with fail
      all_goals
        go_ret
        refine ⟨?_, HK.out⟩
        rw [← Hr.out, HI.out]
        go_light
        clear Hde Hpl HW Hg HCW HI HK Hr h0 h1 h2 h3 h4 h5 h6 h7
        simp_all
        try (intros; omega)

set_option maxHeartbeats 4000000 in
set_option maxRecDepth 100000 in
theorem may16_no (op : Int) (e1 : ¬ op = 1) (e2 : ¬ op = 2) (e3 : ¬ op = 3) (e4 : ¬ op = 4) (e5 : ¬ op = 5) (e6 : ¬ op = 6) (e7 : ¬ op = 7) (e8 : ¬ op = 8) (e9 : ¬ op = 9) (e10 : ¬ op = 10) (e11 : ¬ op = 11) (e12 : ¬ op = 12) (e13 : ¬ op = 13) (e14 : ¬ op = 14) (A B : Int) (T : ByteArray) (d : Dat) (n : Nat) (w : World) {DA : Option Addr} {c : Nat} (hC : Kd.C datK w DA d.f3.length d.f3) (hc : d.f3.length ≤ c) (hs : dsz d ≤ 4000) (hn : n ≤ 8000) :
    Calls Tryd.prog 37 #[.agg #[.int .i64 op, .int .i64 A, .int .i64 B, .string T, .int .i64 d.f0, .int .i64 d.f1, .string d.f2, .slice DA d.f3.length c], .int .i64 n] w fun e w' => e = .returned (.bool (insB n ⟨op, A, B, T, d⟩)) ∧ Below w.heap.size w w' := by
  have HK := Box.mk ((Below.refl _ w).alloc (Nat.le_refl _) (.cells #[.int .i64 op, .int .i64 A, .int .i64 B, .string T, .int .i64 d.f0, .int .i64 d.f1, .string d.f2, .slice DA d.f3.length c] 44))
  have hb := heap_alloc_new w (.cells #[.int .i64 op, .int .i64 A, .int .i64 B, .string T, .int .i64 d.f0, .int .i64 d.f1, .string d.f2, .slice DA d.f3.length c] 44)
  obtain ⟨W, hW⟩ : ∃ W, w.alloc (.cells #[.int .i64 op, .int .i64 A, .int .i64 B, .string T, .int .i64 d.f0, .int .i64 d.f1, .string d.f2, .slice DA d.f3.length c] 44) = W := ⟨_, rfl⟩
  rw [hW] at HK hb
  have HCW := Box.mk (Kd.C_below hC HK.out)
  obtain ⟨g, hg⟩ : ∃ g, w.heap.size = g := ⟨_, rfl⟩
  rw [hg] at hb
  have h0 : W.cell? ⟨g, 0, none⟩ = some (.int .i64 op) := by rw [cell_of_heap hb]; rfl
  have h1 : W.cell? ⟨g, 1, none⟩ = some (.int .i64 A) := by rw [cell_of_heap hb]; rfl
  have h2 : W.cell? ⟨g, 2, none⟩ = some (.int .i64 B) := by rw [cell_of_heap hb]; rfl
  have h3 : W.cell? ⟨g, 3, none⟩ = some (.string T) := by rw [cell_of_heap hb]; rfl
  have h4 : W.cell? ⟨g, 4, none⟩ = some (.int .i64 d.f0) := by rw [cell_of_heap hb]; rfl
  have h5 : W.cell? ⟨g, 5, none⟩ = some (.int .i64 d.f1) := by rw [cell_of_heap hb]; rfl
  have h6 : W.cell? ⟨g, 6, none⟩ = some (.string d.f2) := by rw [cell_of_heap hb]; rfl
  have h7 : W.cell? ⟨g, 7, none⟩ = some (.slice DA d.f3.length c) := by rw [cell_of_heap hb]; rfl
  have HW := Box.mk hW
  have Hg := Box.mk hg
  obtain ⟨r, hr⟩ : ∃ r, insB n ⟨op, A, B, T, d⟩ = r := ⟨_, rfl⟩
  have Hr := Box.mk hr
  rw [hr]
  clear hb hC hW hg hr
  go_enter Tryd.func37, Tryd.ntmps37
  go_upto_region 1 with fail
  rw [HW.out, Hg.out]
  go_cut [0, 5] from 8 to 30 (fun p0 s w' => s = .bool (dEmp d) ∧ w' = W)
  case first =>
    go_wp2_with fail
    all_goals
      go_meet
      refine ⟨?_, rfl⟩
      go_light
      unfold dEmp
      simp_all
      try exact natbeq _
  case rest =>
    obtain ⟨rfl, hwc⟩ := hcut
    rw [hwc]
    clear hwc
    obtain ⟨de, hde⟩ : ∃ de, dEmp d = de := ⟨_, rfl⟩
    have Hde := Box.mk hde
    rw [hde]
    clear hde
    go_upto_region 2 with fail
    go_cut [0, 6] from 31 to 39 (fun p0 s w' => s = .bool (placeB A n) ∧ w' = W)
    case first =>
      go_wp2_with fail
      all_goals
        go_meet
        refine ⟨?_, rfl⟩
        go_light
        unfold placeB
        simp_all
        try (intros; omega)
    case rest =>
      obtain ⟨rfl, hwc⟩ := hcut
      rw [hwc]
      clear hwc
      obtain ⟨pl, hpl⟩ : ∃ pl, placeB A n = pl := ⟨_, rfl⟩
      have Hpl := Box.mk hpl
      rw [hpl]
      clear hpl
      have HI : Box (insB n ⟨op, A, B, T, d⟩ = false) := ⟨by
        unfold insB
        simp [e1, e2, e3, e4, e5, e6, e7, e8, e9, e10, e11, e12, e13, e14]⟩
      go_wp2_with fail
      all_goals
        go_ret
        refine ⟨?_, HK.out⟩
        rw [← Hr.out, HI.out]
        rfl

theorem may16_is {w : World} (x : Ins) (n : Nat) {DA : Option Addr} {c : Nat} (hC : Kd.C datK w DA x.f4.f3.length x.f4.f3) (hc : x.f4.f3.length ≤ c) (hs : dsz x.f4 ≤ 4000) (hn : n ≤ 8000) :
    Calls Tryd.prog 37 #[.agg #[.int .i64 x.f0, .int .i64 x.f1, .int .i64 x.f2, .string x.f3, .int .i64 x.f4.f0, .int .i64 x.f4.f1, .string x.f4.f2, .slice DA x.f4.f3.length c], .int .i64 n] w fun e w' => e = .returned (.bool (insB n x)) ∧ Below w.heap.size w w' := by
  obtain ⟨op, A, B, T, d⟩ := x
  dsimp only at hC hc hs ⊢
  by_cases k1 : op = 1
  · subst k1; exact may16_1 A B T d n w hC hc hs hn
  by_cases k2 : op = 2
  · subst k2; exact may16_2 A B T d n w hC hc hs hn
  by_cases k3 : op = 3
  · subst k3; exact may16_3 A B T d n w hC hc hs hn
  by_cases k4 : op = 4
  · subst k4; exact may16_4 A B T d n w hC hc hs hn
  by_cases k5 : op = 5
  · subst k5; exact may16_5 A B T d n w hC hc hs hn
  by_cases k6 : op = 6
  · subst k6; exact may16_6 A B T d n w hC hc hs hn
  by_cases k7 : op = 7
  · subst k7; exact may16_7 A B T d n w hC hc hs hn
  by_cases k8 : op = 8
  · subst k8; exact may16_8 A B T d n w hC hc hs hn
  by_cases k9 : op = 9
  · subst k9; exact may16_9 A B T d n w hC hc hs hn
  by_cases k10 : op = 10
  · subst k10; exact may16_10 A B T d n w hC hc hs hn
  by_cases k11 : op = 11
  · subst k11; exact may16_11 A B T d n w hC hc hs hn
  by_cases k12 : op = 12
  · subst k12; exact may16_12 A B T d n w hC hc hs hn
  by_cases k13 : op = 13
  · subst k13; exact may16_13 A B T d n w hC hc hs hn
  by_cases k14 : op = 14
  · subst k14; exact may16_14 A B T d n w hC hc hs hn
  exact may16_no op k1 k2 k3 k4 k5 k6 k7 k8 k9 k10 k11 k12 k13 k14 A B T d n w hC hc hs hn

end Go.Proofs.YtiimojpaeccajaaDoor
