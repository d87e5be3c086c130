/- Law 16's walk by its contract: code that goes well, run whichever way, stands where it may, with just what was pushed. -/
import Derived.Test.YtiimojpaeccajaaGreatDoorSafe
import Derived.Test.YtiimojpaeccajaaGreatDoorStOut
namespace Go.Proofs.YtiimojpaeccajaaGreatDoor
set_option linter.unusedVariables false
set_option linter.unusedSimpArgs false
open Go.RowKit Go.Proofs.YtiimojpaeccajaaGreatDoorW.PrintWords Go.Proofs.YtiimojpaeccajaaGreatDoorW.PrintLast Go.Proofs.YtiimojpaeccajaaGreatDoorW.PrintMore

def frC (l : List (Int × Int)) : List Value := l.flatMap fun q => [.int .i64 q.1, .int .i64 q.2]
theorem frC_len (l : List (Int × Int)) : (frC l).length = l.length * 2 := by
  induction l with
  | nil => rfl
  | cons a l ih => simp only [frC, List.flatMap_cons, List.length_append, List.length_cons, List.length_nil] at ih ⊢; omega
theorem frC_app (l : List (Int × Int)) (p : Int × Int) : frC (l ++ [p]) = frC l ++ [.int .i64 p.1, .int .i64 p.2] := by simp [frC]
theorem frC_top (l : List (Int × Int)) (p : Int × Int) : (frC (l ++ [p]))[l.length * 2]? = some (.int .i64 p.1) ∧ (frC (l ++ [p]))[l.length * 2 + 1]? = some (.int .i64 p.2) := by
  rw [frC_app, List.getElem?_append_right (by rw [frC_len]; omega), List.getElem?_append_right (by rw [frC_len]; omega), frC_len]
  constructor
  · rw [show l.length * 2 - l.length * 2 = 0 from by omega]; rfl
  · rw [show l.length * 2 + 1 - l.length * 2 = 1 from by omega]; rfl
theorem frC_set (l : List (Int × Int)) (p : Int × Int) (z : Int) : (frC (l ++ [p])).set (l.length * 2) (.int .i64 z) = frC (l ++ [(z, p.2)]) := by
  rw [frC_app, frC_app, List.set_append_right _ _ (by rw [frC_len]; omega), frC_len, show l.length * 2 - l.length * 2 = 0 from by omega]
  rfl
theorem WNN {l : List SIns} {i : Nat} {s : List Int} (h : StR l i s) : ∀ x ∈ s, 0 ≤ x := by
  induction h with
  | zero => simp
  | @next i j s t x h hx hj ih =>
    unfold stNext at hj
    have hst : s ≠ [] → 0 ≤ stop s := fun hne => ih _ (by
      unfold stop
      rw [List.getLastD_eq_getLast?, List.getLast?_eq_some_getLast hne]
      exact List.getLast_mem hne)
    split at hj
    · simp at hj; rcases hj with ⟨-, rfl⟩ | ⟨-, rfl⟩ <;> exact ih
    · split at hj
      · simp at hj; rw [hj.2]; exact ih
      · split at hj
        · simp at hj; rcases hj with ⟨-, rfl⟩ | ⟨-, rfl⟩
          · simp
          · exact ih
        · split at hj
          · simp at hj; rcases hj with ⟨-, rfl⟩ | ⟨-, rfl⟩
            · exact ih
            · intro x hx
              rcases List.mem_append.1 hx with hx | hx
              · exact ih x hx
              · rw [List.mem_singleton.1 hx]; omega
          · split at hj
            · simp at hj
              rw [hj.2]
              intro x hx
              rcases List.mem_append.1 hx with hx | hx
              · exact ih x (List.dropLast_subset _ hx)
              · rw [List.mem_singleton.1 hx]
                have := hst (stR_ne h)
                omega
            · split at hj
              · cases hj
              · simp at hj; rw [hj.2]; exact ih
theorem infoFrame : (Tryz.prog.info? 90).map (fun i => (i.zero, i.size, i.bytes)) = some (some (.agg #[.int .i64 0, .int .i64 0]), 2, 16) := by kernel_rfl

/-- Where a run stands, in memory. -/
structure WlkM (w : World) (B : Nat) (v : Value) (l : List SIns) (at_ : Nat) (fr : List (Int × Int)) : Prop where
  run : SRun l at_ fr
  row : w.ownsRow B 90 2 v fr.length (frC fr)
  val : ∃ g cap, v = .slice (some ⟨g, 0, none⟩) fr.length cap
theorem WlkM.below {w w' : World} {B : Nat} {v : Value} {l : List SIns} {at_ : Nat} {fr : List (Int × Int)} (h : WlkM w B v l at_ fr) (k : Below w.heap.size w w') : WlkM w' B v l at_ fr := ⟨h.run, own_below h.row k, h.val⟩

theorem below_dr {B : Nat} {a w : World} (h : Below B a w) (n : Nat) : Below B a (w.drewN n) := h.trans ⟨rfl, rfl, rfl, Nat.le_refl _, fun _ _ => rfl⟩
theorem below_ad {B : Nat} {a w : World} (h : Below B a w) (hB : B ≤ w.heap.size) (o : Obj) : Below B a (w.alloc o).drew := (h.alloc hB o).trans ⟨rfl, rfl, rfl, Nat.le_refl _, fun _ _ => rfl⟩
theorem WlkM.go {w : World} {B : Nat} {v : Value} {l : List SIns} {a t : Nat} {fr : List (Int × Int)} (h : WlkM w B v l a fr) (hs : SRun l t fr) : WlkM w B v l t fr := ⟨hs, h.row, h.val⟩

set_option maxHeartbeats 8000000 in
set_option maxRecDepth 100000 in
theorem walk_is (l : List Ins) (A : Option Addr) (c : Nat) (w : World) (hC : Kd.C insK w A l.length l) (hc : l.length ≤ c) (hchk : chkB l = true) (hw : StW (sL l)) (q : Nat) (hq : StR (sL l) q [0])
    (pa : Option Addr) (pc : Nat) (bs : List Bool) (hP : Kd.C Kd.bool w pa bs.length bs) (hpm : bs.length ≤ 400) :
    Calls Tryz.prog 23 #[.slice A l.length c, .int .i64 q, .slice pa bs.length pc] w fun e w' => e = .returned (.bool true) ∧ Below w.heap.size w w' := by
  have hn8 : l.length ≤ 8000 := by
    have h2 := hchk
    unfold chkB at h2
    simp only [Bool.and_eq_true, decide_eq_true_eq] at h2
    exact h2.1.2
  have HI : Box (∀ j, j < l.length → insB l.length (l.getD j insZ) = true) := ⟨fun j hj => by
    have h2 := hchk
    unfold chkB at h2
    simp only [Bool.and_eq_true] at h2
    exact (all_getDI _ _).1 h2.2 j hj⟩
  have HC := Box.mk hC
  have HP := Box.mk hP
  have HW := Box.mk hw
  have HQ := Box.mk hq
  obtain ⟨n, hn⟩ : ∃ n, l.length = n := ⟨_, rfl⟩
  have Hn := Box.mk hn
  obtain ⟨m, hm⟩ : ∃ m, bs.length = m := ⟨_, rfl⟩
  have Hm := Box.mk hm
  rw [hn] at hc hn8 HI ⊢
  rw [hm] at hpm ⊢
  have HR0 : Box (WlkM (w.alloc (.cells #[.int .i64 0, .int .i64 (-1)] 90)) w.heap.size (.slice (some ⟨w.heap.size, 0, none⟩) 1 1) (sL l) q [(0, -1)]) :=
    ⟨⟨srun_start hq, ⟨by simp [frC], .inr ⟨w.heap.size, 1, _, rfl, Nat.le_refl _, heap_alloc_new w _, by decide, by decide, by simp, by simp [frC]⟩⟩, ⟨_, _, rfl⟩⟩⟩
  have HK0 : Box (Below w.heap.size w (w.alloc (.cells #[.int .i64 0, .int .i64 (-1)] 90))) := ⟨(Below.refl _ w).alloc (Nat.le_refl _) _⟩
  clear hC hchk hn hm hP hw hq
  go_enter Tryz.func23, Tryz.ntmps23
  go_wp2_with fail
  go_loopw [15, 8, 7] (fun i p v wr => ∃ (j at_ : Nat) (fr : List (Int × Int)), j ≤ 400 ∧ i = .int .i64 j ∧ p = .int .i64 at_ ∧ Box (WlkM wr w.heap.size v (sL l) at_ fr) ∧ Box (Below w.heap.size w wr)) (fun i _ _ _ => 400 - (intOf i).toNat)
  case atStart => exact ⟨0, q, _, Nat.zero_le _, rfl, rfl, HR0, HK0⟩
  case round =>
    clear HR0 HK0 HQ
    obtain ⟨j, at_, fr, hj, rfl, rfl, HM, K⟩ := hrel
    by_cases hj4 : j < 400
    · have hj0 : (0 : Int) ≤ (j : Int) := by omega
      have ha0 : (0 : Int) ≤ (at_ : Int) := by omega
      obtain ⟨r, p, hfr⟩ := HM.out.run.top
      subst hfr
      obtain ⟨g, cap, hv⟩ := HM.out.val
      subst hv
      have hat : at_ < n := by
        have := HM.out.run.lt HW.out
        rw [sL_length, Hn.out] at this
        exact this
      have hr2 : r.length ≤ 199 := by
        have := HM.out.run.small HW.out
        rw [List.length_append, List.length_singleton] at this
        omega
      have hx := sL_get l (i := at_) (by rw [Hn.out]; exact hat)
      have hrow := HM.out.row
      have t0 := World.ownsRow.cellAt hrow (r.length * 2) (by rw [List.length_append, List.length_singleton]; omega)
      have t1 := World.ownsRow.cellAt hrow (r.length * 2 + 1) (by rw [List.length_append, List.length_singleton]; omega)
      have tf := World.ownsRow.frozenAt hrow (r.length * 2)
      rw [(frC_top r p).1] at t0
      rw [(frC_top r p).2] at t1
      have hgB : w.heap.size ≤ g := (hrow.lt g rfl).1
      have hgw : g < wr.heap.size := (hrow.lt g rfl).2
      have hcap : r.length + 1 ≤ cap := by
        rcases hrow.2 with ⟨h1, _⟩ | ⟨g', cap', cur, hv, _, _, h2, _⟩
        · cases h1
        · injection hv with h1 h2' h3
          rw [h3]
          rw [List.length_append, List.length_singleton] at h2
          exact h2
      obtain ⟨b, o, hA, hbl, hIy⟩ := isI_elem HC.out (i := at_) (by rw [Hn.out]; exact hat)
      subst hA
      have hy0 := HI.out at_ hat
      obtain ⟨y, hy⟩ : ∃ y, l.getD at_ insZ = y := ⟨_, rfl⟩
      rw [hy] at hIy hx hy0
      have hI' := hIy.below K.out
      obtain ⟨c0, c1, c2, c3⟩ := hI'.ex
      obtain ⟨DA, dc, c4, c5, c6, c7, -⟩ := hI'.dat.ex
      rw [Nat.add_assoc] at c5 c6 c7
      have HX := Box.mk hx
      have HY0 := Box.mk hy0
      have HM' : Box (WlkM wr w.heap.size (.slice (some ⟨g, 0, none⟩) (r.length + 1) cap) (sL l) at_ (r ++ [p])) := ⟨by
        have := HM.out
        rw [List.length_append, List.length_singleton] at this
        exact this⟩
      have hbw : b < wr.heap.size := hI'.lt
      rw [List.length_append, List.length_singleton] at *
      obtain ⟨k, hk⟩ : ∃ k, r.length = k := ⟨_, rfl⟩
      have Hk := Box.mk hk
      rw [hk] at t0 t1 tf hr2 hcap HM' ⊢
      have hpl : (((k + 1 : Nat) : Int) - 1) = (k : Int) := by omega
      obtain ⟨W, hW⟩ : ∃ W : World, W = wr.drew.alloc (.cells #[.int .i64 y.f0, .int .i64 y.f1, .int .i64 y.f2, .string y.f3, .int .i64 y.f4.f0, .int .i64 y.f4.f1, .string y.f4.f2, .slice DA y.f4.f3.length dc] 54) := ⟨_, rfl⟩
      clear hI' hIy hbl hrow HM hk hy0 hx hW W hy
      by_cases k8 : y.f0 = 8
      · rw [k8] at c0
        have h1 : ∃ t : Nat, t < n ∧ y.f1 = (t : Int) := by
          have := HY0.out
          unfold insB at this
          simp [k8] at this
          exact ⟨y.f1.toNat, by omega, by omega⟩
        obtain ⟨t, htn, hyt⟩ := h1
        have HMn : Box (WlkM wr w.heap.size (.slice (some ⟨g, 0, none⟩) (k + 1) cap) (sL l) t (r ++ [p])) := ⟨HM'.out.go (HM'.out.run.move HX.out (by unfold stNext sIns; simp [k8, hyt]))⟩
        rw [hyt] at c1
        generalize y.f2 = z2, y.f3 = z3, y.f4.f0 = z4, y.f4.f1 = z5, y.f4.f2 = z6, y.f4.f3.length = z7 at *
        clear k8 hyt HX HY0 HM'
        go_wp2_with fail
        go_region
        go_wp2_with fail
        go_roundw
        case rel => exact ⟨j + 1, t, r ++ [p], by omega, by go_num, by first | rfl | go_num, ⟨(HMn.out).below (below_ad (Below.refl _ wr) (Nat.le_refl _) _)⟩, ⟨below_ad K.out K.out.size _⟩⟩
        case measure => simp [intOf]; omega
      by_cases k7 : y.f0 = 7
      · rw [k7] at c0
        have h1 : ∃ t : Nat, t < n ∧ y.f1 = (t : Int) := by
          have := HY0.out
          unfold insB at this
          simp [k7] at this
          exact ⟨y.f1.toNat, by omega, by omega⟩
        obtain ⟨t, htn, hyt⟩ := h1
        have HMn : Box (WlkM wr w.heap.size (.slice (some ⟨g, 0, none⟩) (k + 1) cap) (sL l) t (r ++ [p])) := ⟨HM'.out.go (HM'.out.run.move HX.out (by unfold stNext sIns; simp [k7, hyt]))⟩
        have HMo : Box (WlkM wr w.heap.size (.slice (some ⟨g, 0, none⟩) (k + 1) cap) (sL l) (at_ + 1) (r ++ [p])) := ⟨HM'.out.go (HM'.out.run.move HX.out (by unfold stNext sIns; simp [k7]))⟩
        rw [hyt] at c1
        generalize y.f2 = z2, y.f3 = z3, y.f4.f0 = z4, y.f4.f1 = z5, y.f4.f2 = z6, y.f4.f3.length = z7 at *
        clear k7 hyt HX HY0 HM'
        by_cases hm0 : m = 0
        · subst hm0
          go_wp2_with fail
          go_region
          go_wp2_with fail
          go_roundw
          case rel => exact ⟨j + 1, at_ + 1, r ++ [p], by omega, by go_num, by first | rfl | go_num, ⟨(HMo.out).below (below_ad (Below.refl _ wr) (Nat.le_refl _) _)⟩, ⟨below_ad K.out K.out.size _⟩⟩
          case measure => simp [intOf]; omega
        · have hm1 : 0 < m := by omega
          clear hm0
          obtain ⟨pb, po, bv, hpa, hcb⟩ : ∃ pb po bv, pa = some ⟨pb, po, none⟩ ∧ wr.cell? ⟨pb, po + j % m, none⟩ = some (.bool bv) := by
            have hjm := Nat.mod_lt j hm1
            have hPw := Kd.C_below HP.out K.out
            obtain ⟨ad, h1, h2⟩ := Kd.at_bool hPw ((j % m : Nat) : Int) (by omega) (by rw [Hm.out]; omega)
            obtain ⟨ad', h1', h2'⟩ := Kd.at_bool hPw 0 (by omega) (by rw [Hm.out]; omega)
            rw [h1] at h1'
            injection h1' with h1'
            subst h1'
            obtain ⟨pb, po, sp⟩ := ad
            have hs := World.cell?_spot h2'
            have hsp : sp = none := by simpa [Addr.add] using hs
            subst hsp
            rw [Int.toNat_natCast, Addr.add_lit] at h2
            exact ⟨pb, po, _, h1, h2⟩
          have hpb := World.block_lt_of_cell? wr _ hcb
          have hmod : ((j : Int)).tmod (m : Int) = ((j % m : Nat) : Int) := by rw [Int.tmod_eq_emod_of_nonneg (by omega)]; rfl
          have hmodw : wrap64 ((j % m : Nat) : Int) = ((j % m : Nat) : Int) := by unfold wrap64; have := Nat.mod_lt j hm1; omega
          have hjm := Nat.mod_lt j hm1
          have hm0i : ¬ ((m : Int) = 0) := by omega
          subst hpa
          generalize j % m = jm at *
          cases bv with
          | true =>
            go_wp2_with fail
            go_region
            go_wp2_with fail
            go_roundw
            case rel => exact ⟨j + 1, t, r ++ [p], by omega, by go_num, by first | rfl | go_num, ⟨(HMn.out).below (below_ad (Below.refl _ wr) (Nat.le_refl _) _)⟩, ⟨below_ad K.out K.out.size _⟩⟩
            case measure => simp [intOf]; omega
          | false =>
            go_wp2_with fail
            go_region
            go_wp2_with fail
            go_roundw
            case rel => exact ⟨j + 1, at_ + 1, r ++ [p], by omega, by go_num, by first | rfl | go_num, ⟨(HMo.out).below (below_ad (Below.refl _ wr) (Nat.le_refl _) _)⟩, ⟨below_ad K.out K.out.size _⟩⟩
            case measure => simp [intOf]; omega
      by_cases k10 : y.f0 = 10
      · rw [k10] at c0
        have h1 : ∃ t : Nat, t < n ∧ y.f1 = (t : Int) := by
          have := HY0.out
          unfold insB at this
          simp [k10] at this
          exact ⟨y.f1.toNat, by omega, by omega⟩
        obtain ⟨t, htn, hyt⟩ := h1
        have HRn := Box.mk (HM'.out.run.frame HX.out (q := t) (by unfold sIns; exact k10) (by unfold sIns; exact hyt))
        have HRw := Box.mk HM'.out.row
        rw [List.length_append, List.length_singleton, Hk.out] at HRw
        rw [hyt] at c1
        generalize y.f2 = z2, y.f3 = z3, y.f4.f0 = z4, y.f4.f1 = z5, y.f4.f2 = z6, y.f4.f3.length = z7 at *
        obtain ⟨i0, hi, hz0', hz1, hz2⟩ := info_parts infoFrame
        have Hi := Box.mk (And.intro hi (And.intro hz0' (And.intro hz1 hz2)))
        clear k10 hyt HX HY0 HM' hi hz0' hz1 hz2
        go_wp2_with fail
        go_region
        obtain ⟨W, hW⟩ : ∃ W, (wr.alloc (.cells #[.int .i64 10, .int .i64 (t : Int), .int .i64 z2, .string z3, .int .i64 z4, .int .i64 z5, .string z6, .slice DA z7 dc] 54)).drew = W := ⟨_, rfl⟩
        have kW : Below wr.heap.size wr W := by rw [← hW]; exact below_ad (Below.refl _ wr) (Nat.le_refl _) _
        have x0 : W.cell? ⟨wr.heap.size, 0, none⟩ = some (.int .i64 10) := by rw [← hW]; show (wr.alloc _).cell? _ = _; rw [cell_of_heap (heap_alloc_new wr _)]; rfl
        have x1 : W.cell? ⟨wr.heap.size, 1, none⟩ = some (.int .i64 (t : Int)) := by rw [← hW]; show (wr.alloc _).cell? _ = _; rw [cell_of_heap (heap_alloc_new wr _)]; rfl
        have HRW := Box.mk (own_below HRw.out kW)
        have HKW := Box.mk (K.out.trans (kW.mono K.out.size))
        have hWs := kW.size
        have hws := K.out.size
        have HRR : Box (∃ u, W.heap[wr.heap.size]? = some u) := ⟨⟨_, by rw [← hW]; exact heap_alloc_new wr _⟩⟩
        rw [hW]
        clear hW kW c0 c1 c2 c3 c4 c5 c6 c7 t0 t1 tf HRw K
        go_wp2_with (at_builtin; refine wpList_append_lies _ rfl _ _ 91 rfl w.heap.size 90 i0 (.agg #[.int .i64 0, .int .i64 0]) 2 16 Tryz.underlying91 Hi.out.1 Hi.out.2.1 Hi.out.2.2.1 Hi.out.2.2.2 rfl (by decide) _ _ _ rfl (HRW.out.alloc _) ⟨W.heap.size, 0, none⟩ 1 1 [.int .i64 0, .int .i64 (t : Int)] rfl rfl ?c1 ?c2 (by decide) ?c3 ?c4 ?c5 _ rfl ?_)
        case c1 => exact World.news_of_block (cs := #[.int .i64 0, .int .i64 (t : Int)]) (t := 90) (fr := (0, 0)) (heap_alloc_new _ _)
        case c2 => intro u hu; simp at hu; rcases hu with rfl | rfl <;> rfl
        case c3 => unfold maxLen; omega
        case c4 => omega
        case c5 => simp; omega
        intro g5 cap5 w5 hown5 hgrow hat5 hlt5
        have hA : Below W.heap.size W (W.alloc (.cells #[.int .i64 0, .int .i64 (t : Int)] 90)) := (Below.refl _ W).alloc (Nat.le_refl _) _
        have K5 : Box (Below w.heap.size w w5) := ⟨(HKW.out.trans (hA.mono (by omega))).grown hgrow (by have := hA.size; omega) (fun q hq => (HRW.out.lt q hq).1)⟩
        have HM5 : Box (WlkM w5 w.heap.size (.slice (some ⟨g5, 0, none⟩) (k + 1 + 1) cap5) (sL l) (at_ + 1) (r ++ [p] ++ [(0, (t : Int))])) := ⟨HRn.out, by
          rw [frC_app, List.length_append, List.length_append, List.length_singleton, List.length_singleton, Hk.out]
          exact hown5, ⟨g5, cap5, by rw [List.length_append, List.length_append, List.length_singleton, List.length_singleton, Hk.out]⟩⟩
        clear hown5 hgrow hat5 hlt5 hA
        go_wp2_with fail
        go_roundw
        case rel => exact ⟨j + 1, at_ + 1, r ++ [p] ++ [(0, (t : Int))], by omega, by go_num, by first | rfl | go_num, HM5, K5⟩
        case measure => simp [intOf]; omega
      by_cases k11 : y.f0 = 11
      · rw [k11] at c0
        have HRn := Box.mk (HM'.out.run.push HX.out (by unfold sIns; exact k11))
        have HRw := Box.mk HM'.out.row
        rw [List.length_append, List.length_singleton, Hk.out] at HRw
        have hp0 : 0 ≤ p.1 := WNN HM'.out.run.st _ (by simp)
        have hp29 : p.1 ≤ 29 := by
          have := (HW.out _ _ HM'.out.run.st).2.2.1
          rw [stop_top] at this
          exact this
        have hwr : wrap64 (p.1 + 1) = p.1 + 1 := by unfold wrap64; omega
        generalize y.f1 = z1 at *
        generalize y.f2 = z2, y.f3 = z3, y.f4.f0 = z4, y.f4.f1 = z5, y.f4.f2 = z6, y.f4.f3.length = z7 at *
        clear k11 HX HY0 HM'
        go_wp2_with fail
        go_region
        obtain ⟨W, hW⟩ : ∃ W, (wr.alloc (.cells #[.int .i64 11, .int .i64 z1, .int .i64 z2, .string z3, .int .i64 z4, .int .i64 z5, .string z6, .slice DA z7 dc] 54)).drew = W := ⟨_, rfl⟩
        have kW : Below wr.heap.size wr W := by rw [← hW]; exact below_ad (Below.refl _ wr) (Nat.le_refl _) _
        have x0 : W.cell? ⟨wr.heap.size, 0, none⟩ = some (.int .i64 11) := by rw [← hW]; show (wr.alloc _).cell? _ = _; rw [cell_of_heap (heap_alloc_new wr _)]; rfl
        have HRW := Box.mk (own_below HRw.out kW)
        have HKW := Box.mk (K.out.trans (kW.mono K.out.size))
        have y0 := cell_below t0 kW
        have yf : W.frozen? ⟨g, k * 2, none⟩ = false := World.ownsRow.frozenAt HRW.out _
        have hstd := World.ownsRow.stored HRW.out (k * 2) (.int .i64 (p.1 + 1))
        rw [← Hk.out, frC_set] at hstd
        rw [Hk.out] at hstd
        have HM5 : Box (WlkM (W.setCell ⟨g, k * 2, none⟩ (.int .i64 (p.1 + 1))) w.heap.size (.slice (some ⟨g, 0, none⟩) (k + 1) cap) (sL l) (at_ + 1) (r ++ [(p.1 + 1, p.2)])) := ⟨HRn.out, by
          rw [List.length_append, List.length_singleton, Hk.out]
          exact hstd.1, ⟨g, cap, by rw [List.length_append, List.length_singleton, Hk.out]⟩⟩
        have K5 : Box (Below w.heap.size w (W.setCell ⟨g, k * 2, none⟩ (.int .i64 (p.1 + 1)))) := ⟨HKW.out.setCell (p := ⟨g, k * 2, none⟩) hgB _⟩
        rw [hW]
        clear hW kW c0 c1 c2 c3 c4 c5 c6 c7 t0 t1 tf HRw K HRW hstd HKW
        go_wp2_with fail
        go_roundw
        case rel => exact ⟨j + 1, at_ + 1, r ++ [(p.1 + 1, p.2)], by omega, by go_num, by first | rfl | go_num, HM5, K5⟩
        case measure => simp [intOf]; omega
      by_cases k12 : y.f0 = 12
      · rw [k12] at c0
        have h1 : ∃ t : Nat, t ≤ 28 ∧ y.f1 = (t : Int) := by
          have := HY0.out
          unfold insB at this
          simp [k12] at this
          exact ⟨y.f1.toNat, by omega, by omega⟩
        obtain ⟨t, ht28, hyt⟩ := h1
        obtain ⟨hc1, bk, hc2, hc3⟩ := HM'.out.run.call HW.out HX.out (by unfold sIns; exact k12)
        have hc1' : p.1 = (t : Int) + 1 := by rw [hc1]; unfold sIns; rw [hyt]
        have HRn := Box.mk hc3
        have HRw := Box.mk HM'.out.row
        rw [List.length_append, List.length_singleton, Hk.out] at HRw
        rw [hyt] at c1
        rw [hc1'] at t0
        rw [hc2] at t1
        clear hc1 hc2 hc3 hc1' hyt
        generalize y.f2 = z2, y.f3 = z3, y.f4.f0 = z4, y.f4.f1 = z5, y.f4.f2 = z6, y.f4.f3.length = z7 at *
        clear k12 HX HY0 HM'
        go_wp2_with fail
        go_region
        obtain ⟨W, hW⟩ : ∃ W, (wr.alloc (.cells #[.int .i64 12, .int .i64 (t : Int), .int .i64 z2, .string z3, .int .i64 z4, .int .i64 z5, .string z6, .slice DA z7 dc] 54)).drew = W := ⟨_, rfl⟩
        have kW : Below wr.heap.size wr W := by rw [← hW]; exact below_ad (Below.refl _ wr) (Nat.le_refl _) _
        have x0 : W.cell? ⟨wr.heap.size, 0, none⟩ = some (.int .i64 12) := by rw [← hW]; show (wr.alloc _).cell? _ = _; rw [cell_of_heap (heap_alloc_new wr _)]; rfl
        have x1 : W.cell? ⟨wr.heap.size, 1, none⟩ = some (.int .i64 (t : Int)) := by rw [← hW]; show (wr.alloc _).cell? _ = _; rw [cell_of_heap (heap_alloc_new wr _)]; rfl
        have HRW := Box.mk (own_below HRw.out kW)
        have HKW := Box.mk (K.out.trans (kW.mono K.out.size))
        have y0 := cell_below t0 kW
        have y1 := cell_below t1 kW
        have d1 : wrap64 ((t : Int) + 1) = (t : Int) + 1 := by unfold wrap64; omega
        have hbk0 : decide ((bk : Int) < 0) = false := by simp
        rw [hW]
        clear hW kW c0 c1 c2 c3 c4 c5 c6 c7 t0 t1 tf HRw K
        go_wp2_with fail
        go_quiet (fail)
        obtain ⟨W2, hW2⟩ : ∃ W2, W.drewN nq = W2 := ⟨_, rfl⟩
        have kW2 : Below W.heap.size W W2 := by rw [← hW2]; exact below_dr (Below.refl _ W) nq
        have z1' := cell_below y1 kW2
        have HKW2 := Box.mk (HKW.out.trans (kW2.mono HKW.out.size))
        have HM5 : Box (WlkM W2 w.heap.size (.slice (some ⟨g, 0, none⟩) k cap) (sL l) bk r) := ⟨HRn.out, by
          rw [Hk.out]
          refine ownsRow_pop (last := [.int .i64 p.1, .int .i64 p.2]) (by rw [frC_len, Hk.out]) ?_
          rw [← frC_app]
          exact own_below HRW.out kW2, ⟨g, cap, by rw [Hk.out]⟩⟩
        rw [hW2]
        clear hW2 kW2 HRW HKW y0 y1 x0 x1
        go_wp2_with fail
        go_roundw
        case rel => exact ⟨j + 1, bk, r, by omega, by go_num, by first | rfl | go_num, HM5, HKW2⟩
        case measure => simp [intOf]; omega
      by_cases k13 : y.f0 = 13
      · rw [k13] at c0
        have h1 : ∃ t : Nat, t ≤ 28 ∧ y.f1 = (t : Int) := by
          have := HY0.out
          unfold insB at this
          simp [k13] at this
          exact ⟨y.f1.toNat, by omega, by omega⟩
        obtain ⟨t, ht28, hyt⟩ := h1
        obtain ⟨hc1, hc2⟩ := HM'.out.run.tail HW.out HX.out (by unfold sIns; exact k13)
        have hc1' : p.1 = (t : Int) + 1 := by rw [hc1]; unfold sIns; rw [hyt]
        rw [hc1'] at t0
        rw [hc2] at t1
        rw [hyt] at c1
        clear hc1 hc2 hc1' hyt
        generalize y.f2 = z2, y.f3 = z3, y.f4.f0 = z4, y.f4.f1 = z5, y.f4.f2 = z6, y.f4.f3.length = z7 at *
        clear k13 HX HY0 HM'
        go_wp2_with fail
        go_region
        obtain ⟨W, hW⟩ : ∃ W, (wr.alloc (.cells #[.int .i64 13, .int .i64 (t : Int), .int .i64 z2, .string z3, .int .i64 z4, .int .i64 z5, .string z6, .slice DA z7 dc] 54)).drew = W := ⟨_, rfl⟩
        have kW : Below wr.heap.size wr W := by rw [← hW]; exact below_ad (Below.refl _ wr) (Nat.le_refl _) _
        have x0 : W.cell? ⟨wr.heap.size, 0, none⟩ = some (.int .i64 13) := by rw [← hW]; show (wr.alloc _).cell? _ = _; rw [cell_of_heap (heap_alloc_new wr _)]; rfl
        have x1 : W.cell? ⟨wr.heap.size, 1, none⟩ = some (.int .i64 (t : Int)) := by rw [← hW]; show (wr.alloc _).cell? _ = _; rw [cell_of_heap (heap_alloc_new wr _)]; rfl
        have d1 : wrap64 ((t : Int) + 1) = (t : Int) + 1 := by unfold wrap64; omega
        have HKW := Box.mk (K.out.trans (kW.mono K.out.size))
        have y0 := cell_below t0 kW
        have y1 := cell_below t1 kW
        rw [hW]
        clear hW kW c0 c1 c2 c3 c4 c5 c6 c7 t0 t1 tf K
        go_wp2_with fail
        go_quiet (fail)
        obtain ⟨W2, hW2⟩ : ∃ W2, W.drewN nq = W2 := ⟨_, rfl⟩
        have HKW2 : Box (Below w.heap.size w W2) := ⟨by rw [← hW2]; exact below_dr HKW.out nq⟩
        rw [hW2]
        clear hW2
        go_wp2_with fail
        go_ret
        exact ⟨rfl, HKW2.out⟩
      by_cases k14 : y.f0 = 14
      · rw [k14] at c0
        obtain ⟨hc1, hc2⟩ := HM'.out.run.ret HW.out HX.out (by unfold sIns; exact k14)
        have hc1' : p.1 = 0 := by rw [hc1]
        rw [hc1'] at t0
        rw [hc2] at t1
        generalize y.f1 = z1 at *
        clear hc1 hc2 hc1'
        generalize y.f2 = z2, y.f3 = z3, y.f4.f0 = z4, y.f4.f1 = z5, y.f4.f2 = z6, y.f4.f3.length = z7 at *
        clear k14 HX HY0 HM'
        go_wp2_with fail
        go_region
        obtain ⟨W, hW⟩ : ∃ W, (wr.alloc (.cells #[.int .i64 14, .int .i64 z1, .int .i64 z2, .string z3, .int .i64 z4, .int .i64 z5, .string z6, .slice DA z7 dc] 54)).drew = W := ⟨_, rfl⟩
        have kW : Below wr.heap.size wr W := by rw [← hW]; exact below_ad (Below.refl _ wr) (Nat.le_refl _) _
        have x0 : W.cell? ⟨wr.heap.size, 0, none⟩ = some (.int .i64 14) := by rw [← hW]; show (wr.alloc _).cell? _ = _; rw [cell_of_heap (heap_alloc_new wr _)]; rfl
        have HKW := Box.mk (K.out.trans (kW.mono K.out.size))
        have y0 := cell_below t0 kW
        have y1 := cell_below t1 kW
        rw [hW]
        clear hW kW c0 c1 c2 c3 c4 c5 c6 c7 t0 t1 tf K
        go_wp2_with fail
        go_ret
        exact ⟨rfl, HKW.out⟩
      have HMo : Box (WlkM wr w.heap.size (.slice (some ⟨g, 0, none⟩) (k + 1) cap) (sL l) (at_ + 1) (r ++ [p])) := ⟨HM'.out.go (HM'.out.run.move HX.out (by
        unfold stNext sIns
        by_cases k9 : y.f0 = 9
        · simp [k9]
        · simp [k7, k8, k9, k10, k11, k12, k13, k14]))⟩
      have d7 : decide (y.f0 = 7) = false := decide_eq_false k7
      have d8 : decide (y.f0 = 8) = false := decide_eq_false k8
      have d10 : decide (y.f0 = 10) = false := decide_eq_false k10
      have d11 : decide (y.f0 = 11) = false := decide_eq_false k11
      have d12 : decide (y.f0 = 12) = false := decide_eq_false k12
      have d13 : decide (y.f0 = 13) = false := decide_eq_false k13
      have d14 : decide (y.f0 = 14) = false := decide_eq_false k14
      generalize y.f0 = z0, y.f1 = z1 at *
      generalize y.f2 = z2, y.f3 = z3, y.f4.f0 = z4, y.f4.f1 = z5, y.f4.f2 = z6, y.f4.f3.length = z7 at *
      clear HX HY0 HM'
      go_wp2_with fail
      go_region
      go_wp2_with fail
      go_roundw
      case rel => exact ⟨j + 1, at_ + 1, r ++ [p], by omega, by go_num, by first | rfl | go_num, ⟨(HMo.out).below (below_ad (Below.refl _ wr) (Nat.le_refl _) _)⟩, ⟨below_ad K.out K.out.size _⟩⟩
      case measure => simp [intOf]; omega
    · have hj2 : j = 400 := by omega
      subst hj2
      go_wp2_with fail
      go_ret
      exact ⟨rfl, K.out⟩

end Go.Proofs.YtiimojpaeccajaaGreatDoor
