/- Part 9 of 11 of this proof's own texts, joined in build order by a program. -/
import Derived.Test.YtbjlapfcnldpoaaZ8
import Derived.Deep.QuietTactic
import Derived.BigQuiet
import Derived.Deep.RegionHeld3
/- Law 5's do: a new cell, a register's move, a number, nothing. -/
namespace Go.Proofs.Ytbjlapfcnldpoaa
set_option linter.unusedVariables false
set_option linter.unusedSimpArgs false
open Go.RowKit

theorem fixx_no (n : Int) (w : World) (h : n < -1152921504606846976 ∨ 1152921504606846975 < n) : Calls Try.prog 52 #[.int .i64 n] w fun e w' => e = .returned (.tuple #[.int .u64 0, .iface 97 (.int .i64 11)]) ∧ w' = w := by
  rcases h with h | h
  · go_enter Try.func52, Try.ntmps52
    go_wp2
    go_ret2
    exact ⟨rfl, rfl⟩
  · go_enter Try.func52, Try.ntmps52
    go_wp2
    go_ret2
    exact ⟨rfl, rfl⟩
theorem fixx_yes (n : Int) (w : World) (h0 : -1152921504606846976 ≤ n) (h1 : n ≤ 1152921504606846975) : Calls Try.prog 52 #[.int .i64 n] w fun e w' => e = .returned (.tuple #[.int .u64 (wput 0 n), .nilIface]) ∧ w' = w := by
  go_enter Try.func52, Try.ntmps52
  go_wp2_with (go_at_call 68; refine (wput_is _ _ _ (by omega) (by omega)).mono ?_; rintro e w' ⟨rfl, rfl⟩)
  go_ret2
  exact ⟨rfl, rfl⟩
theorem XSaid.from {w w0 w' : World} {xb hb b g n : Nat} {T : List Nat} {P' : PSt} {e : Ending} (h : XSaid w0 xb hb b g n T P' e w') (hs : FK xb hb b g n T n T w w0) : XSaid w xb hb b g n T P' e w' := by
  obtain ⟨h1, ⟨T', h2, h4, h3⟩⟩ := h
  exact ⟨h1, ⟨T', h2, hs.trans h4, h3.imp id (fun ⟨a, e, ha⟩ => ⟨a, e, Nat.le_trans hs.size ha⟩)⟩⟩
/-- set, with the whole. -/
theorem set_x {w : World} {xb hb b g r : Nat} {P : PSt} {T : List Nat} (hX : IsX w xb hb b g P T) (hr : r < 8) (v : PV) (hv : ∀ i, v = .ref i → i < P.G.all.length) (hx : pword P.U v < 18446744073709551616) (ht : tvalue P.s (pword P.U v) = true) :
    Calls Try.prog 83 #[.pointer (some ⟨xb, 0, none⟩), .int .i64 r, .agg #[.int .u64 (pvw v : Nat), pvp T v]] w (XSaid w xb hb b g P.G.all.length T (P.set r v)) := by
  refine (setx_is hX.rx hX.th hr v hv hx ht).mono ?_
  rintro e w' ⟨h1, h2, h3, h4, h5⟩
  refine ⟨h1, ⟨T, ⟨h2, h3, hX.sep.keepsT hX.rx h4 (fun z cs e hc => e.elim (fun e => hX.rx.xbT z cs e hc) (fun e => foot3_notT hX.th z cs e hc))⟩, (FK.refl xb hb b g P.G.all.length T w).step h4 (fun S _ h1 z hz => hz.elim (fun e => by rw [e]; exact h1.x) (fun e => h1.h z e)) h5 (fun i hi => h4.same (hX.rx.isTlt hi) (fun e => ?_)), Or.inl rfl⟩⟩
  obtain ⟨cs, hcs⟩ := hX.rx.isT hi
  exact e.elim (fun e => hX.rx.xbT _ cs e hcs) (fun e => foot3_notT hX.th _ cs e hcs)

set_option maxRecDepth 100000 in
set_option maxHeartbeats 4000000 in
theorem do_made1 {w : World} {xb hb b g : Nat} {P : PSt} {T : List Nat} {oa ob oc on : Int} {P' : PSt} (hX : IsX w xb hb b g P T) (hM : ∀ W, IsX W xb hb b g P T → Calls Try.prog 82 #[.pointer (some ⟨xb, 0, none⟩), .int .i64 (um oa 8 : Nat), .int .i64 1, .int .i64 (um on 128 : Nat), .slice none 0 0] W (XSaid W xb hb b g P.G.all.length T P')) :
    Calls Try.prog 29 #[.pointer (some ⟨xb, 0, none⟩), .agg #[.int .i64 1, .int .i64 oa, .int .i64 ob, .int .i64 oc, .int .i64 on]] w (XSaid w xb hb b g P.G.all.length T P') := by
  have hn := um_eq on 128 (by omega) (by omega)
  obtain ⟨m, hm⟩ : ∃ m, um on 128 = m := ⟨_, rfl⟩
  rw [hm] at hn hM
  have HM := Box.mk hM
  clear hM hm
  obtain ⟨wb, hwb⟩ : ∃ wb, w.alloc (.cells #[.int .i64 1, .int .i64 oa, .int .i64 ob, .int .i64 oc, .int .i64 on] 54) = wb := ⟨_, rfl⟩
  have kb : Keeps (fun _ => False) w wb := by rw [← hwb]; exact (Keeps.refl _ w).alloc _
  have hbx : wb.heap[w.heap.size]? = some (.cells #[.int .i64 1, .int .i64 oa, .int .i64 ob, .int .i64 oc, .int .i64 on] 54 (0, 0)) := by rw [← hwb]; exact heap_alloc_new w _
  obtain ⟨q, hq⟩ : ∃ q, w.heap.size = q := ⟨_, rfl⟩
  rw [hq] at hbx
  have b0 := cell_of_heap hbx 0
  have b1 := cell_of_heap hbx 1
  have b2 := cell_of_heap hbx 2
  have b3 := cell_of_heap hbx 3
  have b4 := cell_of_heap hbx 4
  simp only [List.getElem?_toArray, List.getElem?_cons_zero, List.getElem?_cons_succ] at b0 b1 b2 b3 b4
  have hra := um_eq oa 8 (by omega) (by omega)
  have hrb := um_eq ob 8 (by omega) (by omega)
  have hrc := um_eq oc 8 (by omega) (by omega)
  have hal : um oa 8 < 8 := um_lt oa 8 (by omega) (by omega)
  have hbl : um ob 8 < 8 := um_lt ob 8 (by omega) (by omega)
  obtain ⟨ra, hra2⟩ : ∃ r, um oa 8 = r := ⟨_, rfl⟩
  obtain ⟨rb, hrb2⟩ : ∃ r, um ob 8 = r := ⟨_, rfl⟩
  obtain ⟨rc, hrc2⟩ : ∃ r, um oc 8 = r := ⟨_, rfl⟩
  have hra' : wrap64 ((IntKind.u64.wrap oa).tmod 8) = (ra : Int) := by rw [← hra2]; exact hra
  have hrb' : wrap64 ((IntKind.u64.wrap ob).tmod 8) = (rb : Int) := by rw [← hrb2]; exact hrb
  have hrc' : wrap64 ((IntKind.u64.wrap oc).tmod 8) = (rc : Int) := by rw [← hrc2]; exact hrc
  have Hreg : Box ((∀ W, Calls Try.prog 81 #[.int .i64 oa] W fun e w' => e = .returned (.int .i64 ra) ∧ w' = W) ∧ (∀ W, Calls Try.prog 81 #[.int .i64 ob] W fun e w' => e = .returned (.int .i64 rb) ∧ w' = W) ∧ ∀ W, Calls Try.prog 81 #[.int .i64 oc] W fun e w' => e = .returned (.int .i64 rc) ∧ w' = W) := ⟨fun W => by
    have h := reg_is oa W; rw [hra'] at h; exact h, fun W => by
    have h := reg_is ob W; rw [hrb'] at h; exact h, fun W => by
    have h := reg_is oc W; rw [hrc'] at h; exact h⟩
  rw [hra2] at hal
  rw [hrb2] at hbl
  have HX := Box.mk (hX.keeps0 kb)
  have HRa := Box.mk hra2
  have HRb := Box.mk hrb2
  have HSz := Box.mk ((FK.refl xb hb b g P.G.all.length T w).step0 hX.rx kb)
  have hal0 : (0 : Int) ≤ (ra : Int) := by omega
  have hbl0 : (0 : Int) ≤ (rb : Int) := by omega
  clear hX kb hbx hra hrb hrc hra' hrb' hrc' hra2 hrb2 hrc2
  go_enter Try.func29, Try.ntmps29
  go_wp2_with fail
  clear hwb hq
  go_quiet (first | (go_at_call 81; exact Calls.quiet_of_same ((Hreg.out.1 _).mono fun _ _ h => ⟨h.1, h.2⟩)) | (go_at_call 81; exact Calls.quiet_of_same (Hreg.out.2.1 _)) | (go_at_call 81; exact Calls.quiet_of_same (Hreg.out.2.2 _)))
  have kq := (Keeps.refl (fun _ => False) wb).drewN nq
  have HXq := Box.mk (HX.out.keeps0 kq)
  have HSq := Box.mk (HSz.out.step0 HX.out.rx kq)
  have d0 : (wb.drewN nq).cell? ⟨q, 0, none⟩ = some (.int .i64 1) := b0
  have d4 : (wb.drewN nq).cell? ⟨q, 4, none⟩ = some (.int .i64 on) := b4
  clear HX HSz kq b0 b1 b2 b3 b4
  generalize wb.drewN nq = wq at *
  go_wp2_with fail
  have hc := HM.out _ HXq.out
  rw [HRa.out] at hc
  refine hc.mono ?_
  intro e w5 h5
  have h6 := h5.from HSq.out
  obtain ⟨rfl, h7⟩ := h6
  have H7 := Box.mk h7
  clear h5 h7 hc
  go_wp2_with fail
  go_end0
  exact ⟨rfl, H7.out⟩

set_option maxRecDepth 100000 in
set_option maxHeartbeats 4000000 in
theorem do_made2 {w : World} {xb hb b g : Nat} {P : PSt} {T : List Nat} {oa ob oc on : Int} {P' : PSt} (hX : IsX w xb hb b g P T) (hM : ∀ W, IsX W xb hb b g P T → Calls Try.prog 82 #[.pointer (some ⟨xb, 0, none⟩), .int .i64 (um oa 8 : Nat), .int .i64 2, .int .i64 (um on 128 : Nat), .slice none 0 0] W (XSaid W xb hb b g P.G.all.length T P')) :
    Calls Try.prog 29 #[.pointer (some ⟨xb, 0, none⟩), .agg #[.int .i64 8, .int .i64 oa, .int .i64 ob, .int .i64 oc, .int .i64 on]] w (XSaid w xb hb b g P.G.all.length T P') := by
  have hn := um_eq on 128 (by omega) (by omega)
  obtain ⟨m, hm⟩ : ∃ m, um on 128 = m := ⟨_, rfl⟩
  rw [hm] at hn hM
  have HM := Box.mk hM
  clear hM hm
  obtain ⟨wb, hwb⟩ : ∃ wb, w.alloc (.cells #[.int .i64 8, .int .i64 oa, .int .i64 ob, .int .i64 oc, .int .i64 on] 54) = wb := ⟨_, rfl⟩
  have kb : Keeps (fun _ => False) w wb := by rw [← hwb]; exact (Keeps.refl _ w).alloc _
  have hbx : wb.heap[w.heap.size]? = some (.cells #[.int .i64 8, .int .i64 oa, .int .i64 ob, .int .i64 oc, .int .i64 on] 54 (0, 0)) := by rw [← hwb]; exact heap_alloc_new w _
  obtain ⟨q, hq⟩ : ∃ q, w.heap.size = q := ⟨_, rfl⟩
  rw [hq] at hbx
  have b0 := cell_of_heap hbx 0
  have b1 := cell_of_heap hbx 1
  have b2 := cell_of_heap hbx 2
  have b3 := cell_of_heap hbx 3
  have b4 := cell_of_heap hbx 4
  simp only [List.getElem?_toArray, List.getElem?_cons_zero, List.getElem?_cons_succ] at b0 b1 b2 b3 b4
  have hra := um_eq oa 8 (by omega) (by omega)
  have hrb := um_eq ob 8 (by omega) (by omega)
  have hrc := um_eq oc 8 (by omega) (by omega)
  have hal : um oa 8 < 8 := um_lt oa 8 (by omega) (by omega)
  have hbl : um ob 8 < 8 := um_lt ob 8 (by omega) (by omega)
  obtain ⟨ra, hra2⟩ : ∃ r, um oa 8 = r := ⟨_, rfl⟩
  obtain ⟨rb, hrb2⟩ : ∃ r, um ob 8 = r := ⟨_, rfl⟩
  obtain ⟨rc, hrc2⟩ : ∃ r, um oc 8 = r := ⟨_, rfl⟩
  have hra' : wrap64 ((IntKind.u64.wrap oa).tmod 8) = (ra : Int) := by rw [← hra2]; exact hra
  have hrb' : wrap64 ((IntKind.u64.wrap ob).tmod 8) = (rb : Int) := by rw [← hrb2]; exact hrb
  have hrc' : wrap64 ((IntKind.u64.wrap oc).tmod 8) = (rc : Int) := by rw [← hrc2]; exact hrc
  have Hreg : Box ((∀ W, Calls Try.prog 81 #[.int .i64 oa] W fun e w' => e = .returned (.int .i64 ra) ∧ w' = W) ∧ (∀ W, Calls Try.prog 81 #[.int .i64 ob] W fun e w' => e = .returned (.int .i64 rb) ∧ w' = W) ∧ ∀ W, Calls Try.prog 81 #[.int .i64 oc] W fun e w' => e = .returned (.int .i64 rc) ∧ w' = W) := ⟨fun W => by
    have h := reg_is oa W; rw [hra'] at h; exact h, fun W => by
    have h := reg_is ob W; rw [hrb'] at h; exact h, fun W => by
    have h := reg_is oc W; rw [hrc'] at h; exact h⟩
  rw [hra2] at hal
  rw [hrb2] at hbl
  have HX := Box.mk (hX.keeps0 kb)
  have HRa := Box.mk hra2
  have HRb := Box.mk hrb2
  have HSz := Box.mk ((FK.refl xb hb b g P.G.all.length T w).step0 hX.rx kb)
  have hal0 : (0 : Int) ≤ (ra : Int) := by omega
  have hbl0 : (0 : Int) ≤ (rb : Int) := by omega
  clear hX kb hbx hra hrb hrc hra' hrb' hrc' hra2 hrb2 hrc2
  go_enter Try.func29, Try.ntmps29
  go_wp2_with fail
  clear hwb hq
  go_quiet (first | (go_at_call 81; exact Calls.quiet_of_same ((Hreg.out.1 _).mono fun _ _ h => ⟨h.1, h.2⟩)) | (go_at_call 81; exact Calls.quiet_of_same (Hreg.out.2.1 _)) | (go_at_call 81; exact Calls.quiet_of_same (Hreg.out.2.2 _)))
  have kq := (Keeps.refl (fun _ => False) wb).drewN nq
  have HXq := Box.mk (HX.out.keeps0 kq)
  have HSq := Box.mk (HSz.out.step0 HX.out.rx kq)
  have d0 : (wb.drewN nq).cell? ⟨q, 0, none⟩ = some (.int .i64 8) := b0
  have d4 : (wb.drewN nq).cell? ⟨q, 4, none⟩ = some (.int .i64 on) := b4
  clear HX HSz kq b0 b1 b2 b3 b4
  generalize wb.drewN nq = wq at *
  go_wp2_with fail
  have hc := HM.out _ HXq.out
  rw [HRa.out] at hc
  refine hc.mono ?_
  intro e w5 h5
  have h6 := h5.from HSq.out
  obtain ⟨rfl, h7⟩ := h6
  have H7 := Box.mk h7
  clear h5 h7 hc
  go_wp2_with fail
  go_end0
  exact ⟨rfl, H7.out⟩

set_option maxRecDepth 100000 in
set_option maxHeartbeats 4000000 in
theorem do_move {w : World} {xb hb b g : Nat} {P : PSt} {T : List Nat} {oa ob oc on : Int} (hX : IsX w xb hb b g P T) (hF : Fit P) {v : PV} (hv : P.G.regs[um ob 8]? = some v) :
    Calls Try.prog 29 #[.pointer (some ⟨xb, 0, none⟩), .agg #[.int .i64 2, .int .i64 oa, .int .i64 ob, .int .i64 oc, .int .i64 on]] w (XSaid w xb hb b g P.G.all.length T (P.set (um oa 8) v)) := by
  obtain ⟨wb, hwb⟩ : ∃ wb, w.alloc (.cells #[.int .i64 2, .int .i64 oa, .int .i64 ob, .int .i64 oc, .int .i64 on] 54) = wb := ⟨_, rfl⟩
  have kb : Keeps (fun _ => False) w wb := by rw [← hwb]; exact (Keeps.refl _ w).alloc _
  have hbx : wb.heap[w.heap.size]? = some (.cells #[.int .i64 2, .int .i64 oa, .int .i64 ob, .int .i64 oc, .int .i64 on] 54 (0, 0)) := by rw [← hwb]; exact heap_alloc_new w _
  obtain ⟨q, hq⟩ : ∃ q, w.heap.size = q := ⟨_, rfl⟩
  rw [hq] at hbx
  have b0 := cell_of_heap hbx 0
  have b1 := cell_of_heap hbx 1
  have b2 := cell_of_heap hbx 2
  have b3 := cell_of_heap hbx 3
  have b4 := cell_of_heap hbx 4
  simp only [List.getElem?_toArray, List.getElem?_cons_zero, List.getElem?_cons_succ] at b0 b1 b2 b3 b4
  have hra := um_eq oa 8 (by omega) (by omega)
  have hrb := um_eq ob 8 (by omega) (by omega)
  have hrc := um_eq oc 8 (by omega) (by omega)
  have hal : um oa 8 < 8 := um_lt oa 8 (by omega) (by omega)
  have hbl : um ob 8 < 8 := um_lt ob 8 (by omega) (by omega)
  obtain ⟨ra, hra2⟩ : ∃ r, um oa 8 = r := ⟨_, rfl⟩
  obtain ⟨rb, hrb2⟩ : ∃ r, um ob 8 = r := ⟨_, rfl⟩
  obtain ⟨rc, hrc2⟩ : ∃ r, um oc 8 = r := ⟨_, rfl⟩
  have hra' : wrap64 ((IntKind.u64.wrap oa).tmod 8) = (ra : Int) := by rw [← hra2]; exact hra
  have hrb' : wrap64 ((IntKind.u64.wrap ob).tmod 8) = (rb : Int) := by rw [← hrb2]; exact hrb
  have hrc' : wrap64 ((IntKind.u64.wrap oc).tmod 8) = (rc : Int) := by rw [← hrc2]; exact hrc
  have Hreg : Box ((∀ W, Calls Try.prog 81 #[.int .i64 oa] W fun e w' => e = .returned (.int .i64 ra) ∧ w' = W) ∧ (∀ W, Calls Try.prog 81 #[.int .i64 ob] W fun e w' => e = .returned (.int .i64 rb) ∧ w' = W) ∧ ∀ W, Calls Try.prog 81 #[.int .i64 oc] W fun e w' => e = .returned (.int .i64 rc) ∧ w' = W) := ⟨fun W => by
    have h := reg_is oa W; rw [hra'] at h; exact h, fun W => by
    have h := reg_is ob W; rw [hrb'] at h; exact h, fun W => by
    have h := reg_is oc W; rw [hrc'] at h; exact h⟩
  rw [hra2] at hal
  rw [hrb2] at hbl
  have HX := Box.mk (hX.keeps0 kb)
  have HRa := Box.mk hra2
  have HRb := Box.mk hrb2
  have HSz := Box.mk ((FK.refl xb hb b g P.G.all.length T w).step0 hX.rx kb)
  have hal0 : (0 : Int) ≤ (ra : Int) := by omega
  have hbl0 : (0 : Int) ≤ (rb : Int) := by omega
  clear hX kb hbx hra hrb hrc hra' hrb' hrc' hra2 hrb2 hrc2
  go_enter Try.func29, Try.ntmps29
  go_wp2_with fail
  clear hwb hq
  go_quiet (first | (go_at_call 81; exact Calls.quiet_of_same ((Hreg.out.1 _).mono fun _ _ h => ⟨h.1, h.2⟩)) | (go_at_call 81; exact Calls.quiet_of_same (Hreg.out.2.1 _)) | (go_at_call 81; exact Calls.quiet_of_same (Hreg.out.2.2 _)))
  have kq := (Keeps.refl (fun _ => False) wb).drewN nq
  have HXq := Box.mk (HX.out.keeps0 kq)
  have HSq := Box.mk (HSz.out.step0 HX.out.rx kq)
  have d0 : (wb.drewN nq).cell? ⟨q, 0, none⟩ = some (.int .i64 2) := b0
  have d4 : (wb.drewN nq).cell? ⟨q, 4, none⟩ = some (.int .i64 on) := b4
  clear HX HSz kq b0 b1 b2 b3 b4
  generalize wb.drewN nq = wq at *
  rw [HRb.out] at hv
  obtain ⟨hv1, hv2⟩ := hF.val v (List.mem_of_getElem? hv)
  have hs := fun (W : World) (hW : IsX W xb hb b g P T) => set_x hW (r := ra) (by omega) v (fun i e => by subst e; exact hW.rx.wf.regs i (List.mem_of_getElem? hv)) hv1 hv2
  obtain ⟨x1, x2⟩ := HXq.out.rx.reg hv
  obtain ⟨o, ho⟩ : ∃ o, pvp T v = .pointer o := by cases v <;> exact ⟨_, rfl⟩
  rw [ho] at hs x2
  have HS := Box.mk hs
  clear hs hv hv1 hv2 ho hF
  go_wp2_with fail
  refine (HS.out _ HXq.out).mono ?_
  intro e w5 h5
  have h6 := h5.from HSq.out
  rw [← HRa.out] at h6
  obtain ⟨rfl, h7⟩ := h6
  have H7 := Box.mk h7
  clear h5 h7
  go_wp2_with fail
  go_end0
  exact ⟨rfl, H7.out⟩

set_option maxRecDepth 100000 in
set_option maxHeartbeats 4000000 in
theorem do_fix {w : World} {xb hb b g : Nat} {P : PSt} {T : List Nat} {oa ob oc on : Int} (hX : IsX w xb hb b g P T) (h0 : -1152921504606846976 ≤ on) (h1 : on ≤ 1152921504606846975) :
    Calls Try.prog 29 #[.pointer (some ⟨xb, 0, none⟩), .agg #[.int .i64 5, .int .i64 oa, .int .i64 ob, .int .i64 oc, .int .i64 on]] w (XSaid w xb hb b g P.G.all.length T (P.set (um oa 8) (.num ((on * 8) % 18446744073709551616).toNat))) := by
  have hFx := Box.mk (fun W => fixx_yes on W h0 h1)
  obtain ⟨x, hx⟩ : ∃ x, ((on * 8) % 18446744073709551616).toNat = x := ⟨_, rfl⟩
  have hxe : wput 0 on = (x : Int) := by unfold wput; omega
  have hxb : x < 18446744073709551616 := by omega
  have hx8 : x % 8 = 0 := by omega
  rw [hx]
  rw [hxe] at hFx
  clear hx hxe h0 h1
  obtain ⟨wb, hwb⟩ : ∃ wb, w.alloc (.cells #[.int .i64 5, .int .i64 oa, .int .i64 ob, .int .i64 oc, .int .i64 on] 54) = wb := ⟨_, rfl⟩
  have kb : Keeps (fun _ => False) w wb := by rw [← hwb]; exact (Keeps.refl _ w).alloc _
  have hbx : wb.heap[w.heap.size]? = some (.cells #[.int .i64 5, .int .i64 oa, .int .i64 ob, .int .i64 oc, .int .i64 on] 54 (0, 0)) := by rw [← hwb]; exact heap_alloc_new w _
  obtain ⟨q, hq⟩ : ∃ q, w.heap.size = q := ⟨_, rfl⟩
  rw [hq] at hbx
  have b0 := cell_of_heap hbx 0
  have b1 := cell_of_heap hbx 1
  have b2 := cell_of_heap hbx 2
  have b3 := cell_of_heap hbx 3
  have b4 := cell_of_heap hbx 4
  simp only [List.getElem?_toArray, List.getElem?_cons_zero, List.getElem?_cons_succ] at b0 b1 b2 b3 b4
  have hra := um_eq oa 8 (by omega) (by omega)
  have hrb := um_eq ob 8 (by omega) (by omega)
  have hrc := um_eq oc 8 (by omega) (by omega)
  have hal : um oa 8 < 8 := um_lt oa 8 (by omega) (by omega)
  have hbl : um ob 8 < 8 := um_lt ob 8 (by omega) (by omega)
  obtain ⟨ra, hra2⟩ : ∃ r, um oa 8 = r := ⟨_, rfl⟩
  obtain ⟨rb, hrb2⟩ : ∃ r, um ob 8 = r := ⟨_, rfl⟩
  obtain ⟨rc, hrc2⟩ : ∃ r, um oc 8 = r := ⟨_, rfl⟩
  have hra' : wrap64 ((IntKind.u64.wrap oa).tmod 8) = (ra : Int) := by rw [← hra2]; exact hra
  have hrb' : wrap64 ((IntKind.u64.wrap ob).tmod 8) = (rb : Int) := by rw [← hrb2]; exact hrb
  have hrc' : wrap64 ((IntKind.u64.wrap oc).tmod 8) = (rc : Int) := by rw [← hrc2]; exact hrc
  have Hreg : Box ((∀ W, Calls Try.prog 81 #[.int .i64 oa] W fun e w' => e = .returned (.int .i64 ra) ∧ w' = W) ∧ (∀ W, Calls Try.prog 81 #[.int .i64 ob] W fun e w' => e = .returned (.int .i64 rb) ∧ w' = W) ∧ ∀ W, Calls Try.prog 81 #[.int .i64 oc] W fun e w' => e = .returned (.int .i64 rc) ∧ w' = W) := ⟨fun W => by
    have h := reg_is oa W; rw [hra'] at h; exact h, fun W => by
    have h := reg_is ob W; rw [hrb'] at h; exact h, fun W => by
    have h := reg_is oc W; rw [hrc'] at h; exact h⟩
  rw [hra2] at hal
  rw [hrb2] at hbl
  have HX := Box.mk (hX.keeps0 kb)
  have HRa := Box.mk hra2
  have HRb := Box.mk hrb2
  have HSz := Box.mk ((FK.refl xb hb b g P.G.all.length T w).step0 hX.rx kb)
  have hal0 : (0 : Int) ≤ (ra : Int) := by omega
  have hbl0 : (0 : Int) ≤ (rb : Int) := by omega
  clear hX kb hbx hra hrb hrc hra' hrb' hrc' hra2 hrb2 hrc2
  go_enter Try.func29, Try.ntmps29
  go_wp2_with fail
  clear hwb hq
  go_quiet (first | (go_at_call 81; exact Calls.quiet_of_same ((Hreg.out.1 _).mono fun _ _ h => ⟨h.1, h.2⟩)) | (go_at_call 81; exact Calls.quiet_of_same (Hreg.out.2.1 _)) | (go_at_call 81; exact Calls.quiet_of_same (Hreg.out.2.2 _)))
  have kq := (Keeps.refl (fun _ => False) wb).drewN nq
  have HXq := Box.mk (HX.out.keeps0 kq)
  have HSq := Box.mk (HSz.out.step0 HX.out.rx kq)
  have d0 : (wb.drewN nq).cell? ⟨q, 0, none⟩ = some (.int .i64 5) := b0
  have d4 : (wb.drewN nq).cell? ⟨q, 4, none⟩ = some (.int .i64 on) := b4
  clear HX HSz kq b0 b1 b2 b3 b4
  generalize wb.drewN nq = wq at *
  go_wp2_with (go_at_call 52; refine (hFx.out _).mono ?_; rintro e w' ⟨rfl, rfl⟩)
  refine (set_x (v := .num x) HXq.out (by omega) (fun i e => nomatch e) hxb (by
    unfold tvalue
    show (_ || !tcell x) = true
    have : tcell x = false := by unfold tcell; rw [hx8]; rfl
    rw [this]; simp)).mono ?_
  intro e w5 h5
  have h6 := h5.from HSq.out
  rw [← HRa.out] at h6
  obtain ⟨rfl, h7⟩ := h6
  have H7 := Box.mk h7
  clear h5 h7
  go_wp2_with fail
  go_end0
  exact ⟨rfl, H7.out⟩

set_option maxRecDepth 100000 in
set_option maxHeartbeats 4000000 in
theorem do_fix0 {w : World} {xb hb b g : Nat} {P : PSt} {T : List Nat} {oa ob oc on : Int} (hX : IsX w xb hb b g P T) (h : on < -1152921504606846976 ∨ 1152921504606846975 < on) :
    Calls Try.prog 29 #[.pointer (some ⟨xb, 0, none⟩), .agg #[.int .i64 5, .int .i64 oa, .int .i64 ob, .int .i64 oc, .int .i64 on]] w (XSaid w xb hb b g P.G.all.length T P) := by
  have hFx := Box.mk (fun W => fixx_no on W h)
  clear h
  obtain ⟨wb, hwb⟩ : ∃ wb, w.alloc (.cells #[.int .i64 5, .int .i64 oa, .int .i64 ob, .int .i64 oc, .int .i64 on] 54) = wb := ⟨_, rfl⟩
  have kb : Keeps (fun _ => False) w wb := by rw [← hwb]; exact (Keeps.refl _ w).alloc _
  have hbx : wb.heap[w.heap.size]? = some (.cells #[.int .i64 5, .int .i64 oa, .int .i64 ob, .int .i64 oc, .int .i64 on] 54 (0, 0)) := by rw [← hwb]; exact heap_alloc_new w _
  obtain ⟨q, hq⟩ : ∃ q, w.heap.size = q := ⟨_, rfl⟩
  rw [hq] at hbx
  have b0 := cell_of_heap hbx 0
  have b1 := cell_of_heap hbx 1
  have b2 := cell_of_heap hbx 2
  have b3 := cell_of_heap hbx 3
  have b4 := cell_of_heap hbx 4
  simp only [List.getElem?_toArray, List.getElem?_cons_zero, List.getElem?_cons_succ] at b0 b1 b2 b3 b4
  have hra := um_eq oa 8 (by omega) (by omega)
  have hrb := um_eq ob 8 (by omega) (by omega)
  have hrc := um_eq oc 8 (by omega) (by omega)
  have hal : um oa 8 < 8 := um_lt oa 8 (by omega) (by omega)
  have hbl : um ob 8 < 8 := um_lt ob 8 (by omega) (by omega)
  obtain ⟨ra, hra2⟩ : ∃ r, um oa 8 = r := ⟨_, rfl⟩
  obtain ⟨rb, hrb2⟩ : ∃ r, um ob 8 = r := ⟨_, rfl⟩
  obtain ⟨rc, hrc2⟩ : ∃ r, um oc 8 = r := ⟨_, rfl⟩
  have hra' : wrap64 ((IntKind.u64.wrap oa).tmod 8) = (ra : Int) := by rw [← hra2]; exact hra
  have hrb' : wrap64 ((IntKind.u64.wrap ob).tmod 8) = (rb : Int) := by rw [← hrb2]; exact hrb
  have hrc' : wrap64 ((IntKind.u64.wrap oc).tmod 8) = (rc : Int) := by rw [← hrc2]; exact hrc
  have Hreg : Box ((∀ W, Calls Try.prog 81 #[.int .i64 oa] W fun e w' => e = .returned (.int .i64 ra) ∧ w' = W) ∧ (∀ W, Calls Try.prog 81 #[.int .i64 ob] W fun e w' => e = .returned (.int .i64 rb) ∧ w' = W) ∧ ∀ W, Calls Try.prog 81 #[.int .i64 oc] W fun e w' => e = .returned (.int .i64 rc) ∧ w' = W) := ⟨fun W => by
    have h := reg_is oa W; rw [hra'] at h; exact h, fun W => by
    have h := reg_is ob W; rw [hrb'] at h; exact h, fun W => by
    have h := reg_is oc W; rw [hrc'] at h; exact h⟩
  rw [hra2] at hal
  rw [hrb2] at hbl
  have HX := Box.mk (hX.keeps0 kb)
  have HRa := Box.mk hra2
  have HRb := Box.mk hrb2
  have HSz := Box.mk ((FK.refl xb hb b g P.G.all.length T w).step0 hX.rx kb)
  have hal0 : (0 : Int) ≤ (ra : Int) := by omega
  have hbl0 : (0 : Int) ≤ (rb : Int) := by omega
  clear hX kb hbx hra hrb hrc hra' hrb' hrc' hra2 hrb2 hrc2
  go_enter Try.func29, Try.ntmps29
  go_wp2_with fail
  clear hwb hq
  go_quiet (first | (go_at_call 81; exact Calls.quiet_of_same ((Hreg.out.1 _).mono fun _ _ h => ⟨h.1, h.2⟩)) | (go_at_call 81; exact Calls.quiet_of_same (Hreg.out.2.1 _)) | (go_at_call 81; exact Calls.quiet_of_same (Hreg.out.2.2 _)))
  have kq := (Keeps.refl (fun _ => False) wb).drewN nq
  have HXq := Box.mk (HX.out.keeps0 kq)
  have HSq := Box.mk (HSz.out.step0 HX.out.rx kq)
  have d0 : (wb.drewN nq).cell? ⟨q, 0, none⟩ = some (.int .i64 5) := b0
  have d4 : (wb.drewN nq).cell? ⟨q, 4, none⟩ = some (.int .i64 on) := b4
  clear HX HSz kq b0 b1 b2 b3 b4
  generalize wb.drewN nq = wq at *
  go_wp2_with (go_at_call 52; refine (hFx.out _).mono ?_; rintro e w' ⟨rfl, rfl⟩)
  go_end0
  exact ⟨rfl, ⟨T, HXq.out, HSq.out, Or.inl rfl⟩⟩

set_option maxRecDepth 100000 in
set_option maxHeartbeats 4000000 in
theorem do_other {w : World} {xb hb b g : Nat} {P : PSt} {T : List Nat} {ok oa ob oc on : Int} (hX : IsX w xb hb b g P T) (h : ok < 1 ∨ 8 < ok) :
    Calls Try.prog 29 #[.pointer (some ⟨xb, 0, none⟩), .agg #[.int .i64 ok, .int .i64 oa, .int .i64 ob, .int .i64 oc, .int .i64 on]] w (XSaid w xb hb b g P.G.all.length T P) := by
  have e1 : ((ok : Int) == 1) = false := by rw [beq_eq_false_iff_ne]; omega
  have e2 : ((ok : Int) == 2) = false := by rw [beq_eq_false_iff_ne]; omega
  have e3 : ((ok : Int) == 3) = false := by rw [beq_eq_false_iff_ne]; omega
  have e4 : ((ok : Int) == 4) = false := by rw [beq_eq_false_iff_ne]; omega
  have e5 : ((ok : Int) == 5) = false := by rw [beq_eq_false_iff_ne]; omega
  have e6 : ((ok : Int) == 6) = false := by rw [beq_eq_false_iff_ne]; omega
  have e7 : ((ok : Int) == 7) = false := by rw [beq_eq_false_iff_ne]; omega
  have e8 : ((ok : Int) == 8) = false := by rw [beq_eq_false_iff_ne]; omega
  clear h
  obtain ⟨wb, hwb⟩ : ∃ wb, w.alloc (.cells #[.int .i64 ok, .int .i64 oa, .int .i64 ob, .int .i64 oc, .int .i64 on] 54) = wb := ⟨_, rfl⟩
  have kb : Keeps (fun _ => False) w wb := by rw [← hwb]; exact (Keeps.refl _ w).alloc _
  have hbx : wb.heap[w.heap.size]? = some (.cells #[.int .i64 ok, .int .i64 oa, .int .i64 ob, .int .i64 oc, .int .i64 on] 54 (0, 0)) := by rw [← hwb]; exact heap_alloc_new w _
  obtain ⟨q, hq⟩ : ∃ q, w.heap.size = q := ⟨_, rfl⟩
  rw [hq] at hbx
  have b0 := cell_of_heap hbx 0
  have b1 := cell_of_heap hbx 1
  have b2 := cell_of_heap hbx 2
  have b3 := cell_of_heap hbx 3
  have b4 := cell_of_heap hbx 4
  simp only [List.getElem?_toArray, List.getElem?_cons_zero, List.getElem?_cons_succ] at b0 b1 b2 b3 b4
  have hra := um_eq oa 8 (by omega) (by omega)
  have hrb := um_eq ob 8 (by omega) (by omega)
  have hrc := um_eq oc 8 (by omega) (by omega)
  have hal : um oa 8 < 8 := um_lt oa 8 (by omega) (by omega)
  have hbl : um ob 8 < 8 := um_lt ob 8 (by omega) (by omega)
  obtain ⟨ra, hra2⟩ : ∃ r, um oa 8 = r := ⟨_, rfl⟩
  obtain ⟨rb, hrb2⟩ : ∃ r, um ob 8 = r := ⟨_, rfl⟩
  obtain ⟨rc, hrc2⟩ : ∃ r, um oc 8 = r := ⟨_, rfl⟩
  have hra' : wrap64 ((IntKind.u64.wrap oa).tmod 8) = (ra : Int) := by rw [← hra2]; exact hra
  have hrb' : wrap64 ((IntKind.u64.wrap ob).tmod 8) = (rb : Int) := by rw [← hrb2]; exact hrb
  have hrc' : wrap64 ((IntKind.u64.wrap oc).tmod 8) = (rc : Int) := by rw [← hrc2]; exact hrc
  have Hreg : Box ((∀ W, Calls Try.prog 81 #[.int .i64 oa] W fun e w' => e = .returned (.int .i64 ra) ∧ w' = W) ∧ (∀ W, Calls Try.prog 81 #[.int .i64 ob] W fun e w' => e = .returned (.int .i64 rb) ∧ w' = W) ∧ ∀ W, Calls Try.prog 81 #[.int .i64 oc] W fun e w' => e = .returned (.int .i64 rc) ∧ w' = W) := ⟨fun W => by
    have h := reg_is oa W; rw [hra'] at h; exact h, fun W => by
    have h := reg_is ob W; rw [hrb'] at h; exact h, fun W => by
    have h := reg_is oc W; rw [hrc'] at h; exact h⟩
  rw [hra2] at hal
  rw [hrb2] at hbl
  have HX := Box.mk (hX.keeps0 kb)
  have HRa := Box.mk hra2
  have HRb := Box.mk hrb2
  have HSz := Box.mk ((FK.refl xb hb b g P.G.all.length T w).step0 hX.rx kb)
  have hal0 : (0 : Int) ≤ (ra : Int) := by omega
  have hbl0 : (0 : Int) ≤ (rb : Int) := by omega
  clear hX kb hbx hra hrb hrc hra' hrb' hrc' hra2 hrb2 hrc2
  go_enter Try.func29, Try.ntmps29
  go_wp2_with fail
  clear hwb hq
  go_quiet (first | (go_at_call 81; exact Calls.quiet_of_same ((Hreg.out.1 _).mono fun _ _ h => ⟨h.1, h.2⟩)) | (go_at_call 81; exact Calls.quiet_of_same (Hreg.out.2.1 _)) | (go_at_call 81; exact Calls.quiet_of_same (Hreg.out.2.2 _)))
  have kq := (Keeps.refl (fun _ => False) wb).drewN nq
  have HXq := Box.mk (HX.out.keeps0 kq)
  have HSq := Box.mk (HSz.out.step0 HX.out.rx kq)
  have d0 : (wb.drewN nq).cell? ⟨q, 0, none⟩ = some (.int .i64 ok) := b0
  have d4 : (wb.drewN nq).cell? ⟨q, 4, none⟩ = some (.int .i64 on) := b4
  clear HX HSz kq b0 b1 b2 b3 b4
  generalize wb.drewN nq = wq at *
  go_wp2_with fail
  go_end0
  exact ⟨rfl, ⟨T, HXq.out, HSq.out, Or.inl rfl⟩⟩

end Go.Proofs.Ytbjlapfcnldpoaa

/- Law 5's do: a field of a thing is read. -/
namespace Go.Proofs.Ytbjlapfcnldpoaa
set_option linter.unusedVariables false
set_option linter.unusedSimpArgs false
open Go.RowKit

set_option maxRecDepth 100000 in
set_option maxHeartbeats 4000000 in
theorem do_load_num {w : World} {xb hb b g : Nat} {P : PSt} {T : List Nat} {oa ob oc on : Int} (hX : IsX w xb hb b g P T) {x : Nat} (hreg : P.G.regs[um ob 8]? = some (.num x)) :
    Calls Try.prog 29 #[.pointer (some ⟨xb, 0, none⟩), .agg #[.int .i64 3, .int .i64 oa, .int .i64 ob, .int .i64 oc, .int .i64 on]] w (XSaid w xb hb b g P.G.all.length T P) := by
  have Hb0 := Box.mk hreg
  clear hreg
  obtain ⟨wb, hwb⟩ : ∃ wb, w.alloc (.cells #[.int .i64 3, .int .i64 oa, .int .i64 ob, .int .i64 oc, .int .i64 on] 54) = wb := ⟨_, rfl⟩
  have kb : Keeps (fun _ => False) w wb := by rw [← hwb]; exact (Keeps.refl _ w).alloc _
  have hbx : wb.heap[w.heap.size]? = some (.cells #[.int .i64 3, .int .i64 oa, .int .i64 ob, .int .i64 oc, .int .i64 on] 54 (0, 0)) := by rw [← hwb]; exact heap_alloc_new w _
  obtain ⟨q, hq⟩ : ∃ q, w.heap.size = q := ⟨_, rfl⟩
  rw [hq] at hbx
  have b0 := cell_of_heap hbx 0
  have b1 := cell_of_heap hbx 1
  have b2 := cell_of_heap hbx 2
  have b3 := cell_of_heap hbx 3
  have b4 := cell_of_heap hbx 4
  simp only [List.getElem?_toArray, List.getElem?_cons_zero, List.getElem?_cons_succ] at b0 b1 b2 b3 b4
  have hra := um_eq oa 8 (by omega) (by omega)
  have hrb := um_eq ob 8 (by omega) (by omega)
  have hrc := um_eq oc 8 (by omega) (by omega)
  have hal : um oa 8 < 8 := um_lt oa 8 (by omega) (by omega)
  have hbl : um ob 8 < 8 := um_lt ob 8 (by omega) (by omega)
  obtain ⟨ra, hra2⟩ : ∃ r, um oa 8 = r := ⟨_, rfl⟩
  obtain ⟨rb, hrb2⟩ : ∃ r, um ob 8 = r := ⟨_, rfl⟩
  obtain ⟨rc, hrc2⟩ : ∃ r, um oc 8 = r := ⟨_, rfl⟩
  have hra' : wrap64 ((IntKind.u64.wrap oa).tmod 8) = (ra : Int) := by rw [← hra2]; exact hra
  have hrb' : wrap64 ((IntKind.u64.wrap ob).tmod 8) = (rb : Int) := by rw [← hrb2]; exact hrb
  have hrc' : wrap64 ((IntKind.u64.wrap oc).tmod 8) = (rc : Int) := by rw [← hrc2]; exact hrc
  have Hreg : Box ((∀ W, Calls Try.prog 81 #[.int .i64 oa] W fun e w' => e = .returned (.int .i64 ra) ∧ w' = W) ∧ (∀ W, Calls Try.prog 81 #[.int .i64 ob] W fun e w' => e = .returned (.int .i64 rb) ∧ w' = W) ∧ ∀ W, Calls Try.prog 81 #[.int .i64 oc] W fun e w' => e = .returned (.int .i64 rc) ∧ w' = W) := ⟨fun W => by
    have h := reg_is oa W; rw [hra'] at h; exact h, fun W => by
    have h := reg_is ob W; rw [hrb'] at h; exact h, fun W => by
    have h := reg_is oc W; rw [hrc'] at h; exact h⟩
  rw [hra2] at hal
  rw [hrb2] at hbl
  have HX := Box.mk (hX.keeps0 kb)
  have HRa := Box.mk hra2
  have HRb := Box.mk hrb2
  have HSz := Box.mk ((FK.refl xb hb b g P.G.all.length T w).step0 hX.rx kb)
  have hal0 : (0 : Int) ≤ (ra : Int) := by omega
  have hbl0 : (0 : Int) ≤ (rb : Int) := by omega
  clear hX kb hbx hra hrb hrc hra' hrb' hrc' hra2 hrb2 hrc2
  go_enter Try.func29, Try.ntmps29
  go_wp2_with fail
  clear hwb hq
  go_quiet (first | (go_at_call 81; exact Calls.quiet_of_same ((Hreg.out.1 _).mono fun _ _ h => ⟨h.1, h.2⟩)) | (go_at_call 81; exact Calls.quiet_of_same (Hreg.out.2.1 _)) | (go_at_call 81; exact Calls.quiet_of_same (Hreg.out.2.2 _)))
  have kq := (Keeps.refl (fun _ => False) wb).drewN nq
  have HXq := Box.mk (HX.out.keeps0 kq)
  have HSq := Box.mk (HSz.out.step0 HX.out.rx kq)
  have d0 : (wb.drewN nq).cell? ⟨q, 0, none⟩ = some (.int .i64 3) := b0
  have d4 : (wb.drewN nq).cell? ⟨q, 4, none⟩ = some (.int .i64 on) := b4
  clear HX HSz kq b0 b1 b2 b3 b4
  generalize wb.drewN nq = wq at *
  have hreg := Hb0.out
  rw [HRb.out] at hreg
  obtain ⟨x1, x2⟩ := HXq.out.rx.reg hreg
  have x2' : wq.cell? ⟨xb, 1 + rb * 2 + 1, none⟩ = some (.pointer none) := x2
  clear x2 hreg
  go_wp2_with fail
  go_end0
  exact ⟨rfl, ⟨T, HXq.out, HSq.out, Or.inl rfl⟩⟩

set_option maxRecDepth 100000 in
set_option maxHeartbeats 4000000 in
theorem do_load_nil {w : World} {xb hb b g : Nat} {P : PSt} {T : List Nat} {oa ob oc on : Int} (hX : IsX w xb hb b g P T) {i : Nat} {t : PTh} (hreg : P.G.regs[um ob 8]? = some (.ref i)) (ht : P.G.all[i]? = some t) (h0 : t.fields.length = 0) :
    Calls Try.prog 29 #[.pointer (some ⟨xb, 0, none⟩), .agg #[.int .i64 3, .int .i64 oa, .int .i64 ob, .int .i64 oc, .int .i64 on]] w (XSaid w xb hb b g P.G.all.length T P) := by
  have Hb0 := Box.mk hreg
  have Ht := Box.mk ht
  have H0 := Box.mk h0
  clear hreg ht h0
  obtain ⟨wb, hwb⟩ : ∃ wb, w.alloc (.cells #[.int .i64 3, .int .i64 oa, .int .i64 ob, .int .i64 oc, .int .i64 on] 54) = wb := ⟨_, rfl⟩
  have kb : Keeps (fun _ => False) w wb := by rw [← hwb]; exact (Keeps.refl _ w).alloc _
  have hbx : wb.heap[w.heap.size]? = some (.cells #[.int .i64 3, .int .i64 oa, .int .i64 ob, .int .i64 oc, .int .i64 on] 54 (0, 0)) := by rw [← hwb]; exact heap_alloc_new w _
  obtain ⟨q, hq⟩ : ∃ q, w.heap.size = q := ⟨_, rfl⟩
  rw [hq] at hbx
  have b0 := cell_of_heap hbx 0
  have b1 := cell_of_heap hbx 1
  have b2 := cell_of_heap hbx 2
  have b3 := cell_of_heap hbx 3
  have b4 := cell_of_heap hbx 4
  simp only [List.getElem?_toArray, List.getElem?_cons_zero, List.getElem?_cons_succ] at b0 b1 b2 b3 b4
  have hra := um_eq oa 8 (by omega) (by omega)
  have hrb := um_eq ob 8 (by omega) (by omega)
  have hrc := um_eq oc 8 (by omega) (by omega)
  have hal : um oa 8 < 8 := um_lt oa 8 (by omega) (by omega)
  have hbl : um ob 8 < 8 := um_lt ob 8 (by omega) (by omega)
  obtain ⟨ra, hra2⟩ : ∃ r, um oa 8 = r := ⟨_, rfl⟩
  obtain ⟨rb, hrb2⟩ : ∃ r, um ob 8 = r := ⟨_, rfl⟩
  obtain ⟨rc, hrc2⟩ : ∃ r, um oc 8 = r := ⟨_, rfl⟩
  have hra' : wrap64 ((IntKind.u64.wrap oa).tmod 8) = (ra : Int) := by rw [← hra2]; exact hra
  have hrb' : wrap64 ((IntKind.u64.wrap ob).tmod 8) = (rb : Int) := by rw [← hrb2]; exact hrb
  have hrc' : wrap64 ((IntKind.u64.wrap oc).tmod 8) = (rc : Int) := by rw [← hrc2]; exact hrc
  have Hreg : Box ((∀ W, Calls Try.prog 81 #[.int .i64 oa] W fun e w' => e = .returned (.int .i64 ra) ∧ w' = W) ∧ (∀ W, Calls Try.prog 81 #[.int .i64 ob] W fun e w' => e = .returned (.int .i64 rb) ∧ w' = W) ∧ ∀ W, Calls Try.prog 81 #[.int .i64 oc] W fun e w' => e = .returned (.int .i64 rc) ∧ w' = W) := ⟨fun W => by
    have h := reg_is oa W; rw [hra'] at h; exact h, fun W => by
    have h := reg_is ob W; rw [hrb'] at h; exact h, fun W => by
    have h := reg_is oc W; rw [hrc'] at h; exact h⟩
  rw [hra2] at hal
  rw [hrb2] at hbl
  have HX := Box.mk (hX.keeps0 kb)
  have HRa := Box.mk hra2
  have HRb := Box.mk hrb2
  have HSz := Box.mk ((FK.refl xb hb b g P.G.all.length T w).step0 hX.rx kb)
  have hal0 : (0 : Int) ≤ (ra : Int) := by omega
  have hbl0 : (0 : Int) ≤ (rb : Int) := by omega
  clear hX kb hbx hra hrb hrc hra' hrb' hrc' hra2 hrb2 hrc2
  go_enter Try.func29, Try.ntmps29
  go_wp2_with fail
  clear hwb hq
  go_quiet (first | (go_at_call 81; exact Calls.quiet_of_same ((Hreg.out.1 _).mono fun _ _ h => ⟨h.1, h.2⟩)) | (go_at_call 81; exact Calls.quiet_of_same (Hreg.out.2.1 _)) | (go_at_call 81; exact Calls.quiet_of_same (Hreg.out.2.2 _)))
  have kq := (Keeps.refl (fun _ => False) wb).drewN nq
  have HXq := Box.mk (HX.out.keeps0 kq)
  have HSq := Box.mk (HSz.out.step0 HX.out.rx kq)
  have d0 : (wb.drewN nq).cell? ⟨q, 0, none⟩ = some (.int .i64 3) := b0
  have d4 : (wb.drewN nq).cell? ⟨q, 4, none⟩ = some (.int .i64 on) := b4
  clear HX HSz kq b0 b1 b2 b3 b4
  generalize wb.drewN nq = wq at *
  have hreg := Hb0.out
  rw [HRb.out] at hreg
  have h0 := H0.out
  obtain ⟨x1, x2⟩ := HXq.out.rx.reg hreg
  obtain ⟨fa, fc, c0, c1, -, -, -⟩ := HXq.out.rx.cells Ht.out
  rw [h0] at c1
  obtain ⟨tb, htb⟩ : ∃ tb, T.getD i 0 = tb := ⟨_, rfl⟩
  rw [htb] at c0 c1
  have x2' : wq.cell? ⟨xb, 1 + rb * 2 + 1, none⟩ = some (.pointer (some ⟨tb, 0, none⟩)) := by rw [x2, ← htb]; rfl
  clear x2 hreg htb H0 h0
  go_wp2_with fail
  go_end0
  exact ⟨rfl, ⟨T, HXq.out, HSq.out, Or.inl rfl⟩⟩

set_option maxRecDepth 100000 in
set_option maxHeartbeats 4000000 in
theorem do_load_form {w : World} {xb hb b g : Nat} {P : PSt} {T : List Nat} {oa ob oc on : Int} (hX : IsX w xb hb b g P T) {i : Nat} {t : PTh} (hreg : P.G.regs[um ob 8]? = some (.ref i)) (ht : P.G.all[i]? = some t) (h0 : 0 < t.fields.length) (hf : t.form ≠ 1) :
    Calls Try.prog 29 #[.pointer (some ⟨xb, 0, none⟩), .agg #[.int .i64 3, .int .i64 oa, .int .i64 ob, .int .i64 oc, .int .i64 on]] w (XSaid w xb hb b g P.G.all.length T P) := by
  have Hb0 := Box.mk hreg
  have Ht := Box.mk ht
  have H0 := Box.mk h0
  clear hreg ht h0
  obtain ⟨wb, hwb⟩ : ∃ wb, w.alloc (.cells #[.int .i64 3, .int .i64 oa, .int .i64 ob, .int .i64 oc, .int .i64 on] 54) = wb := ⟨_, rfl⟩
  have kb : Keeps (fun _ => False) w wb := by rw [← hwb]; exact (Keeps.refl _ w).alloc _
  have hbx : wb.heap[w.heap.size]? = some (.cells #[.int .i64 3, .int .i64 oa, .int .i64 ob, .int .i64 oc, .int .i64 on] 54 (0, 0)) := by rw [← hwb]; exact heap_alloc_new w _
  obtain ⟨q, hq⟩ : ∃ q, w.heap.size = q := ⟨_, rfl⟩
  rw [hq] at hbx
  have b0 := cell_of_heap hbx 0
  have b1 := cell_of_heap hbx 1
  have b2 := cell_of_heap hbx 2
  have b3 := cell_of_heap hbx 3
  have b4 := cell_of_heap hbx 4
  simp only [List.getElem?_toArray, List.getElem?_cons_zero, List.getElem?_cons_succ] at b0 b1 b2 b3 b4
  have hra := um_eq oa 8 (by omega) (by omega)
  have hrb := um_eq ob 8 (by omega) (by omega)
  have hrc := um_eq oc 8 (by omega) (by omega)
  have hal : um oa 8 < 8 := um_lt oa 8 (by omega) (by omega)
  have hbl : um ob 8 < 8 := um_lt ob 8 (by omega) (by omega)
  obtain ⟨ra, hra2⟩ : ∃ r, um oa 8 = r := ⟨_, rfl⟩
  obtain ⟨rb, hrb2⟩ : ∃ r, um ob 8 = r := ⟨_, rfl⟩
  obtain ⟨rc, hrc2⟩ : ∃ r, um oc 8 = r := ⟨_, rfl⟩
  have hra' : wrap64 ((IntKind.u64.wrap oa).tmod 8) = (ra : Int) := by rw [← hra2]; exact hra
  have hrb' : wrap64 ((IntKind.u64.wrap ob).tmod 8) = (rb : Int) := by rw [← hrb2]; exact hrb
  have hrc' : wrap64 ((IntKind.u64.wrap oc).tmod 8) = (rc : Int) := by rw [← hrc2]; exact hrc
  have Hreg : Box ((∀ W, Calls Try.prog 81 #[.int .i64 oa] W fun e w' => e = .returned (.int .i64 ra) ∧ w' = W) ∧ (∀ W, Calls Try.prog 81 #[.int .i64 ob] W fun e w' => e = .returned (.int .i64 rb) ∧ w' = W) ∧ ∀ W, Calls Try.prog 81 #[.int .i64 oc] W fun e w' => e = .returned (.int .i64 rc) ∧ w' = W) := ⟨fun W => by
    have h := reg_is oa W; rw [hra'] at h; exact h, fun W => by
    have h := reg_is ob W; rw [hrb'] at h; exact h, fun W => by
    have h := reg_is oc W; rw [hrc'] at h; exact h⟩
  rw [hra2] at hal
  rw [hrb2] at hbl
  have HX := Box.mk (hX.keeps0 kb)
  have HRa := Box.mk hra2
  have HRb := Box.mk hrb2
  have HSz := Box.mk ((FK.refl xb hb b g P.G.all.length T w).step0 hX.rx kb)
  have hal0 : (0 : Int) ≤ (ra : Int) := by omega
  have hbl0 : (0 : Int) ≤ (rb : Int) := by omega
  clear hX kb hbx hra hrb hrc hra' hrb' hrc' hra2 hrb2 hrc2
  go_enter Try.func29, Try.ntmps29
  go_wp2_with fail
  clear hwb hq
  go_quiet (first | (go_at_call 81; exact Calls.quiet_of_same ((Hreg.out.1 _).mono fun _ _ h => ⟨h.1, h.2⟩)) | (go_at_call 81; exact Calls.quiet_of_same (Hreg.out.2.1 _)) | (go_at_call 81; exact Calls.quiet_of_same (Hreg.out.2.2 _)))
  have kq := (Keeps.refl (fun _ => False) wb).drewN nq
  have HXq := Box.mk (HX.out.keeps0 kq)
  have HSq := Box.mk (HSz.out.step0 HX.out.rx kq)
  have d0 : (wb.drewN nq).cell? ⟨q, 0, none⟩ = some (.int .i64 3) := b0
  have d4 : (wb.drewN nq).cell? ⟨q, 4, none⟩ = some (.int .i64 on) := b4
  clear HX HSz kq b0 b1 b2 b3 b4
  generalize wb.drewN nq = wq at *
  have hreg := Hb0.out
  rw [HRb.out] at hreg
  have h0 := H0.out
  obtain ⟨x1, x2⟩ := HXq.out.rx.reg hreg
  obtain ⟨fa, fc, c0, c1, -, -, -⟩ := HXq.out.rx.cells Ht.out
  obtain ⟨n, hn⟩ : ∃ n, t.fields.length = n := ⟨_, rfl⟩
  rw [hn] at c1 h0
  have h0I : (0 : Int) < (n : Int) := by omega
  have e1 : ((t.form : Int) == 1) = false := by rw [beq_eq_false_iff_ne]; omega
  clear hn hf
  obtain ⟨tb, htb⟩ : ∃ tb, T.getD i 0 = tb := ⟨_, rfl⟩
  rw [htb] at c0 c1
  have x2' : wq.cell? ⟨xb, 1 + rb * 2 + 1, none⟩ = some (.pointer (some ⟨tb, 0, none⟩)) := by rw [x2, ← htb]; rfl
  clear x2 hreg htb H0
  go_wp2_with fail
  go_end0
  exact ⟨rfl, ⟨T, HXq.out, HSq.out, Or.inl rfl⟩⟩

end Go.Proofs.Ytbjlapfcnldpoaa

/- Law 5's do: a field of a thing is read. -/
namespace Go.Proofs.Ytbjlapfcnldpoaa
set_option linter.unusedVariables false
set_option linter.unusedSimpArgs false
open Go.RowKit

theorem IsX.bad {w : World} {xb hb b g : Nat} {P : PSt} {T : List Nat} (h : IsX w xb hb b g P T) : IsX (w.setCell ⟨xb, 18, none⟩ (.bool false)) xb hb b g P T ∧ Keeps (fun z => z = xb) w (w.setCell ⟨xb, 18, none⟩ (.bool false)) :=
  ⟨⟨(h.rx.setBad false).1, h.th.keepsX (h.rx.setBad false).2 h.rx.xbX, h.sep.keepsT h.rx (h.rx.setBad false).2 h.rx.xbT⟩, (h.rx.setBad false).2⟩

set_option maxRecDepth 100000 in
set_option maxHeartbeats 4000000 in
theorem do_load {w : World} {xb hb b g : Nat} {P : PSt} {T : List Nat} {oa ob oc on : Int} (hX : IsX w xb hb b g P T) (hF : Fit P) {i : Nat} {t : PTh} {v : PV} (hreg : P.G.regs[um ob 8]? = some (.ref i)) (ht : P.G.all[i]? = some t) (h0 : 0 < t.fields.length) (hf : t.form = 1) (hv : t.fields[um on t.fields.length]? = some v) :
    Calls Try.prog 29 #[.pointer (some ⟨xb, 0, none⟩), .agg #[.int .i64 3, .int .i64 oa, .int .i64 ob, .int .i64 oc, .int .i64 on]] w (XSaid w xb hb b g P.G.all.length T (P.set (um oa 8) v)) := by
  have hun := um_eq on t.fields.length (by omega) (by have := hX.rx.wf.small t (List.mem_of_getElem? ht); omega)
  have hul : um on t.fields.length < t.fields.length := um_lt on t.fields.length (by omega) (by have := hX.rx.wf.small t (List.mem_of_getElem? ht); omega)
  have hn200 := hX.rx.wf.small t (List.mem_of_getElem? ht)
  obtain ⟨m, hm⟩ : ∃ m, um on t.fields.length = m := ⟨_, rfl⟩
  rw [hm] at hun hul hv
  obtain ⟨n, hn⟩ : ∃ n, t.fields.length = n := ⟨_, rfl⟩
  rw [hn] at hun hul h0 hn200
  have Hb0 := Box.mk hreg
  have Ht := Box.mk ht
  have Hf := Box.mk hf
  have Hv := Box.mk hv
  have Hn := Box.mk hn
  have HF := Box.mk hF
  have hnI : IntKind.u64.wrap (n : Int) = (n : Int) := by rw [IntKind.wrap_u64]; omega
  have hn0 : ((n : Int) == 0) = false := by rw [beq_eq_false_iff_ne]; omega
  clear hreg ht hf hv hm hn hF
  obtain ⟨wb, hwb⟩ : ∃ wb, w.alloc (.cells #[.int .i64 3, .int .i64 oa, .int .i64 ob, .int .i64 oc, .int .i64 on] 54) = wb := ⟨_, rfl⟩
  have kb : Keeps (fun _ => False) w wb := by rw [← hwb]; exact (Keeps.refl _ w).alloc _
  have hbx : wb.heap[w.heap.size]? = some (.cells #[.int .i64 3, .int .i64 oa, .int .i64 ob, .int .i64 oc, .int .i64 on] 54 (0, 0)) := by rw [← hwb]; exact heap_alloc_new w _
  obtain ⟨q, hq⟩ : ∃ q, w.heap.size = q := ⟨_, rfl⟩
  rw [hq] at hbx
  have b0 := cell_of_heap hbx 0
  have b1 := cell_of_heap hbx 1
  have b2 := cell_of_heap hbx 2
  have b3 := cell_of_heap hbx 3
  have b4 := cell_of_heap hbx 4
  simp only [List.getElem?_toArray, List.getElem?_cons_zero, List.getElem?_cons_succ] at b0 b1 b2 b3 b4
  have hra := um_eq oa 8 (by omega) (by omega)
  have hrb := um_eq ob 8 (by omega) (by omega)
  have hrc := um_eq oc 8 (by omega) (by omega)
  have hal : um oa 8 < 8 := um_lt oa 8 (by omega) (by omega)
  have hbl : um ob 8 < 8 := um_lt ob 8 (by omega) (by omega)
  obtain ⟨ra, hra2⟩ : ∃ r, um oa 8 = r := ⟨_, rfl⟩
  obtain ⟨rb, hrb2⟩ : ∃ r, um ob 8 = r := ⟨_, rfl⟩
  obtain ⟨rc, hrc2⟩ : ∃ r, um oc 8 = r := ⟨_, rfl⟩
  have hra' : wrap64 ((IntKind.u64.wrap oa).tmod 8) = (ra : Int) := by rw [← hra2]; exact hra
  have hrb' : wrap64 ((IntKind.u64.wrap ob).tmod 8) = (rb : Int) := by rw [← hrb2]; exact hrb
  have hrc' : wrap64 ((IntKind.u64.wrap oc).tmod 8) = (rc : Int) := by rw [← hrc2]; exact hrc
  have Hreg : Box ((∀ W, Calls Try.prog 81 #[.int .i64 oa] W fun e w' => e = .returned (.int .i64 ra) ∧ w' = W) ∧ (∀ W, Calls Try.prog 81 #[.int .i64 ob] W fun e w' => e = .returned (.int .i64 rb) ∧ w' = W) ∧ ∀ W, Calls Try.prog 81 #[.int .i64 oc] W fun e w' => e = .returned (.int .i64 rc) ∧ w' = W) := ⟨fun W => by
    have h := reg_is oa W; rw [hra'] at h; exact h, fun W => by
    have h := reg_is ob W; rw [hrb'] at h; exact h, fun W => by
    have h := reg_is oc W; rw [hrc'] at h; exact h⟩
  rw [hra2] at hal
  rw [hrb2] at hbl
  have HX := Box.mk (hX.keeps0 kb)
  have HRa := Box.mk hra2
  have HRb := Box.mk hrb2
  have HSz := Box.mk ((FK.refl xb hb b g P.G.all.length T w).step0 hX.rx kb)
  have hal0 : (0 : Int) ≤ (ra : Int) := by omega
  have hbl0 : (0 : Int) ≤ (rb : Int) := by omega
  clear hX kb hbx hra hrb hrc hra' hrb' hrc' hra2 hrb2 hrc2
  go_enter Try.func29, Try.ntmps29
  go_wp2_with fail
  clear hwb hq
  go_quiet (first | (go_at_call 81; exact Calls.quiet_of_same ((Hreg.out.1 _).mono fun _ _ h => ⟨h.1, h.2⟩)) | (go_at_call 81; exact Calls.quiet_of_same (Hreg.out.2.1 _)) | (go_at_call 81; exact Calls.quiet_of_same (Hreg.out.2.2 _)))
  have kq := (Keeps.refl (fun _ => False) wb).drewN nq
  have HXq := Box.mk (HX.out.keeps0 kq)
  have HSq := Box.mk (HSz.out.step0 HX.out.rx kq)
  have d0 : (wb.drewN nq).cell? ⟨q, 0, none⟩ = some (.int .i64 3) := b0
  have d4 : (wb.drewN nq).cell? ⟨q, 4, none⟩ = some (.int .i64 on) := b4
  clear HX HSz kq b0 b1 b2 b3 b4
  generalize wb.drewN nq = wq at *
  have hreg := Hb0.out
  rw [HRb.out] at hreg
  obtain ⟨x1, x2⟩ := HXq.out.rx.reg hreg
  obtain ⟨fa, fc, c0, c1, c2, -, hfs⟩ := HXq.out.rx.cells Ht.out
  rw [Hn.out] at c1 hfs
  obtain ⟨f, rfl, hfl, -, -, hcl⟩ := hfs h0
  obtain ⟨z1, z2⟩ := hcl m v Hv.out
  rw [Hf.out] at c0
  obtain ⟨tb, htb⟩ : ∃ tb, T.getD i 0 = tb := ⟨_, rfl⟩
  rw [htb] at c0 c1 c2
  have x2' : wq.cell? ⟨xb, 1 + rb * 2 + 1, none⟩ = some (.pointer (some ⟨tb, 0, none⟩)) := by rw [x2, ← htb]; rfl
  have h0I : (0 : Int) < (n : Int) := by omega
  have Hz := Box.mk (And.intro z1 z2)
  have Htb := Box.mk htb
  clear x2 hreg htb hcl hfs z1 z2 x1
  have hpr : PR P.G i := .reg (List.mem_of_getElem? Hb0.out)
  obtain ⟨cc, hd, p1, p2, p3, p4, p5, p6, p7⟩ := HF.out.obj i t hpr Ht.out
  obtain ⟨p8, p9⟩ := p7 m v Hv.out
  have hx64 : 8 * P.U.getD i 0 + 1 < 18446744073709551616 := (HF.out.val (.ref i) (List.mem_of_getElem? Hb0.out)).1
  have HGet := Box.mk (fun (W : World) (hW : IsTH W hb b g P.s) => get_is (i := m) (v := pword P.U v) hW hx64 p1 p2 (by rw [p4, Hn.out]; exact hul) p5 (by rw [p3, Hf.out]; decide) p8 p9)
  have Hvs := Box.mk (HF.out.fval i t hpr Ht.out Hf.out v (List.mem_of_getElem? Hv.out))
  have Hvl : Box (∀ k, v = .ref k → k < P.G.all.length) := ⟨fun k e => by subst e; exact HXq.out.rx.wf.flds t (List.mem_of_getElem? Ht.out) k (List.mem_of_getElem? Hv.out)⟩
  clear p1 p2 p3 p4 p5 p6 p7 p8 p9 hx64 hpr
  obtain ⟨y, hy⟩ : ∃ y, 8 * P.U.getD i 0 + 1 = y := ⟨_, rfl⟩
  rw [hy] at c2 HGet
  obtain ⟨z, hz⟩ : ∃ z, pword P.U v = z := ⟨_, rfl⟩
  rw [hz] at HGet
  have Hz2 := Box.mk hz
  clear hy hz
  go_wp2_with fail
  go_quiet (fail)
  rw [hun]
  have kq2 := (Keeps.refl (fun _ => False) wq).drewN nq
  have HX2 := Box.mk (HXq.out.keeps0 kq2)
  have HS2 := Box.mk (HSq.out.step0 HXq.out.rx kq2)
  have g0 : (wq.drewN nq).cell? ⟨xb, 0, none⟩ = some (.pointer (some ⟨hb, 0, none⟩)) := HXq.out.rx.at0
  have g1 : (wq.drewN nq).cell? ⟨tb, 1, none⟩ = some (.slice (some ⟨f, 0, none⟩) n fc) := c1
  have g2 : (wq.drewN nq).cell? ⟨tb, 2, none⟩ = some (.int .u64 (y : Nat)) := c2
  have g3 : (wq.drewN nq).cell? ⟨f, m * 2, none⟩ = some (.int .u64 (pvw v : Nat)) := Hz.out.1
  have g4 : (wq.drewN nq).cell? ⟨f, m * 2 + 1, none⟩ = some (pvp T v) := Hz.out.2
  have Htn : Box (¬ foot3 hb b g tb ∧ ¬ foot3 hb b g f ∧ ¬ foot3 hb b g xb) := ⟨by
    obtain ⟨fv, fb, q1, q2⟩ := HXq.out.rx.thing i t Ht.out
    rw [Htb.out] at q1
    refine ⟨fun e => (foot3_notX HXq.out.th _ _ _ e q1).2.1 rfl, fun e => ?_, HXq.out.nf⟩
    have h1 := cell_of_heap q1 1
    simp only [List.getElem?_toArray, List.getElem?_cons_zero, List.getElem?_cons_succ] at h1
    rw [c1] at h1
    injection h1 with h1
    obtain ⟨cs, hcs⟩ := own_type q2 (z := f) (by rw [← h1]; rfl)
    exact (foot3_notX HXq.out.th _ _ _ e hcs).2.2.2 rfl⟩
  have Hxn : Box (tb ≠ xb ∧ f ≠ xb) := ⟨by
    obtain ⟨fv, fb, q1, q2⟩ := HXq.out.rx.thing i t Ht.out
    rw [Htb.out] at q1
    have h1 := cell_of_heap q1 1
    simp only [List.getElem?_toArray, List.getElem?_cons_zero, List.getElem?_cons_succ] at h1
    rw [c1] at h1
    injection h1 with h1
    obtain ⟨cs, hcs⟩ := own_type q2 (z := f) (by rw [← h1]; rfl)
    exact ⟨fun e => HXq.out.rx.xbT _ _ e q1, (fun e => by
      obtain ⟨av1, base1, hh, -⟩ := HXq.out.rx.head
      exact blk_ne hcs hh (by decide) e)⟩⟩
  clear kq2 HXq HSq c0 c1 c2 x2' d0 d4 Hz
  generalize wq.drewN nq = w2 at *
  go_wp2_with fail
  go_region_held3 (fun w' => w'.cell? ⟨xb, 0, none⟩ = some (.pointer (some ⟨hb, 0, none⟩)) ∧ w'.cell? ⟨tb, 2, none⟩ = some (.int .u64 (y : Nat))) (first | exact ⟨g0, g2⟩ | exact ⟨kj.cell g0 Htn.out.2.2, kj.cell g2 Htn.out.1⟩ | go_keep) (first | (go_at_call 23; refine (HGet.out _ (HX2.out.th.keeps0 ((Keeps.refl (fun _ => False) w2).drewN 1))).mono ?_; rintro e w3 ⟨rfl, hI3, kj⟩))
  have kj2 : Keeps (foot3 hb b g) w2 w3 := ⟨kj.os, kj.tape, kj.output, kj.size, kj.block⟩
  have hX3 : IsX w3 xb hb b g P T := ⟨HX2.out.rx.heap HX2.out.th kj2, hI3, HX2.out.sep.keepsT HX2.out.rx kj2 (foot3_notT HX2.out.th)⟩
  have a1 := kj2.cell g1 Htn.out.1
  have a3 := kj2.cell g3 Htn.out.2.1
  have a4 := kj2.cell g4 Htn.out.2.1
  have a18 := hX3.rx.at18
  have hS3 := HS2.out.stepF HX2.out.rx HX2.out.th kj2
  have HX3 := Box.mk hX3
  have HS3 := Box.mk hS3
  obtain ⟨o, ho⟩ : ∃ o, pvp T v = .pointer o := by cases v <;> exact ⟨_, rfl⟩
  have HW : ∀ W : World, Keeps (fun _ => False) w3 W → Calls Try.prog 32 #[.agg #[.int .u64 (pvw v : Nat), .pointer o]] W fun e w' => e = .returned (.int .u64 (z : Nat)) ∧ Keeps (fun _ => False) W w' := fun W kW => by
    have h := word_is (HX3.out.rx.keeps0 kW) v Hvl.out
    rw [ho, Hz2.out] at h; exact h
  have HWB := Box.mk HW
  have HSet : Box (∀ W, IsX W xb hb b g P T → Calls Try.prog 83 #[.pointer (some ⟨xb, 0, none⟩), .int .i64 ra, .agg #[.int .u64 (pvw v : Nat), .pointer o]] W (XSaid W xb hb b g P.G.all.length T (P.set ra v))) := ⟨fun W hW => by
    have h := set_x hW hal v Hvl.out Hvs.out.1 Hvs.out.2
    rw [ho] at h; exact h⟩
  rw [ho] at a4
  have hmI : (0 : Int) ≤ (m : Int) := by omega
  have hmn : (m : Int) < (n : Int) := by omega
  clear kj kj2 hX3 hI3 g0 g1 g2 g3 g4 HW ho HX2 HS2 hS3 HGet
  go_wp2_with fail
  refine (HWB.out _ (Keeps.refl _ _)).mono ?_
  rintro e w4 ⟨rfl, k4⟩
  have hX4 := HX3.out.keeps0 k4
  have b18 := hX4.rx.at18
  have f18 := hX4.rx.frozen 18
  obtain ⟨hX5, k5⟩ := hX4.bad
  have b1 := k5.cell (k4.cell a1 (fun h => h)) (by simpa using Hxn.out.1)
  have b3 := k5.cell (k4.cell a3 (fun h => h)) (by simpa using Hxn.out.2)
  have b4 := k5.cell (k4.cell a4 (fun h => h)) (by simpa using Hxn.out.2)
  have HX5 := Box.mk hX5
  have HS5 := Box.mk ((HS3.out.step0 HX3.out.rx k4).stepX (i := 18) hX4.rx (by decide) (.bool false))
  clear k4 k5 hX4 hX5 a1 a3 a4 a18 HX3 HS3 HWB
  go_wp2_with fail
  refine (HSet.out _ HX5.out).mono ?_
  intro e w6 h5
  have h6 := h5.from HS5.out
  rw [← HRa.out] at h6
  obtain ⟨rfl, h7⟩ := h6
  have H7 := Box.mk h7
  clear h5 h7
  go_wp2_with fail
  go_end0
  exact ⟨rfl, H7.out⟩

end Go.Proofs.Ytbjlapfcnldpoaa

/- Law 5's do: a field of a thing is set. -/
namespace Go.Proofs.Ytbjlapfcnldpoaa
set_option linter.unusedVariables false
set_option linter.unusedSimpArgs false
open Go.RowKit

set_option maxRecDepth 100000 in
set_option maxHeartbeats 4000000 in
theorem do_store_num {w : World} {xb hb b g : Nat} {P : PSt} {T : List Nat} {oa ob oc on : Int} (hX : IsX w xb hb b g P T) {x : Nat} (hreg : P.G.regs[um oa 8]? = some (.num x)) :
    Calls Try.prog 29 #[.pointer (some ⟨xb, 0, none⟩), .agg #[.int .i64 4, .int .i64 oa, .int .i64 ob, .int .i64 oc, .int .i64 on]] w (XSaid w xb hb b g P.G.all.length T P) := by
  have Hb0 := Box.mk hreg
  clear hreg
  obtain ⟨wb, hwb⟩ : ∃ wb, w.alloc (.cells #[.int .i64 4, .int .i64 oa, .int .i64 ob, .int .i64 oc, .int .i64 on] 54) = wb := ⟨_, rfl⟩
  have kb : Keeps (fun _ => False) w wb := by rw [← hwb]; exact (Keeps.refl _ w).alloc _
  have hbx : wb.heap[w.heap.size]? = some (.cells #[.int .i64 4, .int .i64 oa, .int .i64 ob, .int .i64 oc, .int .i64 on] 54 (0, 0)) := by rw [← hwb]; exact heap_alloc_new w _
  obtain ⟨q, hq⟩ : ∃ q, w.heap.size = q := ⟨_, rfl⟩
  rw [hq] at hbx
  have b0 := cell_of_heap hbx 0
  have b1 := cell_of_heap hbx 1
  have b2 := cell_of_heap hbx 2
  have b3 := cell_of_heap hbx 3
  have b4 := cell_of_heap hbx 4
  simp only [List.getElem?_toArray, List.getElem?_cons_zero, List.getElem?_cons_succ] at b0 b1 b2 b3 b4
  have hra := um_eq oa 8 (by omega) (by omega)
  have hrb := um_eq ob 8 (by omega) (by omega)
  have hrc := um_eq oc 8 (by omega) (by omega)
  have hal : um oa 8 < 8 := um_lt oa 8 (by omega) (by omega)
  have hbl : um ob 8 < 8 := um_lt ob 8 (by omega) (by omega)
  obtain ⟨ra, hra2⟩ : ∃ r, um oa 8 = r := ⟨_, rfl⟩
  obtain ⟨rb, hrb2⟩ : ∃ r, um ob 8 = r := ⟨_, rfl⟩
  obtain ⟨rc, hrc2⟩ : ∃ r, um oc 8 = r := ⟨_, rfl⟩
  have hra' : wrap64 ((IntKind.u64.wrap oa).tmod 8) = (ra : Int) := by rw [← hra2]; exact hra
  have hrb' : wrap64 ((IntKind.u64.wrap ob).tmod 8) = (rb : Int) := by rw [← hrb2]; exact hrb
  have hrc' : wrap64 ((IntKind.u64.wrap oc).tmod 8) = (rc : Int) := by rw [← hrc2]; exact hrc
  have Hreg : Box ((∀ W, Calls Try.prog 81 #[.int .i64 oa] W fun e w' => e = .returned (.int .i64 ra) ∧ w' = W) ∧ (∀ W, Calls Try.prog 81 #[.int .i64 ob] W fun e w' => e = .returned (.int .i64 rb) ∧ w' = W) ∧ ∀ W, Calls Try.prog 81 #[.int .i64 oc] W fun e w' => e = .returned (.int .i64 rc) ∧ w' = W) := ⟨fun W => by
    have h := reg_is oa W; rw [hra'] at h; exact h, fun W => by
    have h := reg_is ob W; rw [hrb'] at h; exact h, fun W => by
    have h := reg_is oc W; rw [hrc'] at h; exact h⟩
  rw [hra2] at hal
  rw [hrb2] at hbl
  have HX := Box.mk (hX.keeps0 kb)
  have HRa := Box.mk hra2
  have HRb := Box.mk hrb2
  have HSz := Box.mk ((FK.refl xb hb b g P.G.all.length T w).step0 hX.rx kb)
  have hal0 : (0 : Int) ≤ (ra : Int) := by omega
  have hbl0 : (0 : Int) ≤ (rb : Int) := by omega
  clear hX kb hbx hra hrb hrc hra' hrb' hrc' hra2 hrb2 hrc2
  go_enter Try.func29, Try.ntmps29
  go_wp2_with fail
  clear hwb hq
  go_quiet (first | (go_at_call 81; exact Calls.quiet_of_same ((Hreg.out.1 _).mono fun _ _ h => ⟨h.1, h.2⟩)) | (go_at_call 81; exact Calls.quiet_of_same (Hreg.out.2.1 _)) | (go_at_call 81; exact Calls.quiet_of_same (Hreg.out.2.2 _)))
  have kq := (Keeps.refl (fun _ => False) wb).drewN nq
  have HXq := Box.mk (HX.out.keeps0 kq)
  have HSq := Box.mk (HSz.out.step0 HX.out.rx kq)
  have d0 : (wb.drewN nq).cell? ⟨q, 0, none⟩ = some (.int .i64 4) := b0
  have d4 : (wb.drewN nq).cell? ⟨q, 4, none⟩ = some (.int .i64 on) := b4
  clear HX HSz kq b0 b1 b2 b3 b4
  generalize wb.drewN nq = wq at *
  have hreg := Hb0.out
  rw [HRa.out] at hreg
  obtain ⟨x1, x2⟩ := HXq.out.rx.reg hreg
  have x2' : wq.cell? ⟨xb, 1 + ra * 2 + 1, none⟩ = some (.pointer none) := x2
  clear x2 hreg
  go_wp2_with fail
  go_end0
  exact ⟨rfl, ⟨T, HXq.out, HSq.out, Or.inl rfl⟩⟩

set_option maxRecDepth 100000 in
set_option maxHeartbeats 4000000 in
theorem do_store_nil {w : World} {xb hb b g : Nat} {P : PSt} {T : List Nat} {oa ob oc on : Int} (hX : IsX w xb hb b g P T) {i : Nat} {t : PTh} (hreg : P.G.regs[um oa 8]? = some (.ref i)) (ht : P.G.all[i]? = some t) (h0 : t.fields.length = 0) :
    Calls Try.prog 29 #[.pointer (some ⟨xb, 0, none⟩), .agg #[.int .i64 4, .int .i64 oa, .int .i64 ob, .int .i64 oc, .int .i64 on]] w (XSaid w xb hb b g P.G.all.length T P) := by
  have Hb0 := Box.mk hreg
  have Ht := Box.mk ht
  have H0 := Box.mk h0
  clear hreg ht h0
  obtain ⟨wb, hwb⟩ : ∃ wb, w.alloc (.cells #[.int .i64 4, .int .i64 oa, .int .i64 ob, .int .i64 oc, .int .i64 on] 54) = wb := ⟨_, rfl⟩
  have kb : Keeps (fun _ => False) w wb := by rw [← hwb]; exact (Keeps.refl _ w).alloc _
  have hbx : wb.heap[w.heap.size]? = some (.cells #[.int .i64 4, .int .i64 oa, .int .i64 ob, .int .i64 oc, .int .i64 on] 54 (0, 0)) := by rw [← hwb]; exact heap_alloc_new w _
  obtain ⟨q, hq⟩ : ∃ q, w.heap.size = q := ⟨_, rfl⟩
  rw [hq] at hbx
  have b0 := cell_of_heap hbx 0
  have b1 := cell_of_heap hbx 1
  have b2 := cell_of_heap hbx 2
  have b3 := cell_of_heap hbx 3
  have b4 := cell_of_heap hbx 4
  simp only [List.getElem?_toArray, List.getElem?_cons_zero, List.getElem?_cons_succ] at b0 b1 b2 b3 b4
  have hra := um_eq oa 8 (by omega) (by omega)
  have hrb := um_eq ob 8 (by omega) (by omega)
  have hrc := um_eq oc 8 (by omega) (by omega)
  have hal : um oa 8 < 8 := um_lt oa 8 (by omega) (by omega)
  have hbl : um ob 8 < 8 := um_lt ob 8 (by omega) (by omega)
  obtain ⟨ra, hra2⟩ : ∃ r, um oa 8 = r := ⟨_, rfl⟩
  obtain ⟨rb, hrb2⟩ : ∃ r, um ob 8 = r := ⟨_, rfl⟩
  obtain ⟨rc, hrc2⟩ : ∃ r, um oc 8 = r := ⟨_, rfl⟩
  have hra' : wrap64 ((IntKind.u64.wrap oa).tmod 8) = (ra : Int) := by rw [← hra2]; exact hra
  have hrb' : wrap64 ((IntKind.u64.wrap ob).tmod 8) = (rb : Int) := by rw [← hrb2]; exact hrb
  have hrc' : wrap64 ((IntKind.u64.wrap oc).tmod 8) = (rc : Int) := by rw [← hrc2]; exact hrc
  have Hreg : Box ((∀ W, Calls Try.prog 81 #[.int .i64 oa] W fun e w' => e = .returned (.int .i64 ra) ∧ w' = W) ∧ (∀ W, Calls Try.prog 81 #[.int .i64 ob] W fun e w' => e = .returned (.int .i64 rb) ∧ w' = W) ∧ ∀ W, Calls Try.prog 81 #[.int .i64 oc] W fun e w' => e = .returned (.int .i64 rc) ∧ w' = W) := ⟨fun W => by
    have h := reg_is oa W; rw [hra'] at h; exact h, fun W => by
    have h := reg_is ob W; rw [hrb'] at h; exact h, fun W => by
    have h := reg_is oc W; rw [hrc'] at h; exact h⟩
  rw [hra2] at hal
  rw [hrb2] at hbl
  have HX := Box.mk (hX.keeps0 kb)
  have HRa := Box.mk hra2
  have HRb := Box.mk hrb2
  have HSz := Box.mk ((FK.refl xb hb b g P.G.all.length T w).step0 hX.rx kb)
  have hal0 : (0 : Int) ≤ (ra : Int) := by omega
  have hbl0 : (0 : Int) ≤ (rb : Int) := by omega
  clear hX kb hbx hra hrb hrc hra' hrb' hrc' hra2 hrb2 hrc2
  go_enter Try.func29, Try.ntmps29
  go_wp2_with fail
  clear hwb hq
  go_quiet (first | (go_at_call 81; exact Calls.quiet_of_same ((Hreg.out.1 _).mono fun _ _ h => ⟨h.1, h.2⟩)) | (go_at_call 81; exact Calls.quiet_of_same (Hreg.out.2.1 _)) | (go_at_call 81; exact Calls.quiet_of_same (Hreg.out.2.2 _)))
  have kq := (Keeps.refl (fun _ => False) wb).drewN nq
  have HXq := Box.mk (HX.out.keeps0 kq)
  have HSq := Box.mk (HSz.out.step0 HX.out.rx kq)
  have d0 : (wb.drewN nq).cell? ⟨q, 0, none⟩ = some (.int .i64 4) := b0
  have d4 : (wb.drewN nq).cell? ⟨q, 4, none⟩ = some (.int .i64 on) := b4
  clear HX HSz kq b0 b1 b2 b3 b4
  generalize wb.drewN nq = wq at *
  have hreg := Hb0.out
  rw [HRa.out] at hreg
  have h0 := H0.out
  obtain ⟨x1, x2⟩ := HXq.out.rx.reg hreg
  obtain ⟨fa, fc, c0, c1, -, -, -⟩ := HXq.out.rx.cells Ht.out
  rw [h0] at c1
  obtain ⟨tb, htb⟩ : ∃ tb, T.getD i 0 = tb := ⟨_, rfl⟩
  rw [htb] at c0 c1
  have x2' : wq.cell? ⟨xb, 1 + ra * 2 + 1, none⟩ = some (.pointer (some ⟨tb, 0, none⟩)) := by rw [x2, ← htb]; rfl
  clear x2 hreg htb H0 h0
  go_wp2_with fail
  go_end0
  exact ⟨rfl, ⟨T, HXq.out, HSq.out, Or.inl rfl⟩⟩

set_option maxRecDepth 100000 in
set_option maxHeartbeats 4000000 in
theorem do_store_form {w : World} {xb hb b g : Nat} {P : PSt} {T : List Nat} {oa ob oc on : Int} (hX : IsX w xb hb b g P T) {i : Nat} {t : PTh} (hreg : P.G.regs[um oa 8]? = some (.ref i)) (ht : P.G.all[i]? = some t) (h0 : 0 < t.fields.length) (hf : t.form ≠ 1) :
    Calls Try.prog 29 #[.pointer (some ⟨xb, 0, none⟩), .agg #[.int .i64 4, .int .i64 oa, .int .i64 ob, .int .i64 oc, .int .i64 on]] w (XSaid w xb hb b g P.G.all.length T P) := by
  have Hb0 := Box.mk hreg
  have Ht := Box.mk ht
  have H0 := Box.mk h0
  clear hreg ht h0
  obtain ⟨wb, hwb⟩ : ∃ wb, w.alloc (.cells #[.int .i64 4, .int .i64 oa, .int .i64 ob, .int .i64 oc, .int .i64 on] 54) = wb := ⟨_, rfl⟩
  have kb : Keeps (fun _ => False) w wb := by rw [← hwb]; exact (Keeps.refl _ w).alloc _
  have hbx : wb.heap[w.heap.size]? = some (.cells #[.int .i64 4, .int .i64 oa, .int .i64 ob, .int .i64 oc, .int .i64 on] 54 (0, 0)) := by rw [← hwb]; exact heap_alloc_new w _
  obtain ⟨q, hq⟩ : ∃ q, w.heap.size = q := ⟨_, rfl⟩
  rw [hq] at hbx
  have b0 := cell_of_heap hbx 0
  have b1 := cell_of_heap hbx 1
  have b2 := cell_of_heap hbx 2
  have b3 := cell_of_heap hbx 3
  have b4 := cell_of_heap hbx 4
  simp only [List.getElem?_toArray, List.getElem?_cons_zero, List.getElem?_cons_succ] at b0 b1 b2 b3 b4
  have hra := um_eq oa 8 (by omega) (by omega)
  have hrb := um_eq ob 8 (by omega) (by omega)
  have hrc := um_eq oc 8 (by omega) (by omega)
  have hal : um oa 8 < 8 := um_lt oa 8 (by omega) (by omega)
  have hbl : um ob 8 < 8 := um_lt ob 8 (by omega) (by omega)
  obtain ⟨ra, hra2⟩ : ∃ r, um oa 8 = r := ⟨_, rfl⟩
  obtain ⟨rb, hrb2⟩ : ∃ r, um ob 8 = r := ⟨_, rfl⟩
  obtain ⟨rc, hrc2⟩ : ∃ r, um oc 8 = r := ⟨_, rfl⟩
  have hra' : wrap64 ((IntKind.u64.wrap oa).tmod 8) = (ra : Int) := by rw [← hra2]; exact hra
  have hrb' : wrap64 ((IntKind.u64.wrap ob).tmod 8) = (rb : Int) := by rw [← hrb2]; exact hrb
  have hrc' : wrap64 ((IntKind.u64.wrap oc).tmod 8) = (rc : Int) := by rw [← hrc2]; exact hrc
  have Hreg : Box ((∀ W, Calls Try.prog 81 #[.int .i64 oa] W fun e w' => e = .returned (.int .i64 ra) ∧ w' = W) ∧ (∀ W, Calls Try.prog 81 #[.int .i64 ob] W fun e w' => e = .returned (.int .i64 rb) ∧ w' = W) ∧ ∀ W, Calls Try.prog 81 #[.int .i64 oc] W fun e w' => e = .returned (.int .i64 rc) ∧ w' = W) := ⟨fun W => by
    have h := reg_is oa W; rw [hra'] at h; exact h, fun W => by
    have h := reg_is ob W; rw [hrb'] at h; exact h, fun W => by
    have h := reg_is oc W; rw [hrc'] at h; exact h⟩
  rw [hra2] at hal
  rw [hrb2] at hbl
  have HX := Box.mk (hX.keeps0 kb)
  have HRa := Box.mk hra2
  have HRb := Box.mk hrb2
  have HSz := Box.mk ((FK.refl xb hb b g P.G.all.length T w).step0 hX.rx kb)
  have hal0 : (0 : Int) ≤ (ra : Int) := by omega
  have hbl0 : (0 : Int) ≤ (rb : Int) := by omega
  clear hX kb hbx hra hrb hrc hra' hrb' hrc' hra2 hrb2 hrc2
  go_enter Try.func29, Try.ntmps29
  go_wp2_with fail
  clear hwb hq
  go_quiet (first | (go_at_call 81; exact Calls.quiet_of_same ((Hreg.out.1 _).mono fun _ _ h => ⟨h.1, h.2⟩)) | (go_at_call 81; exact Calls.quiet_of_same (Hreg.out.2.1 _)) | (go_at_call 81; exact Calls.quiet_of_same (Hreg.out.2.2 _)))
  have kq := (Keeps.refl (fun _ => False) wb).drewN nq
  have HXq := Box.mk (HX.out.keeps0 kq)
  have HSq := Box.mk (HSz.out.step0 HX.out.rx kq)
  have d0 : (wb.drewN nq).cell? ⟨q, 0, none⟩ = some (.int .i64 4) := b0
  have d4 : (wb.drewN nq).cell? ⟨q, 4, none⟩ = some (.int .i64 on) := b4
  clear HX HSz kq b0 b1 b2 b3 b4
  generalize wb.drewN nq = wq at *
  have hreg := Hb0.out
  rw [HRa.out] at hreg
  have h0 := H0.out
  obtain ⟨x1, x2⟩ := HXq.out.rx.reg hreg
  obtain ⟨fa, fc, c0, c1, -, -, -⟩ := HXq.out.rx.cells Ht.out
  obtain ⟨n, hn⟩ : ∃ n, t.fields.length = n := ⟨_, rfl⟩
  rw [hn] at c1 h0
  have h0I : (0 : Int) < (n : Int) := by omega
  have e1 : ((t.form : Int) == 1) = false := by rw [beq_eq_false_iff_ne]; omega
  clear hn hf
  obtain ⟨tb, htb⟩ : ∃ tb, T.getD i 0 = tb := ⟨_, rfl⟩
  rw [htb] at c0 c1
  have x2' : wq.cell? ⟨xb, 1 + ra * 2 + 1, none⟩ = some (.pointer (some ⟨tb, 0, none⟩)) := by rw [x2, ← htb]; rfl
  clear x2 hreg htb H0
  go_wp2_with fail
  go_end0
  exact ⟨rfl, ⟨T, HXq.out, HSq.out, Or.inl rfl⟩⟩

end Go.Proofs.Ytbjlapfcnldpoaa

/- Law 5's do: a field of a thing is set. -/
namespace Go.Proofs.Ytbjlapfcnldpoaa
set_option linter.unusedVariables false
set_option linter.unusedSimpArgs false
open Go.RowKit

/-- What setting asks of a world. -/
structure SetR (w : World) (xb hb tb f y n fc rb : Nat) (v : Int) (o : Option Addr) : Prop where
  a0 : w.cell? ⟨xb, 0, none⟩ = some (.pointer (some ⟨hb, 0, none⟩))
  a18 : w.cell? ⟨xb, 18, none⟩ = some (.bool false)
  r1 : w.cell? ⟨xb, 1 + rb * 2, none⟩ = some (.int .u64 v)
  r2 : w.cell? ⟨xb, 1 + rb * 2 + 1, none⟩ = some (.pointer o)
  t1 : w.cell? ⟨tb, 1, none⟩ = some (.slice (some ⟨f, 0, none⟩) n fc)
  t2 : w.cell? ⟨tb, 2, none⟩ = some (.int .u64 (y : Nat))
theorem SetR.keeps {w w' : World} {xb hb tb f y n fc rb : Nat} {v : Int} {o : Option Addr} (h : SetR w xb hb tb f y n fc rb v o) {S : Nat → Prop} (k : Keeps S w w') (h1 : ¬ S xb) (h2 : ¬ S tb) : SetR w' xb hb tb f y n fc rb v o :=
  ⟨k.cell h.a0 h1, k.cell h.a18 h1, k.cell h.r1 h1, k.cell h.r2 h1, k.cell h.t1 h2, k.cell h.t2 h2⟩
theorem SetR.bad {w : World} {xb hb tb f y n fc rb : Nat} {v : Int} {o : Option Addr} (h : SetR w xb hb tb f y n fc rb v o) (ht : tb ≠ xb) (hr : rb < 8) : SetR (w.setCell ⟨xb, 18, none⟩ (.bool false)) xb hb tb f y n fc rb v o := by
  have k := (Keeps.refl (fun z => z = xb) w).setCell (p := ⟨xb, 18, none⟩) (fun _ => rfl) (.bool false)
  have oth : ∀ i u, i ≠ 18 → w.cell? ⟨xb, i, none⟩ = some u → (w.setCell ⟨xb, 18, none⟩ (.bool false)).cell? ⟨xb, i, none⟩ = some u := fun i u hi hu => by
    rw [← hu]
    exact World.cell?_setCell_other _ _ _ _ (fun e => by injection e with _ e2 _; omega)
  exact ⟨oth 0 _ (by omega) h.a0, World.cell?_setCell_same _ _ _ h.a18, oth _ _ (by have := hr; omega) h.r1, oth _ _ (by have := hr; omega) h.r2, k.cell h.t1 ht, k.cell h.t2 ht⟩

set_option maxRecDepth 100000 in
set_option maxHeartbeats 4000000 in
theorem do_store {w : World} {xb hb b g : Nat} {P : PSt} {T : List Nat} {oa ob oc on : Int} (hX : IsX w xb hb b g P T) (hF : Fit P) {i : Nat} {t : PTh} {v : PV} {s' : TH} (hreg : P.G.regs[um oa 8]? = some (.ref i)) (ht : P.G.all[i]? = some t) (h0 : 0 < t.fields.length) (hf : t.form = 1) (hv : P.G.regs[um ob 8]? = some v) (hs : tset P.s (P.U.getD i 0) (um on t.fields.length) (pword P.U v) = some s') :
    Calls Try.prog 29 #[.pointer (some ⟨xb, 0, none⟩), .agg #[.int .i64 4, .int .i64 oa, .int .i64 ob, .int .i64 oc, .int .i64 on]] w (XSaid w xb hb b g P.G.all.length T (P.put i (um on t.fields.length) t v s')) := by
  have hun := um_eq on t.fields.length (by omega) (by have := hX.rx.wf.small t (List.mem_of_getElem? ht); omega)
  have hul : um on t.fields.length < t.fields.length := um_lt on t.fields.length (by omega) (by have := hX.rx.wf.small t (List.mem_of_getElem? ht); omega)
  have hn200 := hX.rx.wf.small t (List.mem_of_getElem? ht)
  obtain ⟨m, hm⟩ : ∃ m, um on t.fields.length = m := ⟨_, rfl⟩
  rw [hm] at hun hul hs ⊢
  obtain ⟨n, hn⟩ : ∃ n, t.fields.length = n := ⟨_, rfl⟩
  rw [hn] at hun hul h0 hn200
  have Hb0 := Box.mk hreg
  have Ht := Box.mk ht
  have Hf := Box.mk hf
  have Hv := Box.mk hv
  have Hn := Box.mk hn
  have HF := Box.mk hF
  have Hs := Box.mk hs
  have hnI : IntKind.u64.wrap (n : Int) = (n : Int) := by rw [IntKind.wrap_u64]; omega
  have hn0 : ((n : Int) == 0) = false := by rw [beq_eq_false_iff_ne]; omega
  clear hreg ht hf hv hm hn hF hs
  obtain ⟨wb, hwb⟩ : ∃ wb, w.alloc (.cells #[.int .i64 4, .int .i64 oa, .int .i64 ob, .int .i64 oc, .int .i64 on] 54) = wb := ⟨_, rfl⟩
  have kb : Keeps (fun _ => False) w wb := by rw [← hwb]; exact (Keeps.refl _ w).alloc _
  have hbx : wb.heap[w.heap.size]? = some (.cells #[.int .i64 4, .int .i64 oa, .int .i64 ob, .int .i64 oc, .int .i64 on] 54 (0, 0)) := by rw [← hwb]; exact heap_alloc_new w _
  obtain ⟨q, hq⟩ : ∃ q, w.heap.size = q := ⟨_, rfl⟩
  rw [hq] at hbx
  have b0 := cell_of_heap hbx 0
  have b1 := cell_of_heap hbx 1
  have b2 := cell_of_heap hbx 2
  have b3 := cell_of_heap hbx 3
  have b4 := cell_of_heap hbx 4
  simp only [List.getElem?_toArray, List.getElem?_cons_zero, List.getElem?_cons_succ] at b0 b1 b2 b3 b4
  have hra := um_eq oa 8 (by omega) (by omega)
  have hrb := um_eq ob 8 (by omega) (by omega)
  have hrc := um_eq oc 8 (by omega) (by omega)
  have hal : um oa 8 < 8 := um_lt oa 8 (by omega) (by omega)
  have hbl : um ob 8 < 8 := um_lt ob 8 (by omega) (by omega)
  obtain ⟨ra, hra2⟩ : ∃ r, um oa 8 = r := ⟨_, rfl⟩
  obtain ⟨rb, hrb2⟩ : ∃ r, um ob 8 = r := ⟨_, rfl⟩
  obtain ⟨rc, hrc2⟩ : ∃ r, um oc 8 = r := ⟨_, rfl⟩
  have hra' : wrap64 ((IntKind.u64.wrap oa).tmod 8) = (ra : Int) := by rw [← hra2]; exact hra
  have hrb' : wrap64 ((IntKind.u64.wrap ob).tmod 8) = (rb : Int) := by rw [← hrb2]; exact hrb
  have hrc' : wrap64 ((IntKind.u64.wrap oc).tmod 8) = (rc : Int) := by rw [← hrc2]; exact hrc
  have Hreg : Box ((∀ W, Calls Try.prog 81 #[.int .i64 oa] W fun e w' => e = .returned (.int .i64 ra) ∧ w' = W) ∧ (∀ W, Calls Try.prog 81 #[.int .i64 ob] W fun e w' => e = .returned (.int .i64 rb) ∧ w' = W) ∧ ∀ W, Calls Try.prog 81 #[.int .i64 oc] W fun e w' => e = .returned (.int .i64 rc) ∧ w' = W) := ⟨fun W => by
    have h := reg_is oa W; rw [hra'] at h; exact h, fun W => by
    have h := reg_is ob W; rw [hrb'] at h; exact h, fun W => by
    have h := reg_is oc W; rw [hrc'] at h; exact h⟩
  rw [hra2] at hal
  rw [hrb2] at hbl
  have HX := Box.mk (hX.keeps0 kb)
  have HRa := Box.mk hra2
  have HRb := Box.mk hrb2
  have HSz := Box.mk ((FK.refl xb hb b g P.G.all.length T w).step0 hX.rx kb)
  have hal0 : (0 : Int) ≤ (ra : Int) := by omega
  have hbl0 : (0 : Int) ≤ (rb : Int) := by omega
  clear hX kb hbx hra hrb hrc hra' hrb' hrc' hra2 hrb2 hrc2
  go_enter Try.func29, Try.ntmps29
  go_wp2_with fail
  clear hwb hq
  go_quiet (first | (go_at_call 81; exact Calls.quiet_of_same ((Hreg.out.1 _).mono fun _ _ h => ⟨h.1, h.2⟩)) | (go_at_call 81; exact Calls.quiet_of_same (Hreg.out.2.1 _)) | (go_at_call 81; exact Calls.quiet_of_same (Hreg.out.2.2 _)))
  have kq := (Keeps.refl (fun _ => False) wb).drewN nq
  have HXq := Box.mk (HX.out.keeps0 kq)
  have HSq := Box.mk (HSz.out.step0 HX.out.rx kq)
  have d0 : (wb.drewN nq).cell? ⟨q, 0, none⟩ = some (.int .i64 4) := b0
  have d4 : (wb.drewN nq).cell? ⟨q, 4, none⟩ = some (.int .i64 on) := b4
  clear HX HSz kq b0 b1 b2 b3 b4
  generalize wb.drewN nq = wq at *
  have hreg := Hb0.out
  rw [HRa.out] at hreg
  have hrgv := Hv.out
  rw [HRb.out] at hrgv
  obtain ⟨x1, x2⟩ := HXq.out.rx.reg hreg
  obtain ⟨fa, fc, c0, c1, c2, -, hfs⟩ := HXq.out.rx.cells Ht.out
  rw [Hn.out] at c1 hfs
  obtain ⟨f, rfl, hfl, hffr, -, hcl⟩ := hfs h0
  obtain ⟨vo, hvo⟩ : ∃ vo, t.fields[m]? = some vo := ⟨_, List.getElem?_eq_getElem (by have := Hn.out; omega)⟩
  obtain ⟨z1, z2⟩ := hcl m vo hvo
  rw [Hf.out] at c0
  obtain ⟨tb, htb⟩ : ∃ tb, T.getD i 0 = tb := ⟨_, rfl⟩
  rw [htb] at c0 c1 c2
  have x2' : wq.cell? ⟨xb, 1 + ra * 2 + 1, none⟩ = some (.pointer (some ⟨tb, 0, none⟩)) := by rw [x2, ← htb]; rfl
  have h0I : (0 : Int) < (n : Int) := by omega
  have Hz := Box.mk (And.intro z1 z2)
  have Htb := Box.mk htb
  obtain ⟨o, ho⟩ : ∃ o, pvp T v = .pointer o := by cases v <;> exact ⟨_, rfl⟩
  have Ho := Box.mk ho
  obtain ⟨v1, v2⟩ := HXq.out.rx.reg hrgv
  rw [ho] at v2
  have Hvr := Box.mk (And.intro v1 v2)
  clear x2 hreg htb hcl hfs z1 z2 x1 v1 v2 hrgv hvo hffr ho
  have hpr : PR P.G i := .reg (List.mem_of_getElem? Hb0.out)
  obtain ⟨cc, hd, p1, p2, p3, p4, p5, p6, p7⟩ := HF.out.obj i t hpr Ht.out
  have hx64 : 8 * P.U.getD i 0 + 1 < 18446744073709551616 := (HF.out.val (.ref i) (List.mem_of_getElem? Hb0.out)).1
  have hvv := HF.out.val v (List.mem_of_getElem? Hv.out)
  have HSt := Box.mk (fun (W : World) (hW : IsTH W hb b g P.s) => set_is (i := m) (x := pword P.U v) hW hx64 p1 p2 (by rw [p4, Hn.out]; exact hul) p5 HF.out.now hvv.1 Hs.out (Or.inl ⟨by rw [p3, Hf.out], hvv.2⟩))
  have Hvl : Box (∀ k, v = .ref k → k < P.G.all.length) := ⟨fun k e => by subst e; exact HXq.out.rx.wf.regs k (List.mem_of_getElem? Hv.out)⟩
  clear p1 p2 p3 p4 p5 p6 p7 hx64 hpr hvv
  obtain ⟨y, hy⟩ : ∃ y, 8 * P.U.getD i 0 + 1 = y := ⟨_, rfl⟩
  rw [hy] at c2 HSt
  obtain ⟨z, hz⟩ : ∃ z, pword P.U v = z := ⟨_, rfl⟩
  rw [hz] at HSt
  have Hz2 := Box.mk hz
  clear hy hz
  go_wp2_with fail
  go_quiet (fail)
  rw [hun]
  have kq2 := (Keeps.refl (fun _ => False) wq).drewN nq
  have HX2 := Box.mk (HXq.out.keeps0 kq2)
  have HS2 := Box.mk (HSq.out.step0 HXq.out.rx kq2)
  have g1 : (wq.drewN nq).cell? ⟨tb, 1, none⟩ = some (.slice (some ⟨f, 0, none⟩) n fc) := c1
  have g2 : (wq.drewN nq).cell? ⟨tb, 2, none⟩ = some (.int .u64 (y : Nat)) := c2
  have HG : Box (SetR (wq.drewN nq) xb hb tb f y n fc rb (pvw v : Nat) o) := ⟨⟨HX2.out.rx.at0, HX2.out.rx.at18, Hvr.out.1, Hvr.out.2, g1, g2⟩⟩
  have Hzz : Box ((wq.drewN nq).cell? ⟨f, m * 2, none⟩ = some (.int .u64 (pvw vo : Nat)) ∧ (wq.drewN nq).cell? ⟨f, m * 2 + 1, none⟩ = some (pvp T vo)) := Hz
  have Htn : Box ((¬ foot3 hb b g tb ∧ ¬ foot3 hb b g f ∧ ¬ foot3 hb b g xb) ∧ tb ≠ xb ∧ f ≠ xb ∧ f ≠ tb) := ⟨by
    obtain ⟨fv, fb, q1, q2⟩ := HXq.out.rx.thing i t Ht.out
    rw [Htb.out] at q1
    have h1 := cell_of_heap q1 1
    simp only [List.getElem?_toArray, List.getElem?_cons_zero, List.getElem?_cons_succ] at h1
    rw [c1] at h1
    injection h1 with h1
    obtain ⟨cs, hcs⟩ := own_type q2 (z := f) (by rw [← h1]; rfl)
    obtain ⟨av1, base1, hh, -⟩ := HXq.out.rx.head
    exact ⟨⟨fun e => (foot3_notX HXq.out.th _ _ _ e q1).2.1 rfl, fun e => (foot3_notX HXq.out.th _ _ _ e hcs).2.2.2 rfl, HXq.out.nf⟩, blk_ne q1 hh (by decide), blk_ne hcs hh (by decide), blk_ne hcs q1 (by decide)⟩⟩
  clear kq2 HXq HSq c0 c1 c2 x2' d0 d4 Hz Hvr g1 g2
  generalize wq.drewN nq = w2 at *
  have HW : Box (∀ W : World, Keeps (fun _ => False) w2 W → Calls Try.prog 32 #[.agg #[.int .u64 (pvw v : Nat), .pointer o]] W fun e w' => e = .returned (.int .u64 (z : Nat)) ∧ Keeps (fun _ => False) W w') := ⟨fun W kW => by
    have h := word_is (HX2.out.rx.keeps0 kW) v Hvl.out
    rw [Ho.out, Hz2.out] at h; exact h⟩
  go_wp2_with fail
  have G0 := HG.out
  have hbl8 : (rb : Int) < 8 := by omega
  have q0 := G0.a0
  have q18 := G0.a18
  have qr1 := G0.r1
  have qr2 := G0.r2
  have qt2 := G0.t2
  go_region_held3 (fun w' => w'.cell? ⟨xb, 0, none⟩ = some (.pointer (some ⟨hb, 0, none⟩)) ∧ w'.cell? ⟨xb, 18, none⟩ = some (.bool false) ∧ w'.cell? ⟨xb, 1 + rb * 2, none⟩ = some (.int .u64 (pvw v : Nat)) ∧ w'.cell? ⟨xb, 1 + rb * 2 + 1, none⟩ = some (.pointer o) ∧ w'.cell? ⟨tb, 2, none⟩ = some (.int .u64 (y : Nat))) (first | exact ⟨q0, q18, qr1, qr2, qt2⟩ | exact ⟨kj.cell q0 (fun h => h), kj.cell q18 (fun h => h), kj.cell qr1 (fun h => h), kj.cell qr2 (fun h => h), kj.cell qt2 (fun h => h)⟩ | exact ⟨G5.a0, G5.a18, G5.r1, G5.r2, G5.t2⟩ | exact ⟨(G5.bad Htn.out.2.1 hbl).a0, (G5.bad Htn.out.2.1 hbl).a18, (G5.bad Htn.out.2.1 hbl).r1, (G5.bad Htn.out.2.1 hbl).r2, (G5.bad Htn.out.2.1 hbl).t2⟩ | go_keep) (first | (go_at_call 32; refine (HW.out _ ((Keeps.refl (fun _ => False) w2).drewN 1)).mono ?_; rintro e w4 ⟨rfl, kj⟩) | (go_at_call 25; refine (HSt.out _ (HX2.out.th.keeps0 (((Keeps.refl (fun _ => False) w2).drewN 1).trans kj))).mono ?_; rintro e w5 ⟨rfl, hI5, k5⟩; have G5 := (G0.keeps (((Keeps.refl (fun _ => False) w2).drewN 1).trans kj) (fun h => h) (fun h => h)).keeps k5 Htn.out.1.2.2 Htn.out.1.1; have f5 := (k5.frozen (p := ⟨xb, 18, none⟩) (Nat.lt_of_lt_of_le (HX2.out.rx.keeps0 (((Keeps.refl (fun _ => False) w2).drewN 1).trans kj)).lt (Nat.le_refl _)) Htn.out.1.2.2).trans ((HX2.out.rx.keeps0 (((Keeps.refl (fun _ => False) w2).drewN 1).trans kj)).frozen 18)))
  have kj2 : Keeps (fun _ => False) w2 w4 := ((Keeps.refl (fun _ => False) w2).drewN 1).trans kj
  have hX4 := HX2.out.keeps0 kj2
  have hR5 := hX4.rx.heap hX4.th k5
  have hE5 := hX4.sep.keepsT hX4.rx k5 (foot3_notT hX4.th)
  have hrb := hR5.setBad false
  have HR7 := Box.mk hrb.1
  have HI7 := Box.mk (hI5.keepsX hrb.2 hR5.xbX)
  have HE7 := Box.mk (hE5.keepsT hR5 hrb.2 hR5.xbT)
  have HG7 := Box.mk (G5.bad Htn.out.2.1 hbl)
  have hzz : ∀ k, w2.cell? ⟨f, k, none⟩ ≠ none → ∃ u, (w5.setCell ⟨xb, 18, none⟩ (.bool false)).cell? ⟨f, k, none⟩ = some u := fun k hk => by
    obtain ⟨u, hu⟩ := Option.ne_none_iff_exists'.1 hk
    exact ⟨u, hrb.2.cell (k5.cell (kj2.cell hu (fun h => h)) Htn.out.1.2.1) Htn.out.2.2.1⟩
  obtain ⟨u1, hu1⟩ := hzz (m * 2) (by rw [Hzz.out.1]; simp)
  obtain ⟨u2, hu2⟩ := hzz (m * 2 + 1) (by rw [Hzz.out.2]; simp)
  have HS7 := Box.mk (((HS2.out.step0 HX2.out.rx kj2).stepF hX4.rx hX4.th k5).stepX (i := 18) hR5 (by decide) (.bool false))
  clear kj kj2 hX4 hR5 hE5 hrb hI5 G5 f5 k5 q0 q18 qr1 qr2 qt2 G0 HG Hzz HX2 HS2 HW HSt hzz
  generalize w5.setCell ⟨xb, 18, none⟩ (.bool false) = w7 at *
  have G7 := HG7.out
  have q1 := G7.t1
  have qr1 := G7.r1
  have qr2 := G7.r2
  have hff : ∀ k, w7.frozen? ⟨f, k, none⟩ = false := fun k => by
    obtain ⟨fv, fb, r1, r2⟩ := HR7.out.thing i t Ht.out
    rw [Htb.out] at r1
    have h1 := cell_of_heap r1 1
    simp only [List.getElem?_toArray, List.getElem?_cons_zero, List.getElem?_cons_succ] at h1
    rw [q1] at h1
    injection h1 with h1
    obtain ⟨cs, hcs⟩ := own_type r2 (z := f) (by rw [← h1]; rfl)
    exact frozen_of_heap hcs k
  have ff1 := hff (m * 2)
  have ff2 := hff (m * 2 + 1)
  have hst := HR7.out.setField HE7.out (q := m) (v := v) Ht.out (by rw [Hn.out]; exact hul) Hvl.out (f := f) (fc := fc) (by rw [Htb.out, Hn.out]; exact q1)
  rw [Ho.out] at hst
  have s1 := hst.2.1.cell q1 (Ne.symm Htn.out.2.2.2)
  have s2 := hst.2.1.cell qr1 (Ne.symm Htn.out.2.2.1)
  have s3 := hst.2.1.cell qr2 (Ne.symm Htn.out.2.2.1)
  have HST := Box.mk hst
  have hmI : (0 : Int) ≤ (m : Int) := by omega
  have hmn : (m : Int) < (n : Int) := by omega
  clear hst hff
  go_wp2_with fail
  go_region_held3 (fun w' => w'.cell? ⟨tb, 1, none⟩ = some (.slice (some ⟨f, 0, none⟩) n fc) ∧ w'.cell? ⟨xb, 1 + rb * 2, none⟩ = some (.int .u64 (pvw v : Nat)) ∧ w'.cell? ⟨xb, 1 + rb * 2 + 1, none⟩ = some (.pointer o)) (first | exact ⟨q1, qr1, qr2⟩ | exact ⟨s1, s2, s3⟩ | go_keep) (first | fail)
  have hX8 : IsX ((w7.setCell ⟨f, m * 2, none⟩ (.int .u64 (pvw v : Nat))).setCell ⟨f, m * 2 + 1, none⟩ (.pointer o)).drew xb hb b g (P.put i m t v s') T := by
    obtain ⟨hr, hk, cs, hcs⟩ := HST.out
    have kd := (Keeps.refl (fun _ => False) ((w7.setCell ⟨f, m * 2, none⟩ (.int .u64 (pvw v : Nat))).setCell ⟨f, m * 2 + 1, none⟩ (.pointer o))).drew
    refine ⟨hr.keeps0 kd, (HI7.out.keepsX hk (fun z c ty e hz hn => ?_)).keeps0 kd, ?_⟩
    · subst e
      rw [hcs] at hz
      injection hz with hz
      injection hz with _ h2
      exact hn.2.2.2 h2.symm
    · have h := (HE7.out.keepsT HR7.out hk (fun z c e hz => by
        subst e
        rw [hcs] at hz
        injection hz with hz
        injection hz with _ h2
        exact absurd h2 (by decide))).keeps kd (fun j hj => ⟨by
          obtain ⟨c2, h2⟩ := HR7.out.isT hj
          exact Nat.lt_of_lt_of_le (lt_of_heap h2) hk.size, fun h => h⟩)
      simpa [PSt.put] using h
  have HX8 := Box.mk hX8
  have HS8 : Box (FK xb hb b g P.G.all.length T P.G.all.length T w ((w7.setCell ⟨f, m * 2, none⟩ (.int .u64 (pvw v : Nat))).setCell ⟨f, m * 2 + 1, none⟩ (.pointer o)).drew) := ⟨by
    have hno : ∀ z cs ty, w7.heap[z]? = some (.cells cs ty (0, 0)) → ty ≠ 58 → z ≠ f := fun z cs ty hz hne e => by
      subst e
      obtain ⟨cs2, hcs2⟩ := HST.out.2.2
      rw [hcs2] at hz
      injection hz with hz
      injection hz with _ h2
      exact hne h2.symm
    obtain ⟨av1, base1, hh, -⟩ := HR7.out.head
    refine HS7.out.step (HST.out.2.1.drew) (fun S _ h1 z hz => by
      rw [hz]
      exact h1.fld i (List.getElem?_eq_some_iff.1 Ht.out).1 f n fc (by rw [Htb.out]; exact q1)) (HST.out.2.1.same HR7.out.lt (hno _ _ _ hh (by decide))) (fun j hj => HST.out.2.1.same (HR7.out.isTlt hj) (fun e => ?_))
    obtain ⟨cs, hcs⟩ := HR7.out.isT hj
    exact hno _ _ _ hcs (by decide) e⟩
  clear hX8
  go_wp2_with fail
  go_end0
  exact ⟨rfl, ⟨T, HX8.out, by have h := HS8.out; have e : (P.put i m t v s').G.all.length = P.G.all.length := (by simp [PSt.put]); rw [e]; exact h, Or.inl rfl⟩⟩

end Go.Proofs.Ytbjlapfcnldpoaa

/- Law 5's do: increments; and all kinds together. -/
namespace Go.Proofs.Ytbjlapfcnldpoaa
set_option linter.unusedVariables false
set_option linter.unusedSimpArgs false
open Go.RowKit

set_option maxRecDepth 100000 in
set_option maxHeartbeats 4000000 in
theorem do_incr {w : World} {xb hb b g : Nat} {P : PSt} {T : List Nat} {oa ob oc on : Int} (hX : IsX w xb hb b g P T) (hF : Fit P) {s1 : TH} (h : tincr (min (max on 0) 300).toNat P.s = some s1) :
    Calls Try.prog 29 #[.pointer (some ⟨xb, 0, none⟩), .agg #[.int .i64 6, .int .i64 oa, .int .i64 ob, .int .i64 oc, .int .i64 on]] w (XSaid w xb hb b g P.G.all.length T { P with s := s1 }) := by
  obtain ⟨m, hm⟩ : ∃ m, (min (max on 0) 300).toNat = m := ⟨_, rfl⟩
  rw [hm] at h
  have HIn := Box.mk (fun (W : World) (hW : IsTH W hb b g P.s) => incr_is hW h hF.now (by omega))
  have HmI := Box.mk hm
  clear h hF hm
  obtain ⟨wb, hwb⟩ : ∃ wb, w.alloc (.cells #[.int .i64 6, .int .i64 oa, .int .i64 ob, .int .i64 oc, .int .i64 on] 54) = wb := ⟨_, rfl⟩
  have kb : Keeps (fun _ => False) w wb := by rw [← hwb]; exact (Keeps.refl _ w).alloc _
  have hbx : wb.heap[w.heap.size]? = some (.cells #[.int .i64 6, .int .i64 oa, .int .i64 ob, .int .i64 oc, .int .i64 on] 54 (0, 0)) := by rw [← hwb]; exact heap_alloc_new w _
  obtain ⟨q, hq⟩ : ∃ q, w.heap.size = q := ⟨_, rfl⟩
  rw [hq] at hbx
  have Hqn : Box (¬ foot3 hb b g q) := ⟨by have := hX.th.lt; unfold foot3; omega⟩
  have b0 := cell_of_heap hbx 0
  have b1 := cell_of_heap hbx 1
  have b2 := cell_of_heap hbx 2
  have b3 := cell_of_heap hbx 3
  have b4 := cell_of_heap hbx 4
  simp only [List.getElem?_toArray, List.getElem?_cons_zero, List.getElem?_cons_succ] at b0 b1 b2 b3 b4
  have hra := um_eq oa 8 (by omega) (by omega)
  have hrb := um_eq ob 8 (by omega) (by omega)
  have hrc := um_eq oc 8 (by omega) (by omega)
  have hal : um oa 8 < 8 := um_lt oa 8 (by omega) (by omega)
  have hbl : um ob 8 < 8 := um_lt ob 8 (by omega) (by omega)
  obtain ⟨ra, hra2⟩ : ∃ r, um oa 8 = r := ⟨_, rfl⟩
  obtain ⟨rb, hrb2⟩ : ∃ r, um ob 8 = r := ⟨_, rfl⟩
  obtain ⟨rc, hrc2⟩ : ∃ r, um oc 8 = r := ⟨_, rfl⟩
  have hra' : wrap64 ((IntKind.u64.wrap oa).tmod 8) = (ra : Int) := by rw [← hra2]; exact hra
  have hrb' : wrap64 ((IntKind.u64.wrap ob).tmod 8) = (rb : Int) := by rw [← hrb2]; exact hrb
  have hrc' : wrap64 ((IntKind.u64.wrap oc).tmod 8) = (rc : Int) := by rw [← hrc2]; exact hrc
  have Hreg : Box ((∀ W, Calls Try.prog 81 #[.int .i64 oa] W fun e w' => e = .returned (.int .i64 ra) ∧ w' = W) ∧ (∀ W, Calls Try.prog 81 #[.int .i64 ob] W fun e w' => e = .returned (.int .i64 rb) ∧ w' = W) ∧ ∀ W, Calls Try.prog 81 #[.int .i64 oc] W fun e w' => e = .returned (.int .i64 rc) ∧ w' = W) := ⟨fun W => by
    have h := reg_is oa W; rw [hra'] at h; exact h, fun W => by
    have h := reg_is ob W; rw [hrb'] at h; exact h, fun W => by
    have h := reg_is oc W; rw [hrc'] at h; exact h⟩
  rw [hra2] at hal
  rw [hrb2] at hbl
  have HX := Box.mk (hX.keeps0 kb)
  have HRa := Box.mk hra2
  have HRb := Box.mk hrb2
  have HSz := Box.mk ((FK.refl xb hb b g P.G.all.length T w).step0 hX.rx kb)
  have hal0 : (0 : Int) ≤ (ra : Int) := by omega
  have hbl0 : (0 : Int) ≤ (rb : Int) := by omega
  clear hX kb hbx hra hrb hrc hra' hrb' hrc' hra2 hrb2 hrc2
  go_enter Try.func29, Try.ntmps29
  go_wp2_with fail
  clear hwb hq
  go_quiet (first | (go_at_call 81; exact Calls.quiet_of_same ((Hreg.out.1 _).mono fun _ _ h => ⟨h.1, h.2⟩)) | (go_at_call 81; exact Calls.quiet_of_same (Hreg.out.2.1 _)) | (go_at_call 81; exact Calls.quiet_of_same (Hreg.out.2.2 _)))
  have kq := (Keeps.refl (fun _ => False) wb).drewN nq
  have HXq := Box.mk (HX.out.keeps0 kq)
  have HSq := Box.mk (HSz.out.step0 HX.out.rx kq)
  have d0 : (wb.drewN nq).cell? ⟨q, 0, none⟩ = some (.int .i64 6) := b0
  have d4 : (wb.drewN nq).cell? ⟨q, 4, none⟩ = some (.int .i64 on) := b4
  clear HX HSz kq b0 b1 b2 b3 b4
  generalize wb.drewN nq = wq at *
  have a0 := HXq.out.rx.at0
  have fin : ∀ w3, IsTH w3 hb b g s1 → Keeps (foot3 hb b g) (wq.drewN 1) w3 → IsX w3 xb hb b g { P with s := s1 } T ∧ FK xb hb b g P.G.all.length T P.G.all.length T w w3 := fun w3 hI3 kj => by
    have kj2 : Keeps (foot3 hb b g) wq w3 := ⟨kj.os, kj.tape, kj.output, kj.size, kj.block⟩
    exact ⟨⟨HXq.out.rx.heap HXq.out.th kj2, hI3, HXq.out.sep.keepsT HXq.out.rx kj2 (foot3_notT HXq.out.th)⟩, HSq.out.stepF HXq.out.rx HXq.out.th kj2⟩
  have Fin := Box.mk fin
  clear fin
  rcases (show on < 0 ∨ (¬ on < 0 ∧ ¬ (300 : Int) < on) ∨ (¬ on < 0 ∧ (300 : Int) < on) by omega) with h1 | ⟨h1, h2⟩ | ⟨h1, h2⟩
  · have e : (m : Int) = 0 := by have := HmI.out; omega
    rw [e] at HIn
    clear e
    go_wp2_with fail
    go_region_held3 (fun w' => w'.cell? ⟨xb, 0, none⟩ = some (.pointer (some ⟨hb, 0, none⟩)) ∧ w'.cell? ⟨q, 4, none⟩ = some (.int .i64 on)) (first | exact ⟨a0, d4⟩ | exact ⟨kj.cell a0 HXq.out.nf, kj.cell d4 Hqn.out⟩ | go_keep) (first | (go_at_call 18; refine (HIn.out _ (HXq.out.th.keeps0 ((Keeps.refl (fun _ => False) wq).drewN 1))).mono ?_; rintro e w3 ⟨rfl, hI3, kj⟩))
    have HX3 := Box.mk (Fin.out _ hI3 kj)
    clear kj hI3
    go_wp2_with fail
    go_end0
    exact ⟨rfl, ⟨T, HX3.out.1, HX3.out.2, Or.inl rfl⟩⟩
  · have e : (m : Int) = on := by have := HmI.out; omega
    rw [e] at HIn
    have e1 : (if on < 0 then 0 else on) = on := if_neg h1
    have e2 : (if (300 : Int) < on then 300 else on) = on := if_neg h2
    clear e h1 h2
    go_wp2_with fail
    go_region_held3 (fun w' => w'.cell? ⟨xb, 0, none⟩ = some (.pointer (some ⟨hb, 0, none⟩)) ∧ w'.cell? ⟨q, 4, none⟩ = some (.int .i64 on)) (first | exact ⟨a0, d4⟩ | exact ⟨kj.cell a0 HXq.out.nf, kj.cell d4 Hqn.out⟩ | go_keep) (first | (go_at_call 18; refine (HIn.out _ (HXq.out.th.keeps0 ((Keeps.refl (fun _ => False) wq).drewN 1))).mono ?_; rintro e w3 ⟨rfl, hI3, kj⟩))
    have HX3 := Box.mk (Fin.out _ hI3 kj)
    clear kj hI3
    go_wp2_with fail
    go_end0
    exact ⟨rfl, ⟨T, HX3.out.1, HX3.out.2, Or.inl rfl⟩⟩
  · have e : (m : Int) = 300 := by have := HmI.out; omega
    rw [e] at HIn
    have e1 : (if on < 0 then 0 else on) = on := if_neg h1
    have e2 : (if (300 : Int) < on then 300 else on) = 300 := if_pos h2
    clear e h1 h2
    go_wp2_with fail
    go_region_held3 (fun w' => w'.cell? ⟨xb, 0, none⟩ = some (.pointer (some ⟨hb, 0, none⟩)) ∧ w'.cell? ⟨q, 4, none⟩ = some (.int .i64 on)) (first | exact ⟨a0, d4⟩ | exact ⟨kj.cell a0 HXq.out.nf, kj.cell d4 Hqn.out⟩ | go_keep) (first | (go_at_call 18; refine (HIn.out _ (HXq.out.th.keeps0 ((Keeps.refl (fun _ => False) wq).drewN 1))).mono ?_; rintro e w3 ⟨rfl, hI3, kj⟩))
    have HX3 := Box.mk (Fin.out _ hI3 kj)
    clear kj hI3
    go_wp2_with fail
    go_end0
    exact ⟨rfl, ⟨T, HX3.out.1, HX3.out.2, Or.inl rfl⟩⟩

/-- do, whatever is done. -/
theorem do_is {w : World} {xb hb b g : Nat} {P P' : PSt} {T : List Nat} {o : POp} (hX : IsX w xb hb b g P T) (hF : Fit P) (h3 : ∀ t ∈ P.G.all, t.form ≠ 3) (hlen : T.length ≤ 5000) (hd : Did P o P') :
    Calls Try.prog 29 #[.pointer (some ⟨xb, 0, none⟩), .agg #[.int .i64 o.kind, .int .i64 o.a, .int .i64 o.b, .int .i64 o.c, .int .i64 o.n]] w (XSaid w xb hb b g P.G.all.length T P') := by
  have ha : um o.a 8 < 8 := um_lt o.a 8 (by omega) (by omega)
  have hn : um o.n 128 < 128 := um_lt o.n 128 (by omega) (by omega)
  obtain ⟨ok, oa, ob, oc, on⟩ := o
  have made : ∀ (form : Nat) {P' : PSt}, form = 1 ∨ form = 2 → MadeTo P (um oa 8) form (um on 128) P' → ∀ W, IsX W xb hb b g P T → Calls Try.prog 82 #[.pointer (some ⟨xb, 0, none⟩), .int .i64 (um oa 8 : Nat), .int .i64 form, .int .i64 (um on 128 : Nat), .slice none 0 0] W (XSaid W xb hb b g P.G.all.length T P') := by
    intro form P' hf hm W hW
    cases hm with
    | full h1 h0 => exact made_full hW hF.now hF.k (by omega) (by omega) (by show um on 128 ≤ 127; have : um on 128 < 128 := hn; omega) h1 h0
    | cell h hv hu ub => exact made_cell hW hF h3 hlen ha (by omega) (by omega) (by show um on 128 ≤ 127; have : um on 128 < 128 := hn; omega) h hv hu ub
  cases hd with
  | made1 hk h => subst hk; exact do_made1 hX (made 1 (Or.inl rfl) h)
  | made2 hk h => subst hk; exact do_made2 hX (made 2 (Or.inr rfl) h)
  | move hk hv => subst hk; exact do_move hX hF hv
  | load hk hb ht h0 hf hv => subst hk; exact do_load hX hF hb ht h0 hf hv
  | @load0 v hk hb hno =>
    subst hk
    cases v with
    | num x => exact do_load_num hX hb
    | ref i =>
      obtain ⟨t, ht⟩ : ∃ t, P.G.all[i]? = some t := ⟨_, List.getElem?_eq_getElem (hX.rx.wf.regs i (List.mem_of_getElem? hb))⟩
      by_cases h0 : t.fields.length = 0
      · exact do_load_nil hX hb ht h0
      · exact do_load_form hX hb ht (by omega) ((hno i t rfl ht).resolve_left h0)
  | store hk ha ht h0 hf hv hs => subst hk; exact do_store hX hF ha ht h0 hf hv hs
  | @store0 v hk hb hno =>
    subst hk
    cases v with
    | num x => exact do_store_num hX hb
    | ref i =>
      obtain ⟨t, ht⟩ : ∃ t, P.G.all[i]? = some t := ⟨_, List.getElem?_eq_getElem (hX.rx.wf.regs i (List.mem_of_getElem? hb))⟩
      by_cases h0 : t.fields.length = 0
      · exact do_store_nil hX hb ht h0
      · exact do_store_form hX hb ht (by omega) ((hno i t rfl ht).resolve_left h0)
  | fix hk h0 h1 => subst hk; exact do_fix hX h0 h1
  | fix0 hk h => subst hk; exact do_fix0 hX h
  | incr hk h => subst hk; exact do_incr hX hF h
  | other hk => exact do_other hX hk

end Go.Proofs.Ytbjlapfcnldpoaa

/- Law 5's sees, by its contract. -/
namespace Go.Proofs.Ytbjlapfcnldpoaa
set_option linter.unusedVariables false
set_option linter.unusedSimpArgs false
open Go.RowKit

theorem IsX.keepsF {w w' : World} {xb hb b g : Nat} {P : PSt} {T : List Nat} (h : IsX w xb hb b g P T) (k : Keeps (foot3 hb b g) w w') (hI : IsTH w' hb b g P.s) : IsX w' xb hb b g P T :=
  ⟨h.rx.heap h.th k, hI, h.sep.keepsT h.rx k (foot3_notT h.th)⟩
theorem IsIt.nf {w : World} {r mb k hb b g : Nat} {l : List Nat} {s : TH} (h : IsIt w r mb l k) (hI : IsTH w hb b g s) : ¬ foot3 hb b g mb ∧ ¬ foot3 hb b g r := by
  obtain ⟨c, kk, hs⟩ := hI.iw
  obtain ⟨cs, hcs⟩ := own_type hs.row (z := g) rfl
  have hn := h.notCells
  refine ⟨fun e => ?_, fun e => ?_⟩
  · rcases e with rfl | rfl | rfl
    · exact hn.2 _ _ hI.head
    · exact hn.2 _ _ hs.head
    · exact hn.2 _ _ hcs
  · rcases e with rfl | rfl | rfl
    · exact hn.1 _ _ hI.head
    · exact hn.1 _ _ hs.head
    · exact hn.1 _ _ hcs
/-- What an asking leaves. -/
structure SeenSaid (w : World) (xb hb b g : Nat) (P : PSt) (T : List Nat) (v : Value) (e : Ending) (w' : World) : Prop where
  said : e = .returned v
  isX : IsX w' xb hb b g P T
  fk : FK xb hb b g P.G.all.length T P.G.all.length T w w'

set_option maxRecDepth 100000 in
set_option maxHeartbeats 8000000 in
theorem sees_is {w : World} {xb hb b g : Nat} {P : PSt} {T : List Nat} (hX : IsX w xb hb b g P T) (hF : Fit P) (h3 : ∀ t ∈ P.G.all, t.form ≠ 3) (hlen : T.length ≤ 5000) :
    Calls Try.prog 30 #[.pointer (some ⟨xb, 0, none⟩)] w (SeenSaid w xb hb b g P T (.bool true)) := by
  have HX := Box.mk hX
  have HF := Box.mk hF
  have H3 := Box.mk h3
  clear hX hF h3
  go_enter Try.func30, Try.ntmps30
  go_wp2_with fail
  refine (reached_is HX.out.rx (by omega) H3.out).mono ?_
  rintro e w2 ⟨⟨mb, l, rfl, hset, hmb, him, hall⟩, k2⟩
  have HX2 := Box.mk (HX.out.keeps0 k2)
  have HS2 := Box.mk ((FK.refl xb hb b g P.G.all.length T w).step0 HX.out.rx k2)
  have HM := Box.mk him
  obtain ⟨hrg, hit⟩ := set_range w2 hset
  have k3 := (Keeps.refl (fun _ => False) w2).alloc (.mapIter (some mb) l.length #[] l.length)
  have hlm : mb < w2.heap.size := by
    obtain ⟨es, h1, -⟩ := hset.map
    exact lt_of_heap h1
  obtain ⟨r1, hr1⟩ : ∃ r1, w2.heap.size = r1 := ⟨_, rfl⟩
  obtain ⟨w3, hw3⟩ : ∃ w3, w2.alloc (.mapIter (some mb) l.length #[] l.length) = w3 := ⟨_, rfl⟩
  rw [hr1, hw3] at hrg hit
  rw [hw3] at k3
  rw [hr1] at hlm
  have HIt := Box.mk hit
  have HX3 := Box.mk (HX2.out.keeps0 k3)
  have HS3 := Box.mk (HS2.out.step0 HX2.out.rx k3)
  have HRr : Box (w.heap.size ≤ r1) := ⟨by rw [← hr1]; exact HS2.out.size⟩
  clear hset hmb him hall k2 hit k3 hr1 hw3 HX2 HS2
  go_wp2_with fail
  clear hrg
  go_loopw [] (fun wr => ∃ (k : Nat), Box (IsIt wr r1 mb l k) ∧ Box (IsX wr xb hb b g P T) ∧ Box (FK xb hb b g P.G.all.length T P.G.all.length T w wr)) (fun wr => itLeft wr r1)
  case atStart => exact ⟨_, HIt, HX3, HS3⟩
  case round =>
    clear HIt HX3 HS3
    obtain ⟨k, HIt, HX, HS⟩ := hrel
    rcases set_next wr 0 HIt.out (by omega) with ⟨hk0, hnx⟩ | ⟨a, ha, wn, k', hk', hnx, hen, hit', kk⟩
    · clear HIt hk0
      go_wp2_with fail
      go_ret
      exact ⟨rfl, HX.out, HS.out⟩
    · have hnc : ∀ z cs t, z = r1 → wr.heap[z]? = some (.cells cs t (0, 0)) → False := fun z cs t e hz => by subst e; exact HIt.out.notCells.1 _ _ hz
      have HXn : Box (IsX wn xb hb b g P T) := ⟨⟨HX.out.rx.keepsT kk (fun z cs t e hz => (hnc z cs t e hz).elim), HX.out.th.keepsX kk (fun z cs t e hz => (hnc z cs t e hz).elim), HX.out.sep.keepsT HX.out.rx kk (fun z cs e hz => hnc z cs _ e hz)⟩⟩
      have HSn := Box.mk (HS.out.stepN HX.out.rx kk HRr.out (fun cs t => HIt.out.notCells.1 cs t))
      have HItn := Box.mk hit'
      have HL : Box (itLeft wr r1 = k) := ⟨HIt.out.left⟩
      obtain ⟨i, hi, rfl⟩ := HM.out a ha
      obtain ⟨t, ht⟩ := hi.ex HXn.out.rx.wf
      obtain ⟨cc, hd, p1, p2, p3, p4, p5, p6, p7⟩ := HF.out.obj i t hi ht
      obtain ⟨fa, fc, c0, c1, c2, -, -⟩ := HXn.out.rx.cells ht
      have hx64 : 8 * P.U.getD i 0 + 1 < 18446744073709551616 := by omega
      have hsh := fun (W : World) (hW : IsTH W hb b g P.s) => shape_is hW hx64 p1 p2
      rw [p3, p4] at hsh
      have HSh := Box.mk hsh
      have HGt := Box.mk (fun (W : World) (hW : IsTH W hb b g P.s) (j : Nat) (v : PV) (hj : t.fields[j]? = some v) => get_is (i := j) (v := pword P.U v) hW hx64 p1 p2 (by rw [p4]; exact (List.getElem?_eq_some_iff.1 hj).1) p5 (by rw [p3]; rcases p6 with e | e <;> rw [e] <;> decide) (p7 j v hj).1 (p7 j v hj).2)
      have e3 : ((t.form : Int) == 3) = false := by
        rw [beq_eq_false_iff_ne]
        rcases p6 with e | e <;> rw [e] <;> decide
      obtain ⟨n, hn⟩ : ∃ n, t.fields.length = n := ⟨_, rfl⟩
      have hn200 := HXn.out.rx.wf.small t (List.mem_of_getElem? ht)
      have Ht := Box.mk ht
      have Hn := Box.mk hn
      rw [hn] at HSh c1 hn200
      obtain ⟨fm, hfm⟩ : ∃ fm, t.form = fm := ⟨_, rfl⟩
      rw [hfm] at HSh c0 e3
      obtain ⟨y, hy⟩ : ∃ y, 8 * P.U.getD i 0 + 1 = y := ⟨_, rfl⟩
      have Hy := Box.mk hy
      rw [hy] at HSh HGt c2
      obtain ⟨tb, htb⟩ : ∃ tb, T.getD i 0 = tb := ⟨_, rfl⟩
      have Htb := Box.mk htb
      rw [htb] at c0 c1 c2 hnx hen
      unfold pkey at hnx hen
      have a0 := HXn.out.rx.at0
      have Htn : Box (¬ foot3 hb b g tb ∧ ¬ foot3 hb b g xb) := ⟨by
        obtain ⟨fv, fb, q1, q2⟩ := HXn.out.rx.thing i t ht
        rw [htb] at q1
        exact ⟨fun e => (foot3_notX HXn.out.th _ _ _ e q1).2.1 rfl, HXn.out.nf⟩⟩
      clear HIt HX HS hit' kk hi ht ha hnc hy htb hn hfm p1 p2 p3 p4 p5 p6 p7 hsh hx64
      go_wp2_with fail
      go_region_held3 (fun w' => w'.cell? ⟨xb, 0, none⟩ = some (.pointer (some ⟨hb, 0, none⟩)) ∧ w'.cell? ⟨tb, 2, none⟩ = some (.int .u64 (y : Nat))) (first | exact ⟨a0, c2⟩ | exact ⟨kj.cell a0 Htn.out.2, kj.cell c2 Htn.out.1⟩ | go_keep) (first | (go_at_call 22; refine (HSh.out _ (HXn.out.th.keeps0 ((Keeps.refl (fun _ => False) wn).drewN 1))).mono ?_; rintro e w4 ⟨rfl, hI4, kj⟩))
      have kj2 : Keeps (foot3 hb b g) wn w4 := ⟨kj.os, kj.tape, kj.output, kj.size, kj.block⟩
      have HX4 := Box.mk (HXn.out.keepsF kj2 hI4)
      have HS4 := Box.mk (HSn.out.stepF HXn.out.rx HXn.out.th kj2)
      have HIt4 := Box.mk (HItn.out.keeps kj2 (HItn.out.nf HXn.out.th).1 (HItn.out.nf HXn.out.th).2)
      have d0 := kj2.cell c0 Htn.out.1
      have d1 := kj2.cell c1 Htn.out.1
      have D1 := Box.mk d1
      clear kj kj2 hI4 HXn HSn HItn c0 c1 c2 a0 hen hnx
      go_wp2_with fail
      go_loopw [62] (fun i2 wr => ∃ (j : Nat), j ≤ n ∧ i2 = .int .i64 j ∧ Box (IsIt wr r1 mb l k') ∧ Box (IsX wr xb hb b g P T) ∧ Box (FK xb hb b g P.G.all.length T P.G.all.length T w wr) ∧ Box (wr.cell? ⟨tb, 1, none⟩ = some (.slice fa n fc))) (fun i2 _ => n - (intOf i2).toNat)
      case atStart => exact ⟨0, Nat.zero_le _, rfl, HIt4, HX4, HS4, D1⟩
      case round =>
        clear HIt4 HX4 HS4 D1
        obtain ⟨j, hj, rfl, HIt, HX, HS, D1⟩ := hrel
        by_cases hjn : j < n
        · obtain ⟨v, hv⟩ : ∃ v, t.fields[j]? = some v := ⟨_, List.getElem?_eq_getElem (by have := Hn.out; omega)⟩
          obtain ⟨fa2, fc2, c0, c1, c2, -, hfs⟩ := HX.out.rx.cells Ht.out
          rw [Htb.out] at c0 c1 c2
          rw [D1.out] at c1
          simp only [Option.some.injEq, Value.slice.injEq] at c1
          obtain ⟨rfl, -, rfl⟩ := c1
          obtain ⟨f, rfl, hfl, -, -, hcl⟩ := hfs (by have := Hn.out; omega)
          obtain ⟨z1, z2⟩ := hcl j v hv
          obtain ⟨o, ho⟩ : ∃ o, pvp T v = .pointer o := by cases v <;> exact ⟨_, rfl⟩
          rw [ho] at z2
          have Hvl : Box (∀ k, v = .ref k → k < P.G.all.length) := ⟨fun k e => by subst e; exact HX.out.rx.wf.flds t (List.mem_of_getElem? Ht.out) k (List.mem_of_getElem? hv)⟩
          have HG := Box.mk (fun W hW => HGt.out W hW j v hv)
          rw [Hy.out] at c2
          obtain ⟨z, hz⟩ : ∃ z, pword P.U v = z := ⟨_, rfl⟩
          rw [hz] at HG
          have Hz2 := Box.mk hz
          have Ho := Box.mk ho
          have a0 := HX.out.rx.at0
          have hj0 : (0 : Int) ≤ (j : Int) := by omega
          have hjI : (j : Int) < (n : Int) := by omega
          obtain ⟨wb, hwb⟩ : ∃ wb, wr.alloc (.cells #[.int .u64 (pvw v : Nat), .pointer o] 58) = wb := ⟨_, rfl⟩
          have kb : Keeps (fun _ => False) wr wb := by rw [← hwb]; exact (Keeps.refl _ wr).alloc _
          have hbx : wb.heap[wr.heap.size]? = some (.cells #[.int .u64 (pvw v : Nat), .pointer o] 58 (0, 0)) := by rw [← hwb]; exact heap_alloc_new wr _
          obtain ⟨q, hq⟩ : ∃ q, wr.heap.size = q := ⟨_, rfl⟩
          have Hqf : Box (¬ foot3 hb b g q) := ⟨by have := HX.out.th.lt; unfold foot3; omega⟩
          rw [hq] at hbx
          have b0 := cell_of_heap hbx 0
          have b1 := cell_of_heap hbx 1
          simp only [List.getElem?_toArray, List.getElem?_cons_zero, List.getElem?_cons_succ] at b0 b1
          have HXb := Box.mk (HX.out.keeps0 kb)
          have HSb := Box.mk (HS.out.step0 HX.out.rx kb)
          have HItb := Box.mk (HIt.out.keeps kb (fun h => h) (fun h => h))
          have Db := Box.mk (kb.cell D1.out (fun h => h))
          have a0b := kb.cell a0 (fun h => h)
          have c2b := kb.cell c2 (fun h => h)
          have d1 := D1.out
          clear kb hbx hcl hfs hz ho hv HX HS HIt D1 c0 a0 c2
          go_wp2_with fail
          clear hwb hq z1 z2 d1
          have c1b := Db.out
          go_region_held3 (fun w' => w'.cell? ⟨xb, 0, none⟩ = some (.pointer (some ⟨hb, 0, none⟩)) ∧ w'.cell? ⟨tb, 2, none⟩ = some (.int .u64 (y : Nat))) (first | exact ⟨a0b, c2b⟩ | exact ⟨kj.cell a0b Htn.out.2, kj.cell c2b Htn.out.1⟩ | go_keep) (first | (go_at_call 23; refine (HG.out _ (HXb.out.th.keeps0 ((Keeps.refl (fun _ => False) wb).drewN 1))).mono ?_; rintro e w4 ⟨rfl, hI4, kj⟩))
          have kj2 : Keeps (foot3 hb b g) wb w4 := ⟨kj.os, kj.tape, kj.output, kj.size, kj.block⟩
          have HX4 := Box.mk (HXb.out.keepsF kj2 hI4)
          have HS4 := Box.mk (HSb.out.stepF HXb.out.rx HXb.out.th kj2)
          have HIt4 := Box.mk (HItb.out.keeps kj2 (HItb.out.nf HXb.out.th).1 (HItb.out.nf HXb.out.th).2)
          have D4 := Box.mk (kj2.cell Db.out Htn.out.1)
          have e0 := kj2.cell b0 Hqf.out
          have e1 := kj2.cell b1 Hqf.out
          have HW : Box (Calls Try.prog 32 #[.agg #[.int .u64 (pvw v : Nat), .pointer o]] w4 fun e w' => e = .returned (.int .u64 (z : Nat)) ∧ Keeps (fun _ => False) w4 w') := ⟨by
            have h := word_is HX4.out.rx v Hvl.out
            rw [Ho.out, Hz2.out] at h; exact h⟩
          clear kj kj2 hI4 HXb HSb HItb Db b0 b1 a0b c2b c1b
          go_wp2_with fail
          refine HW.out.mono ?_
          rintro e w5 ⟨rfl, k5⟩
          have HX5 := Box.mk (HX4.out.keeps0 k5)
          have HS5 := Box.mk (HS4.out.step0 HX4.out.rx k5)
          have HIt5 := Box.mk (HIt4.out.keeps k5 (fun h => h) (fun h => h))
          have D5 := Box.mk (k5.cell D4.out (fun h => h))
          clear k5 HX4 HS4 HIt4 D4 HW e0 e1
          go_wp2_with fail
          go_roundw
          case rel => exact ⟨j + 1, by omega, by go_num, HIt5, HX5, HS5, D5⟩
          case measure => simp [intOf]; omega
        · have hjn2 : ¬ ((j : Int) < (n : Int)) := by omega
          have HLx : Box (itLeft wr r1 < k) := ⟨by rw [HIt.out.left]; exact hk'⟩
          go_wp2_with fail
          go_roundw
          case rel => exact ⟨_, HIt, HX, HS⟩
          case measure => rw [HL.out]; exact HLx.out

end Go.Proofs.Ytbjlapfcnldpoaa

