/- CodeSafe's walk: each run of code that goes well, from each entry, is safe. -/
import Derived.Test.YtiimojpaeccajaaGreatDoorWlk
import Derived.Test.YtiimojpaeccajaaGreatDoorEnt
import Derived.Test.YtiimojpaeccajaaGreatDoorAwk16
import Derived.Test.YtiimojpaeccajaaGreatDoorCRead
namespace Go.Proofs.YtiimojpaeccajaaGreatDoor
set_option linter.unusedVariables false
set_option linter.unusedSimpArgs false
open Go.RowKit Go.Proofs.YtiimojpaeccajaaGreatDoorW.PrintWords Go.Proofs.YtiimojpaeccajaaGreatDoorW.PrintLast Go.Proofs.YtiimojpaeccajaaGreatDoorW.PrintMore

set_option maxRecDepth 100000 in
/-- Bools that can be read. -/
theorem bools_reads {w : World} {v : Value} (h : Reads Tryz.prog w 37 v) : ∃ A l c, v = .slice A l.length c ∧ l.length ≤ 9223372036854775807 ∧ Kd.C Kd.bool w A l.length l := by
  obtain ⟨n, ht⟩ := h.tr
  have hv : ∃ a len cap, v = .slice a len cap := by
    obtain ⟨b0, hw⟩ := h.wide
    exact Go.WideShapes.okWide_slice Tryz.underlying37 hw
  obtain ⟨a, len, cap, rfl⟩ := hv
  have h3 : (Value.slice a len cap).cells.toList = [.slice a len cap] := by simp [Value.cells]
  rw [h3] at ht
  obtain ⟨A, len', cap', ps, e, hl, hm, hpl, hc⟩ := rowC Kd.bool Tryz.underlying37 (by kernel_rfl) ht (fun m hm cs' h' => by
    obtain ⟨b, hb⟩ := h'.bool Tryz.underlying4
    exact ⟨b, hb⟩)
  simp only [List.cons.injEq, Value.slice.injEq, and_true] at e
  obtain ⟨rfl, rfl, rfl⟩ := e
  subst hpl
  exact ⟨a, ps, cap, rfl, hm, hc⟩
theorem entS_place {l : List Ins} {x : Int} (hchk : chkB l = true) (h : x ∈ entS l) : ∃ q : Nat, q < l.length ∧ x = (q : Int) := by
  have h2 := hchk
  unfold chkB at h2
  simp only [Bool.and_eq_true, decide_eq_true_eq] at h2
  rcases List.mem_cons.1 (entS_mem h) with rfl | h
  · exact ⟨0, by omega, rfl⟩
  · obtain ⟨y, hy, rfl⟩ := List.mem_map.1 h
    obtain ⟨hy1, hy2⟩ := List.mem_filter.1 hy
    have h3 := (List.all_eq_true.1 h2.2) y hy1
    have h9 : y.f0 = 9 := by simpa using hy2
    unfold insB at h3
    simp [h9] at h3
    exact ⟨y.f1.toNat, by omega, by omega⟩

set_option maxHeartbeats 4000000 in
set_option maxRecDepth 100000 in
theorem csafe_is (l : List Ins) (A : Option Addr) (c : Nat) (w : World) (hC : Kd.C insK w A l.length l) (hc : l.length ≤ c) (hb : l.length ≤ 9223372036854775807) (pa : Option Addr) (pc : Nat) (bs : List Bool) (hP : Kd.C Kd.bool w pa bs.length bs) :
    Calls Tryz.prog 4 #[.slice A l.length c, .slice pa bs.length pc] w fun e w' => e = .returned (.bool true) ∧ Below w.heap.size w w' := by
  have HA := Box.mk (awake16 w)
  have HC := Box.mk hC
  have HP := Box.mk hP
  obtain ⟨m, hm⟩ : ∃ m, bs.length = m := ⟨_, rfl⟩
  have Hm := Box.mk hm
  rw [hm]
  clear hm hP
  go_enter Tryz.func4, Tryz.ntmps4
  go_wp2_with fail
  refine HA.out.mono ?_
  rintro e w1 ⟨rfl, k1⟩
  have K1 := Box.mk k1
  have HC1 := Box.mk (Kd.C_below HC.out k1)
  obtain ⟨b, hsm, hS⟩ := small_is l HC1.out hc
  have HS := Box.mk hS
  have HSm := Box.mk hsm
  clear HA k1 hS hsm
  go_wp2_with fail
  refine HS.out.mono ?_
  rintro e w2 ⟨rfl, k2⟩
  have K2 : Box (Below w.heap.size w w2) := ⟨K1.out.trans (Below.mono k2 K1.out.size)⟩
  have HC2 := Box.mk (Kd.C_below HC1.out k2)
  clear k2 HS HC1 K1
  have HA := Box.mk (awake16 w2)
  by_cases hgd : b = false ∨ 400 < m
  · rcases hgd with rfl | h4
    · go_wp2_with fail
      refine HA.out.mono ?_
      rintro e w3 ⟨rfl, k3⟩
      have K3 : Box (Below w.heap.size w w3) := ⟨K2.out.trans (Below.mono k3 K2.out.size)⟩
      clear HA k3
      go_wp2_with fail
      go_ret
      exact ⟨rfl, K3.out⟩
    · cases b with
      | false =>
        go_wp2_with fail
        refine HA.out.mono ?_
        rintro e w3 ⟨rfl, k3⟩
        have K3 : Box (Below w.heap.size w w3) := ⟨K2.out.trans (Below.mono k3 K2.out.size)⟩
        clear HA k3
        go_wp2_with fail
        go_ret
        exact ⟨rfl, K3.out⟩
      | true =>
        go_wp2_with fail
        refine HA.out.mono ?_
        rintro e w3 ⟨rfl, k3⟩
        have K3 : Box (Below w.heap.size w w3) := ⟨K2.out.trans (Below.mono k3 K2.out.size)⟩
        clear HA k3
        go_wp2_with fail
        go_ret
        exact ⟨rfl, K3.out⟩
  · have hbt : b = true := by
      cases b with
      | true => rfl
      | false => exact absurd (Or.inl rfl) hgd
    have hm4 : m ≤ 400 := by omega
    subst hbt
    clear hgd HA
    obtain ⟨hl4, hsm⟩ := HSm.out rfl
    clear HSm
    have HSm := Box.mk hsm
    have HO := Box.mk (own_is l HC2.out hc (by omega) (fun j hj => by have := (hsm j hj).1; omega))
    clear hsm
    go_wp2_with fail
    refine HO.out.mono ?_
    rintro e w3 ⟨A', c', rfl, hC3, hc3, k3⟩
    have K3 : Box (Below w.heap.size w w3) := ⟨K2.out.trans (Below.mono k3 K2.out.size)⟩
    have HC3 := Box.mk hC3
    have HCx := Box.mk (Kd.C_below HC2.out k3)
    have HT := Box.mk (stacks_is l A' c' w3 hC3 hc3 (fun j hj => by have := (HSm.out j hj).1; omega) hb)
    clear k3 hC3 HO K2 HC2
    go_wp2_with fail
    refine HT.out.mono ?_
    rintro e w4 H4
    have K4 : Box (Below w.heap.size w w4) := ⟨K3.out.trans (Below.mono H4.keeps K3.out.size)⟩
    have HC4 := Box.mk (Kd.C_below HCx.out H4.keeps)
    by_cases hgo : chkB l = true ∧ StW (sL l)
    · obtain ⟨B, kb, sb, lv, S, R, td, tv, rfl, hM, hBz, hSO, hSt⟩ := H4.ok hgo.1 hgo.2
      have HM := Box.mk hM.out
      have HR := Box.mk hSt
      have HG := Box.mk hgo
      have HO := Box.mk (own_is l HC4.out hc (by omega) (fun j hj => by have := (HSm.out j hj).1; omega))
      clear H4 hM hBz hSO hSt hgo HT K3 HC3 HCx
      go_wp2_with fail
      refine HO.out.mono ?_
      rintro e w5 ⟨A2, c2, rfl, hC5, hc5, k5⟩
      have K5 : Box (Below w.heap.size w w5) := ⟨K4.out.trans (Below.mono k5 K4.out.size)⟩
      have HM5 := Box.mk (HM.out.below k5)
      have HE := Box.mk (entries_is l A2 c2 w5 hC5 hc5 (fun j hj => by have := (HSm.out j hj).1; omega) hb HG.out.1)
      clear k5 hC5 HO K4 HC4 HM
      go_wp2_with fail
      refine HE.out.mono ?_
      rintro e w6 ⟨eg, ecap, rfl, hecap, hecel, k6⟩
      have K6 : Box (Below w.heap.size w w6) := ⟨K5.out.trans (Below.mono k6 K5.out.size)⟩
      have HM6 := Box.mk (HM5.out.below k6)
      have HEc := Box.mk hecel
      have HEp : Box (∀ j, j < (entS l).length → ∃ q : Nat, q < l.length ∧ (entS l).getD j 0 = (q : Int)) := ⟨fun j hj => by
        refine entS_place HG.out.1 ?_
        simp only [List.getD, List.getElem?_eq_getElem hj, Option.getD_some]
        exact List.getElem_mem hj⟩
      have hel : (entS l).length ≤ 8001 := by
        have h1 := compact_len ((entL l).mergeSort fun x y => decide (x ≤ y))
        rw [List.length_mergeSort] at h1
        have h2 := entL_len l
        unfold entS
        omega
      obtain ⟨en, hen⟩ : ∃ en, (entS l).length = en := ⟨_, rfl⟩
      obtain ⟨n, hn⟩ : ∃ n, l.length = n := ⟨_, rfl⟩
      have Hn := Box.mk hn
      rw [hen] at hecap hel HEc HEp
      rw [hn] at hl4 hb hc hc3 hc5 HM6 HEp ⊢
      rw [hen]
      clear hecel k6 HE K5 HM5 hen hn
      go_wp2_with fail
      go_loopw [34] (fun i wr => ∃ (j : Nat), j ≤ en ∧ i = .int .i64 j ∧ Box (Below w6.heap.size w6 wr)) (fun i _ => en - (intOf i).toNat)
      case atStart => exact ⟨0, Nat.zero_le _, rfl, ⟨Below.refl _ _⟩⟩
      case round =>
        obtain ⟨j, hj, rfl, K⟩ := hrel
        by_cases hjn : j < en
        · have hj0 : (0 : Int) ≤ (j : Int) := by omega
          obtain ⟨q, hqn, hqe⟩ := HEp.out j hjn
          have ec := cell_below (HEc.out j hjn) K.out
          rw [hqe, Nat.zero_add] at ec
          have hegl := World.block_lt_of_cell? wr _ ec
          have g := (HM6.out.below K.out).slot q hqn
          have hsb := (HM6.out.below K.out).lt
          cases hS : S q with
          | none =>
            rw [hS] at g
            simp only at g
            go_wp2_with fail
            go_roundw
            case rel => exact ⟨j + 1, by omega, by go_num, K⟩
            case measure => simp [intOf]; omega
          | some s =>
            rw [hS] at g
            simp only at g
            have hst := (HR.out q s).1 hS
            have hw := HG.out.2 q s hst
            have hm0 : 0 < s.length := by
              cases hs : s with
              | nil => exact absurd hs (stR_ne hst)
              | cons a l => simp
            have hrow := (HM6.out.below K.out).row q s hS
            have hAl : Below wr.heap.size wr (wr.alloc (.cells #[.int .i64 0] 3)) := (Below.refl _ wr).alloc (Nat.le_refl _) _
            have HSm2 := Box.mk (same_is (w := wr.alloc (.cells #[.int .i64 0] 3)) s [0] (b1 := (R q).1) (o1 := 0) (c1 := (R q).2) (b2 := wr.heap.size) (o2 := 0) (c2 := 1) (by omega) (by decide) (fun i hi => cell_below (hrow.2 i hi) hAl) (lit0_cell wr _) hrow.1 (by decide))
            have HAl := Box.mk hAl
            have Hst := Box.mk hst
            obtain ⟨sm, hsm⟩ : ∃ sm, s.length = sm := ⟨_, rfl⟩
            rw [hsm] at g hm0 HSm2
            rw [show [(0 : Int)].length = 1 from rfl] at HSm2
            clear hst hw hrow hAl hsm
            by_cases hs0 : s = [0]
            · rw [decide_eq_true hs0] at HSm2
              have HWlk := Box.mk (fun (W : World) (hW : Below wr.heap.size wr W) => walk_is l A c W (Kd.C_below HC.out ((K6.out.trans (Below.mono K.out K6.out.size)).trans (hW.mono (Nat.le_trans K6.out.size K.out.size)))) (by rw [Hn.out]; exact hc) HG.out.1 HG.out.2 q (by rw [← hs0]; exact Hst.out) pa pc bs (Kd.C_below HP.out ((K6.out.trans (Below.mono K.out K6.out.size)).trans (hW.mono (Nat.le_trans K6.out.size K.out.size)))) (by rw [Hm.out]; exact hm4))
              rw [Hn.out, Hm.out] at HWlk
              clear hs0 hS
              go_wp2_with fail
              refine HSm2.out.mono ?_
              rintro e w7 ⟨rfl, k7⟩
              have k7' : Below wr.heap.size wr w7 := HAl.out.trans (k7.mono HAl.out.size)
              have HW7 := Box.mk (HWlk.out w7 k7')
              have K7 := Box.mk (K.out.trans (k7'.mono K.out.size))
              clear k7 k7' HSm2 HWlk g ec
              go_wp2_with fail
              refine HW7.out.mono ?_
              rintro e w8 ⟨rfl, k8⟩
              have K8 := Box.mk (K7.out.trans (k8.mono K7.out.size))
              clear k8 HW7
              go_wp2_with fail
              go_roundw
              case rel => exact ⟨j + 1, by omega, by go_num, K8⟩
              case measure => simp [intOf]; omega
            · rw [decide_eq_false hs0] at HSm2
              clear hs0 hS
              go_wp2_with fail
              refine HSm2.out.mono ?_
              rintro e w7 ⟨rfl, k7⟩
              have k7' : Below wr.heap.size wr w7 := HAl.out.trans (k7.mono HAl.out.size)
              have K7 := Box.mk (K.out.trans (k7'.mono K.out.size))
              clear k7 k7' HSm2 g ec
              go_wp2_with fail
              go_roundw
              case rel => exact ⟨j + 1, by omega, by go_num, K7⟩
              case measure => simp [intOf]; omega
        · have hjn2 : j = en := by omega
          go_wp2_with fail
          go_ret
          exact ⟨rfl, K6.out.trans (Below.mono K.out K6.out.size)⟩
    · have he := H4.no hgo
      subst he
      clear H4 HT K3 HC3 HCx hgo
      go_wp2_with fail
      go_ret
      exact ⟨rfl, K4.out⟩

theorem CodeSafe_walk (v u : Value) (w : World) (h : Reads Tryz.prog w 22 v) (h2 : Reads Tryz.prog w 37 u) : Calls Tryz.prog 4 #[v, u] w fun e w' => e = .returned (.bool true) ∧ Below w.heap.size w w' := by
  obtain ⟨A, l, c, rfl, hc, hb, hC⟩ := code_reads h
  obtain ⟨pa, bs, pc, rfl, hpm, hP⟩ := bools_reads h2
  exact csafe_is l A c w hC hc hb pa pc bs hP

end Go.Proofs.YtiimojpaeccajaaGreatDoor
