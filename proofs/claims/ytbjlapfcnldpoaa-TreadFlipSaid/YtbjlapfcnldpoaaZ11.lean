/- Part 11 of 11 of this proof's own texts, joined in build order by a program. -/
import Derived.Test.YtbjlapfcnldpoaaZ10
import Derived.Deep.RegionHeld3
import Derived.Deep.QuietTactic
import Derived.BigQuiet
/- TreadFlip's walk: what isn't reached at a flip is free at that cycle's end, and what was reached then, or made since, is had. -/
namespace Go.Proofs.Ytbjlapfcnldpoaa
set_option linter.unusedVariables false
set_option linter.unusedSimpArgs false
open Go.RowKit

/-- The element of a script, copied. -/
structure Elem (w wb : World) (q : Nat) (o : POp) : Prop where
  b0 : wb.cell? ⟨q, 0, none⟩ = some (.int .i64 o.kind)
  b1 : wb.cell? ⟨q, 1, none⟩ = some (.int .i64 o.a)
  b2 : wb.cell? ⟨q, 2, none⟩ = some (.int .i64 o.b)
  b3 : wb.cell? ⟨q, 3, none⟩ = some (.int .i64 o.c)
  b4 : wb.cell? ⟨q, 4, none⟩ = some (.int .i64 o.n)
  k : Keeps (fun _ => False) w wb
theorem elem_of {w wb : World} {q : Nat} (o : POp) (hwb : w.alloc (.cells #[.int .i64 o.kind, .int .i64 o.a, .int .i64 o.b, .int .i64 o.c, .int .i64 o.n] 54) = wb) (hq : w.heap.size = q) : Elem w wb q o := by
  have hbx : wb.heap[q]? = some (.cells #[.int .i64 o.kind, .int .i64 o.a, .int .i64 o.b, .int .i64 o.c, .int .i64 o.n] 54 (0, 0)) := by rw [← hwb, ← hq]; exact heap_alloc_new w _
  have b0 := cell_of_heap hbx 0
  have b1 := cell_of_heap hbx 1
  have b2 := cell_of_heap hbx 2
  have b3 := cell_of_heap hbx 3
  have b4 := cell_of_heap hbx 4
  simp only [List.getElem?_toArray, List.getElem?_cons_zero, List.getElem?_cons_succ] at b0 b1 b2 b3 b4
  exact ⟨b0, b1, b2, b3, b4, by rw [← hwb]; exact (Keeps.refl _ w).alloc _⟩

set_option maxRecDepth 100000 in
set_option maxHeartbeats 4000000 in
theorem TreadFlip_early {c0 c1 c2 c3 k : Int} {a1 a2 : Option Addr} {l1 cp1 l2 cp2 : Nat} {w : World} (h : 300 < l1 ∨ (l1 ≤ 300 ∧ 300 < l2)) :
    Calls Try.prog 8 #[.agg #[.int .i64 c0, .int .i64 c1, .int .i64 c2, .int .i64 c3, .int .i64 k], .slice a1 l1 cp1, .slice a2 l2 cp2] w fun e w' => e = .returned (.bool true) ∧ Below w.heap.size w w' := by
  have k0 := (Keeps.refl (fun _ => False) w).alloc (.cells #[.int .i64 c0, .int .i64 c1, .int .i64 c2, .int .i64 c3, .int .i64 k] 47)
  obtain ⟨wb, hwb⟩ : ∃ wb, w.alloc (.cells #[.int .i64 c0, .int .i64 c1, .int .i64 c2, .int .i64 c3, .int .i64 k] 47) = wb := ⟨_, rfl⟩
  rw [hwb] at k0
  have hbx : wb.heap[w.heap.size]? = some (.cells #[.int .i64 c0, .int .i64 c1, .int .i64 c2, .int .i64 c3, .int .i64 k] 47 (0, 0)) := by rw [← hwb]; exact heap_alloc_new w _
  obtain ⟨cb, hcb⟩ : ∃ cb, w.heap.size = cb := ⟨_, rfl⟩
  rw [hcb] at hbx
  have HB := Box.mk hbx
  have K0 := Box.mk k0
  have HL1 := Box.mk (fun W => long_is (a := a1) (n := l1) (cap := cp1) W)
  have HL2 := Box.mk (fun W => long_is (a := a2) (n := l2) (cap := cp2) W)
  clear k0 hbx
  have fin : ∀ W, Keeps (fun _ => False) w W → Below cb w W := fun W k => by rw [← hcb]; exact k.below (Nat.le_refl _) (fun _ h => h.elim)
  have Fin := Box.mk fin
  rw [hcb]
  clear fin
  rcases h with h | ⟨h, h2⟩
  · rw [show decide ((300 : Int) < (l1 : Int)) = true from by simp; omega] at HL1
    clear h
    go_enter Try.func8, Try.ntmps8
    go_wp2_with fail
    clear hwb hcb
    refine (awake05 _).mono ?_
    rintro e w1 ⟨rfl, k1⟩
    have hB1 := k1.heap HB.out (fun h => h)
    have K1 := Box.mk (K0.out.trans k1)
    have b0 := cell_of_heap hB1 0
    have b1 := cell_of_heap hB1 1
    have b2 := cell_of_heap hB1 2
    have b3 := cell_of_heap hB1 3
    have b4 := cell_of_heap hB1 4
    simp only [List.getElem?_toArray, List.getElem?_cons_zero, List.getElem?_cons_succ] at b0 b1 b2 b3 b4
    clear k1 hB1 HB K0
    go_wp2_with fail
    refine (may_is c0 c1 c2 c3 k _).mono ?_
    rintro e w2 ⟨⟨bl, rfl, -⟩, k2⟩
    have K2 := Box.mk (K1.out.trans k2)
    clear k2 b0 b1 b2 b3 b4 K1
    cases bl with
    | false =>
      go_wp2_with fail
      refine (awake05 _).mono ?_
      rintro e w3 ⟨rfl, k3⟩
      have K3 := Box.mk (K2.out.trans k3)
      clear k3
      go_wp2_with fail
      go_ret
      exact ⟨rfl, Fin.out _ K3.out⟩
    | true =>
      go_wp2_with (first | (go_at_call 27; refine (HL1.out _).mono ?_; rintro e w5 ⟨rfl, rfl⟩) | (go_at_call 27; refine (HL2.out _).mono ?_; rintro e w5 ⟨rfl, rfl⟩))
      refine (awake05 _).mono ?_
      rintro e w3 ⟨rfl, k3⟩
      have K3 := Box.mk (K2.out.trans k3)
      clear k3
      go_wp2_with fail
      go_ret
      exact ⟨rfl, Fin.out _ K3.out⟩
  · rw [show decide ((300 : Int) < (l1 : Int)) = false from by simp; omega] at HL1
    rw [show decide ((300 : Int) < (l2 : Int)) = true from by simp; omega] at HL2
    clear h h2
    go_enter Try.func8, Try.ntmps8
    go_wp2_with fail
    clear hwb hcb
    refine (awake05 _).mono ?_
    rintro e w1 ⟨rfl, k1⟩
    have hB1 := k1.heap HB.out (fun h => h)
    have K1 := Box.mk (K0.out.trans k1)
    have b0 := cell_of_heap hB1 0
    have b1 := cell_of_heap hB1 1
    have b2 := cell_of_heap hB1 2
    have b3 := cell_of_heap hB1 3
    have b4 := cell_of_heap hB1 4
    simp only [List.getElem?_toArray, List.getElem?_cons_zero, List.getElem?_cons_succ] at b0 b1 b2 b3 b4
    clear k1 hB1 HB K0
    go_wp2_with fail
    refine (may_is c0 c1 c2 c3 k _).mono ?_
    rintro e w2 ⟨⟨bl, rfl, -⟩, k2⟩
    have K2 := Box.mk (K1.out.trans k2)
    clear k2 b0 b1 b2 b3 b4 K1
    cases bl with
    | false =>
      go_wp2_with fail
      refine (awake05 _).mono ?_
      rintro e w3 ⟨rfl, k3⟩
      have K3 := Box.mk (K2.out.trans k3)
      clear k3
      go_wp2_with fail
      go_ret
      exact ⟨rfl, Fin.out _ K3.out⟩
    | true =>
      go_wp2_with (first | (go_at_call 27; refine (HL1.out _).mono ?_; rintro e w5 ⟨rfl, rfl⟩) | (go_at_call 27; refine (HL2.out _).mono ?_; rintro e w5 ⟨rfl, rfl⟩))
      refine (awake05 _).mono ?_
      rintro e w3 ⟨rfl, k3⟩
      have K3 := Box.mk (K2.out.trans k3)
      clear k3
      go_wp2_with fail
      go_ret
      exact ⟨rfl, Fin.out _ K3.out⟩

theorem Own.keeps0 {w0 w : World} {xb hb b g : Nat} {P : PSt} {T : List Nat} (h : Own w0 w xb hb b g P T) : Keeps (fun z => w0.heap.size ≤ z) w0 w := h.keeps
theorem IsOps5.keepsB {w w' : World} {B : Nat} {a : Option Addr} {len : Nat} {ops : Nat → POp} (h : IsOps5 w a len ops) (hB : w.heap.size ≤ B) (k : Keeps (fun z => B ≤ z) w w') : IsOps5 w' a len ops :=
  h.keeps (k.mono (fun i _ hi => by omega))
/-- What is known amid the script. -/
structure FlipX (cyc m0 : Nat) (lv : Nat → Prop) (T0 : List Nat) (P : PSt) (L : Nat → Nat → List Nat) (T : List Nat) : Prop where
  inv : Inv P L
  i : FlipI lv m0 cyc P L
  cyc : P.s.cycles = cyc
  mrk : P.s.marking = true
  pre : ∀ i, i < m0 → T.getD i 0 = T0.getD i 0
set_option maxRecDepth 100000 in
set_option maxHeartbeats 16000000 in
theorem TreadFlip_main {c0 c1 c2 c3 k : Int} {a1 a2 : Option Addr} {l1 cp1 l2 cp2 : Nat} {ops1 ops2 : Nat → POp} {w : World} (hl1 : l1 ≤ 300) (hl2 : l2 ≤ 300) (ho1 : IsOps5 w a1 l1 ops1) (ho2 : IsOps5 w a2 l2 ops2) :
    Calls Try.prog 8 #[.agg #[.int .i64 c0, .int .i64 c1, .int .i64 c2, .int .i64 c3, .int .i64 k], .slice a1 l1 cp1, .slice a2 l2 cp2] w fun e w' => e = .returned (.bool true) ∧ Below w.heap.size w w' := by
  obtain ⟨wb, hwb⟩ : ∃ wb, w.alloc (.cells #[.int .i64 c0, .int .i64 c1, .int .i64 c2, .int .i64 c3, .int .i64 k] 47) = wb := ⟨_, rfl⟩
  have k0 : Keeps (fun _ => False) w wb := by rw [← hwb]; exact (Keeps.refl _ w).alloc _
  have hbx : wb.heap[w.heap.size]? = some (.cells #[.int .i64 c0, .int .i64 c1, .int .i64 c2, .int .i64 c3, .int .i64 k] 47 (0, 0)) := by rw [← hwb]; exact heap_alloc_new w _
  obtain ⟨cb, hcb⟩ : ∃ cb, w.heap.size = cb := ⟨_, rfl⟩
  rw [hcb] at hbx
  have HB := Box.mk hbx
  have K0 := Box.mk k0
  have Hcb := Box.mk hcb
  have HO1 := Box.mk ho1
  have HO2 := Box.mk ho2
  have HL1 := Box.mk (fun W => long_is (a := a1) (n := l1) (cap := cp1) W)
  have HL2 := Box.mk (fun W => long_is (a := a2) (n := l2) (cap := cp2) W)
  rw [show decide ((300 : Int) < (l1 : Int)) = false from by simp; omega] at HL1
  rw [show decide ((300 : Int) < (l2 : Int)) = false from by simp; omega] at HL2
  clear k0 hbx ho1 ho2
  have fin : ∀ W, Keeps (fun z => cb ≤ z) w W → Below cb w W := fun W k => k.below (by omega) (fun _ h => h)
  have Fin := Box.mk fin
  rw [hcb]
  clear fin
  go_enter Try.func8, Try.ntmps8
  go_wp2_with fail
  clear hwb hcb
  refine (awake05 _).mono ?_
  rintro e w1 ⟨rfl, k1⟩
  have hB1 := k1.heap HB.out (fun h => h)
  have K1 := Box.mk (K0.out.trans k1)
  have b0 := cell_of_heap hB1 0
  have b1 := cell_of_heap hB1 1
  have b2 := cell_of_heap hB1 2
  have b3 := cell_of_heap hB1 3
  have b4 := cell_of_heap hB1 4
  simp only [List.getElem?_toArray, List.getElem?_cons_zero, List.getElem?_cons_succ] at b0 b1 b2 b3 b4
  have HB1 := Box.mk hB1
  clear k1 hB1 HB K0
  go_wp2_with fail
  refine (may_is c0 c1 c2 c3 k _).mono ?_
  rintro e w2 ⟨⟨bl, rfl, hbl⟩, k2⟩
  have K2 := Box.mk (K1.out.trans k2)
  have HB2 := Box.mk (k2.heap HB1.out (fun h => h))
  clear k2 b0 b1 b2 b3 b4 K1 HB1
  cases bl with
  | false =>
    go_wp2_with fail
    refine (awake05 _).mono ?_
    rintro e w3 ⟨rfl, k3⟩
    have K3 := Box.mk (K2.out.trans k3)
    clear k3
    go_wp2_with fail
    go_ret
    exact ⟨rfl, Fin.out _ (K3.out.mono (fun _ _ h => h.elim))⟩
  | true =>
    obtain ⟨h0, h0', h1, h1', h2, h2', h3, h3', hk1, hk2⟩ := hbl rfl
    clear hbl
    obtain ⟨n0, rfl⟩ := Int.eq_ofNat_of_zero_le h0
    obtain ⟨n1, rfl⟩ := Int.eq_ofNat_of_zero_le h1
    obtain ⟨n2, rfl⟩ := Int.eq_ofNat_of_zero_le h2
    obtain ⟨n3, rfl⟩ := Int.eq_ofNat_of_zero_le h3
    obtain ⟨kn, rfl⟩ := Int.eq_ofNat_of_zero_le (show 0 ≤ k by omega)
    obtain ⟨s0, e0, st0, hc0, hf0⟩ := lay_ok n0 n1 n2 n3 kn (by omega) (by omega) (by omega) (by omega)
    have HBg := Box.mk (fun W => begin_is (w := W) (c0 := n0) (c1 := n1) (c2 := n2) (c3 := n3) (k := kn) (by omega) (by omega) (by omega) (by omega) (by omega) (by omega) e0)
    have hsm := tlay_same e0
    have HI0 := Box.mk (Inv.new st0 (by rw [hsm.2.2.2.2.1]; show kn ≤ 64; omega) hsm.2.1)
    have Hc0 : Box ((PSt.new s0).s.cycles ≤ 0 ∧ (PSt.new s0).s.count = [n0, n1, n2, n3]) := ⟨by show s0.cycles ≤ 0; rw [hsm.2.2.2.2.2.2.2.1]; exact Nat.le_refl _, hc0⟩
    clear e0 st0 hc0 hf0 hsm
    have b0 := cell_of_heap HB2.out 0
    have b1 := cell_of_heap HB2.out 1
    have b2 := cell_of_heap HB2.out 2
    have b3 := cell_of_heap HB2.out 3
    have b4 := cell_of_heap HB2.out 4
    simp only [List.getElem?_toArray, List.getElem?_cons_zero, List.getElem?_cons_succ] at b0 b1 b2 b3 b4
    have Kw0 : Box (Keeps (fun z => cb ≤ z) w w2) := ⟨K2.out.mono (fun _ _ h => h.elim)⟩
    have Hcw : Box (cb < w2.heap.size) := ⟨lt_of_heap HB2.out⟩
    go_wp2_with (first | (go_at_call 27; refine (HL1.out _).mono ?_; rintro e w5 ⟨rfl, rfl⟩) | (go_at_call 27; refine (HL2.out _).mono ?_; rintro e w5 ⟨rfl, rfl⟩))
    obtain ⟨wz, hwz⟩ : ∃ wz, wz = w5 := ⟨_, rfl⟩
    subst hwz
    have Hops : Box (∀ W, Keeps (fun z => wz.heap.size ≤ z) wz W → IsOps5 W a1 l1 ops1 ∧ IsOps5 W a2 l2 ops2) := ⟨fun W k => by
      have k2 := Kw0.out.trans (k.mono (S' := fun z => cb ≤ z) (fun i _ hi => by have := Hcw.out; omega))
      exact ⟨HO1.out.keepsB (by rw [Hcb.out]; exact Nat.le_refl _) k2, HO2.out.keepsB (by rw [Hcb.out]; exact Nat.le_refl _) k2⟩⟩
    have Hend : Box (∀ W, Keeps (fun z => wz.heap.size ≤ z) wz W → Below cb w W) := ⟨fun W k => Fin.out W (Kw0.out.trans (k.mono (fun i _ hi => by have := Hcw.out; omega)))⟩
    clear b0 b1 b2 b3 b4 K2 Fin HO1 HO2 HL1 HL2 Kw0 h0 h1 h2 h3
    refine (HBg.out _).mono ?_
    intro e w6 h6
    obtain ⟨xb, hb, b, g, rfl, hown, -⟩ := h6.own (w0 := wz) (Keeps.refl _ wz)
    have HOw := Box.mk hown
    clear h6 hown HBg
    go_wp2_with fail
    go_loopw [41] (fun i wr => ∃ (j : Nat) (P : PSt) (L : Nat → Nat → List Nat) (T : List Nat), j ≤ l1 ∧ i = .int .i64 j ∧ Box (Own wz wr xb hb b g P T) ∧ Box (Inv P L) ∧ Box (P.G.all.length ≤ j ∧ P.s.cycles ≤ 300 * j ∧ P.s.count = [n0, n1, n2, n3])) (fun i _ => l1 - (intOf i).toNat)
    case atStart => exact ⟨0, PSt.new s0, _, [], Nat.zero_le _, rfl, HOw, HI0, ⟨Nat.le_refl _, Hc0.out.1, Hc0.out.2⟩⟩
    case round =>
      clear HOw HI0 Hc0
      obtain ⟨j, P, L, T, hj, rfl, HOw, HI, HC⟩ := hrel
      by_cases hjl : j < l1
      · obtain ⟨ab, ao, rfl, hab, o0, o1, o2, o3, o4⟩ := (Hops.out _ HOw.out.keeps).1.cells j hjl
        obtain ⟨o, hoj⟩ : ∃ o, ops1 j = o := ⟨_, rfl⟩
        rw [hoj] at o0 o1 o2 o3 o4
        have hj0 : (0 : Int) ≤ (j : Int) := by omega
        have hjI : (j : Int) < (l1 : Int) := by omega
        obtain ⟨wb, hwb⟩ : ∃ wb, wr.alloc (.cells #[.int .i64 o.kind, .int .i64 o.a, .int .i64 o.b, .int .i64 o.c, .int .i64 o.n] 54) = wb := ⟨_, rfl⟩
        obtain ⟨q, hq⟩ : ∃ q, wr.heap.size = q := ⟨_, rfl⟩
        have hel := elem_of o hwb hq
        have HEl := Box.mk hel.k
        obtain ⟨b0, b1, b2', b3, b4, -⟩ := hel
        have HOb := Box.mk (HOw.out.step0 HEl.out)
        clear hoj HOw HEl
        by_cases hk7 : o.kind = 7
        · have e7 : (o.kind != 7) = false := by rw [hk7]; rfl
          have HC2 : Box (P.G.all.length ≤ j + 1 ∧ P.s.cycles ≤ 300 * (j + 1) ∧ P.s.count = [n0, n1, n2, n3]) := ⟨by have := HC.out.1; omega, by have := HC.out.2.1; omega, HC.out.2.2⟩
          clear hk7 HC
          go_wp2_with fail
          go_roundw
          case rel => exact ⟨j + 1, P, L, T, by omega, by go_num, HOb, HI, HC2⟩
          case measure => simp [intOf]; omega
        · have e7 : (o.kind != 7) = true := by rw [bne_iff_ne]; exact hk7
          obtain ⟨P', L', hD⟩ := doing track_any HI.out trivial trivial (by have := HC.out.2.1; omega) o hk7
          have hdo := do_is HOb.out.isX HI.out.fit (fun t ht => by have := HI.out.forms t ht; omega) (by have := HOb.out.isX.rx.lens.1; have := HC.out.1; omega) hD.did
          have Hdo := Box.mk hdo
          have HI' := Box.mk hD.inv
          have HC2 : Box (P'.G.all.length ≤ j + 1 ∧ P'.s.cycles ≤ 300 * (j + 1) ∧ P'.s.count = [n0, n1, n2, n3]) := ⟨by have := HC.out.1; have := hD.all; omega, by have := HC.out.2.1; have := hD.cyc; omega, hD.count.trans HC.out.2.2⟩
          clear hD hdo hk7 HC
          go_wp2_with fail
          clear hwb hq o0 o1 o2 o3 o4 b0 b1 b2' b3 b4
          refine Hdo.out.mono ?_
          intro e w7 h7
          obtain ⟨rfl, T', hO7, -⟩ := HOb.out.said h7
          have HO7 := Box.mk hO7
          clear h7 hO7 HOb Hdo
          go_wp2_with fail
          go_roundw
          case rel => exact ⟨j + 1, P', L', T', by omega, by go_num, HO7, HI', HC2⟩
          case measure => simp [intOf]; omega
      · have hjl2 : ¬ ((j : Int) < (l1 : Int)) := by omega
        have HC2 : Box (P.G.all.length ≤ 300 ∧ P.s.cycles ≤ 90000 + (if P.s.marking then 0 else 1) ∧ P.s.count = [n0, n1, n2, n3]) := ⟨by have := HC.out.1; omega, by have := HC.out.2.1; split <;> omega, HC.out.2.2⟩
        clear HC
        go_wp2_with fail
        go_loopw [] (fun wr => ∃ (P : PSt) (L : Nat → Nat → List Nat), Box (Own wz wr xb hb b g P T) ∧ Box (Inv P L) ∧ Box (P.G.all.length ≤ 300 ∧ P.s.cycles ≤ 90000 + (if P.s.marking then 0 else 1) ∧ P.s.count = [n0, n1, n2, n3])) (fun wr => gwW wr hb)
        case atStart => exact ⟨P, L, HOw, HI, HC2⟩
        case round =>
          clear HOw HI HC2
          obtain ⟨P, L, HOw, HI, HC⟩ := hrel
          have a0 := HOw.out.isX.rx.at0
          have hmk := marking_is HOw.out.isX.th
          have HG := Box.mk HOw.out.isX.th.gw
          cases hm : P.s.marking with
          | true =>
            rw [hm] at hmk
            have Hmk := Box.mk hmk
            have hcy := HC.out.2.1
            rw [hm, if_pos rfl] at hcy
            obtain ⟨s', L', e1, hI', hlt, hct, hcase⟩ := mark_step HI.out hm (by omega) _ (si_any HI.out.st)
            have Hin : Box (Calls Try.prog 18 #[.pointer (some ⟨hb, 0, none⟩), .int .i64 1] wr fun e w' => e = .returned (.tuple #[]) ∧ IsTH w' hb b g s' ∧ Keeps (foot3 hb b g) wr w') := ⟨incr_is (n := 1) HOw.out.isX.th e1 HI.out.fit.now (by omega)⟩
            have HI' := Box.mk hI'
            have HC2 : Box (P.G.all.length ≤ 300 ∧ s'.cycles ≤ 90000 + (if s'.marking then 0 else 1) ∧ s'.count = [n0, n1, n2, n3] ∧ gwS s' < gwW wr hb) := ⟨HC.out.1, by
              rcases hcase with ⟨q1, q2, -⟩ | ⟨q1, q2, -⟩
              · rw [q1, if_pos rfl]; omega
              · rw [q1, if_neg (by simp)]; omega, hct.trans HC.out.2.2, by rw [HG.out]; exact hlt⟩
            clear hmk hcy e1 hI' hlt hct hcase hm HC HG
            go_wp2_with (go_at_call 33; refine Hmk.out.mono ?_; rintro e w7 ⟨rfl, rfl⟩)
            refine Hin.out.mono ?_
            rintro e w7 ⟨rfl, hI7, k7⟩
            have HO7 := Box.mk (HOw.out.stepF hI7 rfl k7)
            have Hms : Box (gwW w7 hb = gwS s') := ⟨hI7.gw⟩
            clear hI7 k7 HOw Hin a0
            go_wp2_with fail
            go_roundw
            case rel => exact ⟨{ P with s := s' }, L', HO7, HI', ⟨HC2.out.1, HC2.out.2.1, HC2.out.2.2.1⟩⟩
            case measure => rw [Hms.out]; exact HC2.out.2.2.2
          | false =>
            rw [hm] at hmk
            have Hmk := Box.mk hmk
            have Hm := Box.mk hm
            clear hmk hm HG
            go_wp2_with (go_at_call 33; refine Hmk.out.mono ?_; rintro e w7 ⟨rfl, rfl⟩)
            refine (reached_is HOw.out.isX.rx (by have := HOw.out.isX.rx.lens.1; have := HC.out.1; omega) (fun t ht => by have := HI.out.forms t ht; omega)).mono ?_
            rintro e w8 ⟨⟨mb, l, rfl, hset, hmb, him, hall⟩, k8⟩
            have HO8 := Box.mk (HOw.out.step0 k8)
            have Hset := Box.mk hset
            have Hmb : Box (wz.heap.size ≤ mb) := ⟨Nat.le_trans HOw.out.keeps.size hmb⟩
            have Him := Box.mk (And.intro him hall)
            clear hset hmb him hall k8 HOw Hmk a0
            obtain ⟨av, abase, hx, hown⟩ := HO8.out.isX.rx.head
            obtain ⟨aa, ac, rfl⟩ : ∃ aa ac, av = .slice aa T.length ac := by
              rcases hown.2 with ⟨e, e2⟩ | ⟨g, cap, cur, e, -⟩
              · exact ⟨none, 0, by rw [e, e2]⟩
              · exact ⟨_, _, e⟩
            have c17 : w8.cell? ⟨xb, 17, none⟩ = some (.slice aa T.length ac) := by
              rw [cell_of_heap hx, List.getElem?_toArray]; exact (xcells_at HO8.out.isX.rx.wf.len).2.1
            have a0 := HO8.out.isX.rx.at0
            obtain ⟨m0, hm0⟩ : ∃ m0, T.length = m0 := ⟨_, rfl⟩
            have Hm0 := Box.mk hm0
            have Hma : Box (P.G.all.length = m0) := ⟨by rw [← hm0]; exact HO8.out.isX.rx.lens.1.symm⟩
            rw [hm0] at c17
            clear hx hown hm0
            obtain ⟨cyc, hcyc⟩ : ∃ cyc, P.s.cycles = cyc := ⟨_, rfl⟩
            have hcs := cycles_is HO8.out.isX.th
            rw [hcyc] at hcs
            have Hcs := Box.mk hcs
            have hcl := HC.out.2.1
            have hcl2 : cyc ≤ 90001 := by rw [← hcyc]; split at hcl <;> omega
            obtain ⟨s1, L1, e1, hI1, hc1, hq1⟩ := flip_begins HI.out Hm.out (by omega)
            have Hin : Box (Calls Try.prog 18 #[.pointer (some ⟨hb, 0, none⟩), .int .i64 1] w8 fun e w' => e = .returned (.tuple #[]) ∧ IsTH w' hb b g s1 ∧ Keeps (foot3 hb b g) w8 w') := ⟨incr_is (n := 1) HO8.out.isX.th e1 HI.out.fit.now (by omega)⟩
            have HX1 : Box (FlipX cyc m0 (PR P.G) T { P with s := s1 } L1 T) := ⟨by
              rw [hcyc, Hma.out] at hq1
              rcases hq1 with hq1 | ⟨r1, r2, r3⟩
              · have h1 : cyc < s1.cycles := hq1
                omega
              · exact ⟨hI1, r3, r1, r2, fun _ _ => rfl⟩⟩
            have Hct : Box (s1.count = [n0, n1, n2, n3]) := ⟨by rw [(tincr_same e1 HI.out.fit.now).2.2.2.1]; exact HC.out.2.2⟩
            have HC3 := Box.mk HC.out.1
            clear hcs hcl e1 hI1 hc1 hq1 hcyc HC HI
            go_wp2_with (go_at_call 34; refine Hcs.out.mono ?_; rintro e w9 ⟨rfl, rfl⟩)
            refine Hin.out.mono ?_
            rintro e w10 ⟨rfl, hI10, k10⟩
            have HO10 := Box.mk (HO8.out.stepF hI10 rfl k10)
            have HMp : Box (IsMp w10 mb l) := ⟨Hset.out.mp.keeps k10 (fun e => (foot_ne HO8.out.isX Hset.out.mp).h mb e rfl)⟩
            clear hI10 k10 HO8 Hin Hcs c17 a0
            have hl2I : (l2 : Int) ≤ 300 := by omega
            go_wp2_with fail
            obtain ⟨T0, hT0⟩ : ∃ T0, T0 = T := ⟨_, rfl⟩
            obtain ⟨lv, hlv⟩ : ∃ lv, PR P.G = lv := ⟨_, rfl⟩
            have HTT := Box.mk hT0
            rw [← hT0] at HX1
            rw [hlv] at HX1 Him
            have Hlv : Box (∀ i, lv i → i < m0) := ⟨fun i hi => by
              rw [← hlv] at hi
              have h1 : i < P.G.all.length := hi.lt HX1.out.inv.wf
              have := Hma.out
              omega⟩
            clear hlv hT0
            go_loopw [81] (fun i wr => ∃ (q : Nat) (P : PSt) (L : Nat → Nat → List Nat) (T : List Nat), q ≤ l2 ∧ i = .int .i64 q ∧ Box (Own wz wr xb hb b g P T) ∧ Box (FlipX cyc m0 lv T0 P L T) ∧ Box (IsMp wr mb l) ∧ Box (P.G.all.length ≤ 300 + q ∧ P.s.count = [n0, n1, n2, n3])) (fun i _ => l2 - (intOf i).toNat)
            case atStart => exact ⟨0, _, L1, T, Nat.zero_le _, rfl, HO10, by rw [HTT.out] at HX1 ⊢; exact HX1, HMp, ⟨HC3.out, Hct.out⟩⟩
            case round =>
              clear HO10 HX1 HMp HC3 Hct
              obtain ⟨q0, P, L, T, hq0, rfl, HOw, HX, HMp, HC⟩ := hrel
              by_cases hjl : q0 < l2
              · obtain ⟨ab, ao, rfl, hab, o0, o1, o2, o3, o4⟩ := (Hops.out _ HOw.out.keeps).2.cells q0 hjl
                obtain ⟨o, hoj⟩ : ∃ o, ops2 q0 = o := ⟨_, rfl⟩
                rw [hoj] at o0 o1 o2 o3 o4
                have hj0 : (0 : Int) ≤ (q0 : Int) := by omega
                have hjI : (q0 : Int) < (l2 : Int) := by omega
                obtain ⟨wb, hwb⟩ : ∃ wb, wr.alloc (.cells #[.int .i64 o.kind, .int .i64 o.a, .int .i64 o.b, .int .i64 o.c, .int .i64 o.n] 54) = wb := ⟨_, rfl⟩
                obtain ⟨q, hq⟩ : ∃ q, wr.heap.size = q := ⟨_, rfl⟩
                have hel := elem_of o hwb hq
                have HEl := Box.mk hel.k
                obtain ⟨b0, b1, b2', b3, b4, -⟩ := hel
                have HOb := Box.mk (HOw.out.step0 HEl.out)
                have HMb := Box.mk (HMp.out.keeps HEl.out (fun h => h))
                have HC2 : Box (P.G.all.length ≤ 300 + (q0 + 1) ∧ P.s.count = [n0, n1, n2, n3]) := ⟨by have := HC.out.1; omega, HC.out.2⟩
                clear hoj HOw HEl HMp
                by_cases hkk : o.kind = 6 ∨ o.kind = 7
                · rcases hkk with hk | hk
                  · have e6 : (o.kind == 6) = true := by rw [hk]; rfl
                    clear hk HC
                    go_wp2_with fail
                    go_roundw
                    case rel => exact ⟨q0 + 1, P, L, T, by omega, by go_num, HOb, HX, HMb, HC2⟩
                    case measure => simp [intOf]; omega
                  · have e6 : (o.kind == 6) = false := by rw [hk]; rfl
                    have e7 : (o.kind == 7) = true := by rw [hk]; rfl
                    clear hk HC
                    go_wp2_with fail
                    go_roundw
                    case rel => exact ⟨q0 + 1, P, L, T, by omega, by go_num, HOb, HX, HMb, HC2⟩
                    case measure => simp [intOf]; omega
                · have e6 : (o.kind == 6) = false := by rw [beq_eq_false_iff_ne]; omega
                  have e7 : (o.kind == 7) = false := by rw [beq_eq_false_iff_ne]; omega
                  obtain ⟨P', L', hD⟩ := doing (track_flip lv m0 cyc) HX.out.inv (Or.inr ⟨HX.out.cyc, HX.out.mrk, HX.out.i⟩) trivial (by have := HX.out.cyc; omega) o (by omega)
                  have hdo := do_is HOb.out.isX HX.out.inv.fit (fun t ht => by have := HX.out.inv.forms t ht; omega) (by have := HOb.out.isX.rx.lens.1; have := HC.out.1; omega) hD.did
                  have Hdo := Box.mk hdo
                  have HD := Box.mk hD
                  have HC3 : Box (P'.G.all.length ≤ 300 + (q0 + 1) ∧ P'.s.count = [n0, n1, n2, n3]) := ⟨by have := HC.out.1; have := hD.all; omega, hD.count.trans HC.out.2⟩
                  clear hD hdo hkk HC HC2
                  go_wp2_with fail
                  clear hwb hq o0 o1 o2 o3 o4 b0 b1 b2' b3 b4
                  refine Hdo.out.mono ?_
                  intro e w7 h7
                  have HM7 := Box.mk (h7.mp HOb.out.isX HMb.out)
                  obtain ⟨rfl, T', hO7, hTT⟩ := HOb.out.said h7
                  have HO7 := Box.mk hO7
                  have hpre : ∀ i, i < m0 → T'.getD i 0 = T0.getD i 0 := fun i hi => by
                    rw [← HX.out.pre i hi]
                    rcases hTT with e | ⟨a, e, -⟩
                    · rw [e]
                    · rw [e]
                      have := HOb.out.isX.rx.lens.1
                      have := HX.out.i.m
                      exact getD_app_lt (by omega)
                  have Hpre := Box.mk hpre
                  have a0 := hO7.isX.rx.at0
                  have c18 := hO7.isX.rx.at18
                  obtain ⟨c7, hc7⟩ : ∃ c7, P'.s.cycles = c7 := ⟨_, rfl⟩
                  have hcs := cycles_is hO7.isX.th
                  rw [hc7] at hcs
                  have Hcs := Box.mk hcs
                  have Hc7 := Box.mk hc7
                  clear h7 hO7 HOb HMb Hdo hTT hpre hcs hc7
                  rcases HD.out.q with hq1 | ⟨r1, r2, r3⟩
                  · have e8 : ((c7 : Int) != (cyc : Int)) = true := by have := Hc7.out; rw [bne_iff_ne]; omega
                    clear hq1
                    go_wp2_with (go_at_call 34; refine Hcs.out.mono ?_; rintro e w9 ⟨rfl, rfl⟩)
                    go_ret
                    exact ⟨rfl, Hend.out _ HO7.out.keeps⟩
                  · have hce : c7 = cyc := by rw [← Hc7.out]; exact r1
                    subst hce
                    have HX2 : Box (FlipX c7 m0 lv T0 P' L' T') := ⟨⟨HD.out.inv, r3, r1, r2, Hpre.out⟩⟩
                    clear r1 r2 r3 HD HX
                    go_wp2_with (go_at_call 34; refine Hcs.out.mono ?_; rintro e w9 ⟨rfl, rfl⟩)
                    go_roundw
                    case rel => exact ⟨q0 + 1, P', L', T', by omega, by go_num, HO7, HX2, HM7, HC3⟩
                    case measure => simp [intOf]; omega
              · have hjl3 : ¬ ((q0 : Int) < (l2 : Int)) := by omega
                have HC2 : Box (P.G.all.length ≤ 700 ∧ P.s.count = [n0, n1, n2, n3]) := ⟨by have := HC.out.1; omega, HC.out.2⟩
                have Hpre := Box.mk HX.out.pre
                have Hm0le := Box.mk HX.out.i.m
                obtain ⟨G4, hG4⟩ : ∃ G4, P.G = G4 := ⟨_, rfl⟩
                have HG0 : Box (G4.all.length ≤ 700 ∧ m0 ≤ G4.all.length ∧ T.length = G4.all.length) := ⟨by rw [← hG4]; exact ⟨HC2.out.1, HX.out.i.m, HOw.out.isX.rx.lens.1⟩⟩
                have HGs : Box (P.G = G4) := ⟨hG4⟩
                have HXe : Box (Inv P L ∧ ((P.s.cycles = cyc ∧ P.s.marking = true ∧ FlipI lv m0 cyc P L) ∨ FlipE lv m0 cyc P L)) := ⟨HX.out.inv, Or.inl ⟨HX.out.cyc, HX.out.mrk, HX.out.i⟩⟩
                have Hct : Box (P.s.count = [n0, n1, n2, n3]) := ⟨HC2.out.2⟩
                clear HC HX HC2 Hm0le hG4
                go_wp2_with fail
                go_loopw [] (fun wr => ∃ (P : PSt) (L : Nat → Nat → List Nat), Box (Own wz wr xb hb b g P T) ∧ Box (P.G = G4) ∧ Box (Inv P L ∧ ((P.s.cycles = cyc ∧ P.s.marking = true ∧ FlipI lv m0 cyc P L) ∨ FlipE lv m0 cyc P L)) ∧ Box (IsMp wr mb l) ∧ Box (P.s.count = [n0, n1, n2, n3])) (fun wr => gwW wr hb)
                case atStart => exact ⟨P, L, HOw, HGs, HXe, HMp, Hct⟩
                case round =>
                  clear HOw HGs HXe HMp Hct
                  obtain ⟨P, L, HOw, HGs, HXe, HMp, Hct⟩ := hrel
                  have a0 := HOw.out.isX.rx.at0
                  have hcs := cycles_is HOw.out.isX.th
                  have HGw := Box.mk HOw.out.isX.th.gw
                  rcases HXe.out.2 with ⟨r1, r2, r3⟩ | hE
                  · rw [r1] at hcs
                    have Hcs := Box.mk hcs
                    obtain ⟨s', L', e1, hI', hlt, hct, hcase⟩ := mark_step HXe.out.1 r2 (by omega) _ r3.si
                    have Hin : Box (Calls Try.prog 18 #[.pointer (some ⟨hb, 0, none⟩), .int .i64 1] wr fun e w' => e = .returned (.tuple #[]) ∧ IsTH w' hb b g s' ∧ Keeps (foot3 hb b g) wr w') := ⟨incr_is (n := 1) HOw.out.isX.th e1 HXe.out.1.fit.now (by omega)⟩
                    have HX2 : Box (Inv { P with s := s' } L' ∧ ((s'.cycles = cyc ∧ s'.marking = true ∧ FlipI lv m0 cyc { P with s := s' } L') ∨ FlipE lv m0 cyc { P with s := s' } L')) := ⟨hI', by
                      rcases hcase with ⟨q1, q2, q3⟩ | ⟨q1, q2, q3, q4⟩
                      · exact Or.inl ⟨by omega, q1, r3.of hct q3⟩
                      · refine Or.inr ⟨by show s'.cycles = cyc + 1; omega, q3, q4, fun i hi => ?_, r3.inj, r3.m⟩
                        show IsC s'.count _ _
                        rw [hct]; exact r3.isC i hi⟩
                    have Hct2 : Box (s'.count = [n0, n1, n2, n3] ∧ gwS s' < gwW wr hb) := ⟨hct.trans Hct.out, by rw [HGw.out]; exact hlt⟩
                    clear hcs r1 r2 r3 e1 hI' hlt hct hcase HXe Hct HGw
                    go_wp2_with (go_at_call 34; refine Hcs.out.mono ?_; rintro e w9 ⟨rfl, rfl⟩)
                    refine Hin.out.mono ?_
                    rintro e w7 ⟨rfl, hI7, k7⟩
                    have HO7 := Box.mk (HOw.out.stepF hI7 rfl k7)
                    have HM7 : Box (IsMp w7 mb l) := ⟨HMp.out.keeps k7 (fun e => (foot_ne HOw.out.isX HMp.out).h mb e rfl)⟩
                    have Hms : Box (gwW w7 hb = gwS s') := ⟨hI7.gw⟩
                    clear hI7 k7 HOw HMp Hin a0
                    go_wp2_with fail
                    go_roundw
                    case rel => exact ⟨{ P with s := s' }, L', HO7, HGs, HX2, HM7, ⟨Hct2.out.1⟩⟩
                    case measure => rw [Hms.out]; exact Hct2.out.2
                  · obtain ⟨c7, hc7⟩ : ∃ c7, P.s.cycles = c7 := ⟨_, rfl⟩
                    rw [hc7] at hcs
                    have Hcs := Box.mk hcs
                    have e8 : ((c7 : Int) == (cyc : Int)) = false := by have := hE.cyc; rw [beq_eq_false_iff_ne]; omega
                    have HE := Box.mk hE
                    have HI := Box.mk HXe.out.1
                    obtain ⟨av, abase, hx, hown⟩ := HOw.out.isX.rx.head
                    obtain ⟨aa, ac, rfl⟩ : ∃ aa ac, av = .slice aa T.length ac := by
                      rcases hown.2 with ⟨e, e2⟩ | ⟨g, cap, cur, e, -⟩
                      · exact ⟨none, 0, by rw [e, e2]⟩
                      · exact ⟨_, _, e⟩
                    have c17 : wr.cell? ⟨xb, 17, none⟩ = some (.slice aa T.length ac) := by
                      rw [cell_of_heap hx, List.getElem?_toArray]; exact (xcells_at HOw.out.isX.rx.wf.len).2.1
                    have Hown := Box.mk hown
                    obtain ⟨n, hn⟩ : ∃ n, T.length = n := ⟨_, rfl⟩
                    have Hn := Box.mk hn
                    have hmn : (m0 : Int) ≤ (n : Int) := by have := HG0.out; omega
                    have hm0I : (0 : Int) ≤ (m0 : Int) := by omega
                    have hnc : n ≤ ac := by
                      rw [← hn]
                      rcases hown.2 with ⟨e, e2⟩ | ⟨g, cap, cur, e, -, -, e3, -⟩
                      · injection e with e4 e5 e6
                        omega
                      · injection e with e4 e5 e6
                        omega
                    have hncI : (n : Int) ≤ (ac : Int) := by omega
                    rw [hn] at c17
                    clear hcs hc7 hE HXe hx hown hn HGw
                    by_cases hac : ac = m0
                    · have hnm : n = m0 := by omega
                      have Hl2 : Box (∀ a, a ∈ l ↔ ∃ i, Lvs lv m0 P.G i ∧ a = T.getD i 0) := ⟨fun a => by
                        have hTl := HOw.out.isX.rx.lens.1
                        have hnn := Hn.out
                        constructor
                        · intro ha
                          obtain ⟨i, hi, e⟩ := Him.out.1 a ha
                          have hlt := Hlv.out i hi
                          rw [← HTT.out, ← Hpre.out i hlt] at e
                          exact ⟨i, Or.inl ⟨hlt, hi⟩, e⟩
                        · rintro ⟨i, hi, rfl⟩
                          rcases hi with ⟨hlt, hi⟩ | ⟨h1, h2⟩
                          · rw [Hpre.out i hlt, HTT.out]; exact Him.out.2 i hi
                          · omega⟩
                      subst hac
                      subst hnm
                      clear hmn hnc hncI
                      go_wp2_with (go_at_call 34; refine Hcs.out.mono ?_; rintro e w9 ⟨rfl, rfl⟩)
                      clear c17 a0 Hcs Hown e8
                      obtain ⟨l2x, hl2x⟩ : ∃ l2x, l = l2x := ⟨_, rfl⟩
                      rw [hl2x] at Hl2 HMp
                      clear hl2x
                      go_loopw [128] (fun i2 wr => i2 = .int .i64 0 ∧ Box (Own wz wr xb hb b g P T) ∧ Box (IsMp wr mb l2x)) (fun _ _ => 0)
                      case atStart => exact ⟨rfl, HOw, HMp⟩
                      case round =>
                        clear HOw HMp
                        obtain ⟨rfl, HOw, HMp⟩ := hrel
                        have hsm := HMp.out
                        have hset : IsSet wr mb l2x := ⟨hsm.map, hsm.nd, fun a ha => by
                          obtain ⟨i, hi, rfl⟩ := (Hl2.out a).1 ha
                          exact HOw.out.isX.rx.isT (hi.lt HE.out.m)⟩
                        obtain ⟨cl, hcl⟩ : ∃ cl : Nat → Nat, ∀ i, i < P.G.all.length → cl (T.getD i 0) = clsOf P.G i := by
                          classical
                          refine ⟨fun a => if h : ∃ i, i < P.G.all.length ∧ T.getD i 0 = a then clsOf P.G h.choose else 0, fun i hi => ?_⟩
                          have hex : ∃ j, j < P.G.all.length ∧ T.getD j 0 = T.getD i 0 := ⟨i, hi, rfl⟩
                          simp only
                          rw [dif_pos hex]
                          have hsp := hex.choose_spec
                          have hTl := HOw.out.isX.rx.lens.1
                          have key : ∀ j, j < P.G.all.length → T.getD j 0 = T.getD i 0 → j = i := fun j hj e => by
                            have h1 : j < T.length := by omega
                            have h2 : i < T.length := by omega
                            simp only [List.getD, List.getElem?_eq_getElem h1, List.getElem?_eq_getElem h2, Option.getD_some] at e
                            exact nodup_get HOw.out.isX.rx.nd h1 h2 e
                          have e := key _ hsp.1 hsp.2
                          rw [e]
                        have hcount := count_is cl hset (by
                          have := nodup_le l2x T hsm.nd (fun a ha => by
                            obtain ⟨i, hi, rfl⟩ := (Hl2.out a).1 ha
                            have h2 : i < T.length := by have := hi.lt HE.out.m; have := HOw.out.isX.rx.lens.1; omega
                            simp [List.getD, List.getElem?_eq_getElem h2])
                          have := HG0.out
                          have h7 : P.G.all.length ≤ 700 := by rw [HGs.out]; exact HG0.out.1
                          have := HOw.out.isX.rx.lens.1
                          omega) (fun a ha => by
                          obtain ⟨i, hi, rfl⟩ := (Hl2.out a).1 ha
                          have hlt := hi.lt HE.out.m
                          obtain ⟨t, ht⟩ : ∃ t, P.G.all[i]? = some t := ⟨_, List.getElem?_eq_getElem hlt⟩
                          obtain ⟨fa, fc, -, q1, -⟩ := HOw.out.isX.rx.cells ht
                          exact ⟨t.fields.length, fa, fc, HI.out.le t (List.mem_of_getElem? ht), by rw [hcl i hlt]; unfold clsOf; rw [ht], q1⟩)
                        have hfree := fun c (hc : c < 4) => flip_count HI.out.st HE.out HOw.out.isX.rx.lens.1 HOw.out.isX.rx.nd hsm.nd Hl2.out cl hcl hc
                        have Hcount := Box.mk hcount
                        have Hfree := Box.mk hfree
                        clear hsm hset hcl hcount hfree
                        go_wp2_with fail
                        refine Hcount.out.mono ?_
                        rintro e w11 ⟨⟨p0, p1, p2, p3, rfl, hp⟩, k11⟩
                        have HO11 := Box.mk (HOw.out.step0 k11)
                        have hct4 := Hct.out
                        obtain ⟨f0, hf0⟩ : ∃ f, lget P.s 0 0 = f := ⟨_, rfl⟩
                        obtain ⟨f1, hf1⟩ : ∃ f, lget P.s 1 0 = f := ⟨_, rfl⟩
                        obtain ⟨f2, hf2⟩ : ∃ f, lget P.s 2 0 = f := ⟨_, rfl⟩
                        obtain ⟨f3, hf3⟩ : ∃ f, lget P.s 3 0 = f := ⟨_, rfl⟩
                        have hs0 : f0 + p0 = n0 := by
                          have h1 := Hfree.out 0 (by omega)
                          rw [← hp 0 (by omega), hct4, hf0] at h1; simpa using h1
                        have hs1 : f1 + p1 = n1 := by
                          have h1 := Hfree.out 1 (by omega)
                          rw [← hp 1 (by omega), hct4, hf1] at h1; simpa using h1
                        have hs2 : f2 + p2 = n2 := by
                          have h1 := Hfree.out 2 (by omega)
                          rw [← hp 2 (by omega), hct4, hf2] at h1; simpa using h1
                        have hs3 : f3 + p3 = n3 := by
                          have h1 := Hfree.out 3 (by omega)
                          rw [← hp 3 (by omega), hct4, hf3] at h1; simpa using h1
                        have Hs := Box.mk (And.intro hs0 (And.intro hs1 (And.intro hs2 hs3)))
                        have Hf := Box.mk (And.intro hf0 (And.intro hf1 (And.intro hf2 hf3)))
                        have HBc := Box.mk (HO11.out.keeps.heap HB2.out (by have := Hcw.out; omega))
                        clear k11 hct4 hf0 hf1 hf2 hf3 hs0 hs1 hs2 hs3 hp HOw HMp Hl2 Hcount Hfree
                        go_wp2_with fail
                        go_loopw [137] (fun i2 wr => ∃ (cc : Nat), cc ≤ 4 ∧ i2 = .int .i64 cc ∧ Box (Own wz wr xb hb b g P T) ∧ Box (wr.heap[cb]? = some (.cells #[.int .i64 (n0 : Int), .int .i64 (n1 : Int), .int .i64 (n2 : Int), .int .i64 (n3 : Int), .int .i64 (kn : Int)] 47 (0, 0)))) (fun i2 _ => 4 - (intOf i2).toNat)
                        case atStart => exact ⟨0, by omega, rfl, HO11, HBc⟩
                        case round =>
                          clear HO11 HBc
                          obtain ⟨cc, hcc, rfl, HO, HBc⟩ := hrel
                          have hc5 : cc = 0 ∨ cc = 1 ∨ cc = 2 ∨ cc = 3 ∨ cc = 4 := by omega
                          rcases hc5 with rfl | rfl | rfl | rfl | rfl
                          · have a0 := HO.out.isX.rx.at0
                            have cC := cell_of_heap HBc.out 0
                            simp only [List.getElem?_toArray, List.getElem?_cons_zero, List.getElem?_cons_succ] at cC
                            have hix := idx4_0 (.int .i64 (p0 : Int)) (.int .i64 (p1 : Int)) (.int .i64 (p2 : Int)) (.int .i64 (p3 : Int))
                            have Hfr : Box (∀ m, Calls Try.prog 36 #[.pointer (some ⟨hb, 0, none⟩), .int .i64 0] (wr.drewN m) fun e w' => e = .returned (.int .i64 (f0 : Nat)) ∧ w' = wr.drewN m) := ⟨fun m => by
                              have hfr := free_is (c := 0) (HO.out.isX.th.keeps0 ((Keeps.refl (fun _ => False) wr).drewN m)) (by omega)
                              rw [Hf.out.1] at hfr
                              exact hfr⟩
                            have hd1 : (n0 : Int) - (p0 : Int) = (f0 : Int) := by have := Hs.out; omega
                            have hd2 : IntKind.i64.wrap (f0 : Int) = (f0 : Int) := IntWalk.i64_in _ (by have := Hs.out; omega)
                            clear hcc
                            go_wp2_with fail
                            go_quiet ((go_at_call 36; exact Calls.quiet_of_same (Hfr.out _)))
                            have kq := (Keeps.refl (fun _ => False) wr).drewN nq
                            have HO2 := Box.mk (HO.out.step0 kq)
                            have HB3 := Box.mk (kq.heap HBc.out (fun h => h))
                            clear kq HO HBc cC Hfr a0 hix hd1 hd2
                            go_wp2_with fail
                            go_roundw
                            case rel => exact ⟨1, by omega, by go_num, HO2, HB3⟩
                            case measure => simp [intOf]
                          · have a0 := HO.out.isX.rx.at0
                            have cC := cell_of_heap HBc.out 1
                            simp only [List.getElem?_toArray, List.getElem?_cons_zero, List.getElem?_cons_succ] at cC
                            have hix := idx4_1 (.int .i64 (p0 : Int)) (.int .i64 (p1 : Int)) (.int .i64 (p2 : Int)) (.int .i64 (p3 : Int))
                            have Hfr : Box (∀ m, Calls Try.prog 36 #[.pointer (some ⟨hb, 0, none⟩), .int .i64 1] (wr.drewN m) fun e w' => e = .returned (.int .i64 (f1 : Nat)) ∧ w' = wr.drewN m) := ⟨fun m => by
                              have hfr := free_is (c := 1) (HO.out.isX.th.keeps0 ((Keeps.refl (fun _ => False) wr).drewN m)) (by omega)
                              rw [Hf.out.2.1] at hfr
                              exact hfr⟩
                            have hd1 : (n1 : Int) - (p1 : Int) = (f1 : Int) := by have := Hs.out; omega
                            have hd2 : IntKind.i64.wrap (f1 : Int) = (f1 : Int) := IntWalk.i64_in _ (by have := Hs.out; omega)
                            clear hcc
                            go_wp2_with fail
                            go_quiet ((go_at_call 36; exact Calls.quiet_of_same (Hfr.out _)))
                            have kq := (Keeps.refl (fun _ => False) wr).drewN nq
                            have HO2 := Box.mk (HO.out.step0 kq)
                            have HB3 := Box.mk (kq.heap HBc.out (fun h => h))
                            clear kq HO HBc cC Hfr a0 hix hd1 hd2
                            go_wp2_with fail
                            go_roundw
                            case rel => exact ⟨2, by omega, by go_num, HO2, HB3⟩
                            case measure => simp [intOf]
                          · have a0 := HO.out.isX.rx.at0
                            have cC := cell_of_heap HBc.out 2
                            simp only [List.getElem?_toArray, List.getElem?_cons_zero, List.getElem?_cons_succ] at cC
                            have hix := idx4_2 (.int .i64 (p0 : Int)) (.int .i64 (p1 : Int)) (.int .i64 (p2 : Int)) (.int .i64 (p3 : Int))
                            have Hfr : Box (∀ m, Calls Try.prog 36 #[.pointer (some ⟨hb, 0, none⟩), .int .i64 2] (wr.drewN m) fun e w' => e = .returned (.int .i64 (f2 : Nat)) ∧ w' = wr.drewN m) := ⟨fun m => by
                              have hfr := free_is (c := 2) (HO.out.isX.th.keeps0 ((Keeps.refl (fun _ => False) wr).drewN m)) (by omega)
                              rw [Hf.out.2.2.1] at hfr
                              exact hfr⟩
                            have hd1 : (n2 : Int) - (p2 : Int) = (f2 : Int) := by have := Hs.out; omega
                            have hd2 : IntKind.i64.wrap (f2 : Int) = (f2 : Int) := IntWalk.i64_in _ (by have := Hs.out; omega)
                            clear hcc
                            go_wp2_with fail
                            go_quiet ((go_at_call 36; exact Calls.quiet_of_same (Hfr.out _)))
                            have kq := (Keeps.refl (fun _ => False) wr).drewN nq
                            have HO2 := Box.mk (HO.out.step0 kq)
                            have HB3 := Box.mk (kq.heap HBc.out (fun h => h))
                            clear kq HO HBc cC Hfr a0 hix hd1 hd2
                            go_wp2_with fail
                            go_roundw
                            case rel => exact ⟨3, by omega, by go_num, HO2, HB3⟩
                            case measure => simp [intOf]
                          · have a0 := HO.out.isX.rx.at0
                            have cC := cell_of_heap HBc.out 3
                            simp only [List.getElem?_toArray, List.getElem?_cons_zero, List.getElem?_cons_succ] at cC
                            have hix := idx4_3 (.int .i64 (p0 : Int)) (.int .i64 (p1 : Int)) (.int .i64 (p2 : Int)) (.int .i64 (p3 : Int))
                            have Hfr : Box (∀ m, Calls Try.prog 36 #[.pointer (some ⟨hb, 0, none⟩), .int .i64 3] (wr.drewN m) fun e w' => e = .returned (.int .i64 (f3 : Nat)) ∧ w' = wr.drewN m) := ⟨fun m => by
                              have hfr := free_is (c := 3) (HO.out.isX.th.keeps0 ((Keeps.refl (fun _ => False) wr).drewN m)) (by omega)
                              rw [Hf.out.2.2.2] at hfr
                              exact hfr⟩
                            have hd1 : (n3 : Int) - (p3 : Int) = (f3 : Int) := by have := Hs.out; omega
                            have hd2 : IntKind.i64.wrap (f3 : Int) = (f3 : Int) := IntWalk.i64_in _ (by have := Hs.out; omega)
                            clear hcc
                            go_wp2_with fail
                            go_quiet ((go_at_call 36; exact Calls.quiet_of_same (Hfr.out _)))
                            have kq := (Keeps.refl (fun _ => False) wr).drewN nq
                            have HO2 := Box.mk (HO.out.step0 kq)
                            have HB3 := Box.mk (kq.heap HBc.out (fun h => h))
                            clear kq HO HBc cC Hfr a0 hix hd1 hd2
                            go_wp2_with fail
                            go_roundw
                            case rel => exact ⟨4, by omega, by go_num, HO2, HB3⟩
                            case measure => simp [intOf]
                          · have c18 := HO.out.isX.rx.at18
                            clear hcc
                            go_wp2_with fail
                            refine (sees_is HO.out.isX HI.out.fit (fun t ht => by have := HI.out.forms t ht; omega) (by have := HO.out.isX.rx.lens.1; have h7 : P.G.all.length ≤ 700 := (by rw [HGs.out]; exact HG0.out.1); omega)).mono ?_
                            intro e w12 h12
                            obtain ⟨rfl, hO12⟩ := HO.out.seen h12
                            have HO12 := Box.mk hO12
                            clear h12 hO12 c18
                            go_wp2_with fail
                            go_ret
                            exact ⟨rfl, Hend.out _ HO12.out.keeps⟩
                    · have hacI : ((ac : Int) == (m0 : Int)) = false := by rw [beq_eq_false_iff_ne]; omega
                      obtain ⟨ag, rfl⟩ : ∃ ag, aa = some ⟨ag, 0, none⟩ := by
                        rcases Hown.out.2 with ⟨e, e2⟩ | ⟨g, cap, cur, e, -⟩
                        · injection e with e4 e5 e6
                          omega
                        · injection e with e4 e5 e6
                          exact ⟨g, e4⟩
                      obtain ⟨nd, hnd⟩ : ∃ nd, n - m0 = nd := ⟨_, rfl⟩
                      have Hnd : Box (m0 + nd = n) := ⟨by omega⟩
                      have hn700 : n ≤ 700 := by have := HG0.out; have := Hn.out; omega
                      go_wp2_with (go_at_call 34; refine Hcs.out.mono ?_; rintro e w9 ⟨rfl, rfl⟩)
                      have C17 := Box.mk c17
                      have hndI : (nd : Int) ≤ 700 := by omega
                      have HTl : Box (T.length = P.G.all.length) := ⟨HOw.out.isX.rx.lens.1⟩
                      have HC0 : Box (∀ i, i < nd → w9.cell? ⟨ag, m0 + i, none⟩ = some (pkey (T.getD (m0 + i) 0))) := ⟨fun i hi => by
                        have hlt : m0 + i < T.length := by have := Hnd.out; have := Hn.out; omega
                        have h1 := Hown.out.cellAt (m0 + i) (by omega)
                        rw [h1, List.getElem?_map]
                        simp [List.getD, List.getElem?_eq_getElem hlt]⟩
                      have Hagm : Box (ag ≠ mb) := ⟨fun e => by
                        obtain ⟨cs, hcs⟩ := own_type Hown.out (z := ag) rfl
                        rw [e] at hcs
                        exact HMp.out.notCells _ _ hcs⟩
                      clear c17 a0 Hcs e8 hnd hac hacI
                      go_loopw [128] (fun i2 wr => ∃ (q1 : Nat) (lx : List Nat), q1 ≤ nd ∧ i2 = .int .i64 q1 ∧ Box (Own wz wr xb hb b g P T) ∧ Box (IsMp wr mb lx) ∧ Box (∀ a, a ∈ lx ↔ a ∈ l ∨ ∃ i, m0 ≤ i ∧ i < m0 + q1 ∧ a = T.getD i 0) ∧ Box (∀ i, i < nd → wr.cell? ⟨ag, m0 + i, none⟩ = some (pkey (T.getD (m0 + i) 0)))) (fun i2 _ => nd - (intOf i2).toNat)
                      case atStart => exact ⟨0, l, Nat.zero_le _, rfl, HOw, HMp, ⟨fun a => ⟨Or.inl, fun h => h.elim id (fun ⟨i, h1, h2, _⟩ => by omega)⟩⟩, HC0⟩
                      case round =>
                        clear HOw HMp HC0
                        obtain ⟨q1, lx, hq1, rfl, HOw, HMp, Hlx, HC0⟩ := hrel
                        by_cases hqn : q1 < nd
                        · have hq0I : (0 : Int) ≤ (q1 : Int) := by omega
                          have hqnI : (q1 : Int) < (nd : Int) := by omega
                          have z1 := HC0.out q1 hqn
                          have hilt : m0 + q1 < T.length := by have := Hnd.out; have := Hn.out; omega
                          have hset : IsSet wr mb lx := ⟨HMp.out.map, HMp.out.nd, fun a ha => by
                            rcases (Hlx.out a).1 ha with h | ⟨i, h1, h2, rfl⟩
                            · obtain ⟨i, hi, e⟩ := Him.out.1 a h
                              have hlt := Hlv.out i hi
                              rw [← HTT.out, ← Hpre.out i hlt] at e
                              rw [e]
                              exact HOw.out.isX.rx.isT (by have := HTl.out; omega)
                            · exact HOw.out.isX.rx.isT (by have := HTl.out; omega)⟩
                          have hinj : ∀ i j, i < T.length → j < T.length → T.getD i 0 = T.getD j 0 → i = j := fun i j hi hj e => by
                            simp only [List.getD, List.getElem?_eq_getElem hi, List.getElem?_eq_getElem hj, Option.getD_some] at e
                            exact nodup_get HOw.out.isX.rx.nd hi hj e
                          have hnin : T.getD (m0 + q1) 0 ∉ lx := fun h => by
                            rcases (Hlx.out _).1 h with h | ⟨i, h1, h2, e⟩
                            · obtain ⟨i, hi, e⟩ := Him.out.1 _ h
                              have hlt := Hlv.out i hi
                              rw [← HTT.out, ← Hpre.out i hlt] at e
                              have := hinj _ _ hilt (by omega) e
                              omega
                            · have := hinj _ _ hilt (by omega) e
                              omega
                          obtain ⟨wn, hmu, hset2, km⟩ := set_put wr hset (HOw.out.isX.rx.isT (i := m0 + q1) (by have := HTl.out; omega)) hnin
                          have HO2 := Box.mk (HOw.out.stepN km Hmb.out (fun cs t => HMp.out.notCells cs t))
                          have HM2 := Box.mk hset2.mp
                          have Hlx2 : Box (∀ a, a ∈ lx ++ [T.getD (m0 + q1) 0] ↔ a ∈ l ∨ ∃ i, m0 ≤ i ∧ i < m0 + (q1 + 1) ∧ a = T.getD i 0) := ⟨fun a => by
                            rw [List.mem_append, List.mem_singleton, Hlx.out]
                            constructor
                            · rintro ((h | ⟨i, h1, h2, e⟩) | h)
                              · exact Or.inl h
                              · exact Or.inr ⟨i, h1, by omega, e⟩
                              · exact Or.inr ⟨m0 + q1, by omega, by omega, h⟩
                            · rintro (h | ⟨i, h1, h2, e⟩)
                              · exact Or.inl (Or.inl h)
                              · by_cases ei : i < m0 + q1
                                · exact Or.inl (Or.inr ⟨i, h1, ei, e⟩)
                                · have : i = m0 + q1 := by omega
                                  rw [this] at e
                                  exact Or.inr e⟩
                          have HC2 : Box (∀ i, i < nd → wn.cell? ⟨ag, m0 + i, none⟩ = some (pkey (T.getD (m0 + i) 0))) := ⟨fun i hi => km.cell (HC0.out i hi) Hagm.out⟩
                          obtain ⟨tb, htb⟩ : ∃ tb, T.getD (m0 + q1) 0 = tb := ⟨_, rfl⟩
                          rw [htb] at hmu z1
                          have Htb := Box.mk htb
                          unfold pkey at hmu z1
                          clear hset hinj hnin hset2 km hilt HOw HMp Hlx HC0 htb
                          go_wp2_with fail
                          go_roundw
                          case rel => exact ⟨q1 + 1, _, by omega, by go_num, HO2, HM2, Hlx2, HC2⟩
                          case measure => simp [intOf]; omega
                        · have hqn2 : ¬ ((q1 : Int) < (nd : Int)) := by omega
                          have Hl2 : Box (∀ a, a ∈ lx ↔ ∃ i, Lvs lv m0 P.G i ∧ a = T.getD i 0) := ⟨fun a => by
                            have hTl := HTl.out
                            have hnn := Hn.out
                            have hnd := Hnd.out
                            rw [Hlx.out]
                            constructor
                            · rintro (ha | ⟨i, h1, h2, e⟩)
                              · obtain ⟨i, hi, e⟩ := Him.out.1 a ha
                                have hlt := Hlv.out i hi
                                rw [← HTT.out, ← Hpre.out i hlt] at e
                                exact ⟨i, Or.inl ⟨hlt, hi⟩, e⟩
                              · exact ⟨i, Or.inr ⟨h1, by omega⟩, e⟩
                            · rintro ⟨i, hi, rfl⟩
                              rcases hi with ⟨hlt, hi⟩ | ⟨h1, h2⟩
                              · rw [Hpre.out i hlt, HTT.out]; exact Or.inl (Him.out.2 i hi)
                              · exact Or.inr ⟨i, h1, by omega, rfl⟩⟩
                          obtain ⟨l2x, hl2x⟩ : ∃ l2x, lx = l2x := ⟨_, rfl⟩
                          rw [hl2x] at Hl2 HMp
                          clear Hlx HC0 hl2x hqn hq1
                          have hsm := HMp.out
                          have hset : IsSet wr mb l2x := ⟨hsm.map, hsm.nd, fun a ha => by
                            obtain ⟨i, hi, rfl⟩ := (Hl2.out a).1 ha
                            exact HOw.out.isX.rx.isT (hi.lt HE.out.m)⟩
                          obtain ⟨cl, hcl⟩ : ∃ cl : Nat → Nat, ∀ i, i < P.G.all.length → cl (T.getD i 0) = clsOf P.G i := by
                            classical
                            refine ⟨fun a => if h : ∃ i, i < P.G.all.length ∧ T.getD i 0 = a then clsOf P.G h.choose else 0, fun i hi => ?_⟩
                            have hex : ∃ j, j < P.G.all.length ∧ T.getD j 0 = T.getD i 0 := ⟨i, hi, rfl⟩
                            simp only
                            rw [dif_pos hex]
                            have hsp := hex.choose_spec
                            have hTl := HOw.out.isX.rx.lens.1
                            have key : ∀ j, j < P.G.all.length → T.getD j 0 = T.getD i 0 → j = i := fun j hj e => by
                              have h1 : j < T.length := by omega
                              have h2 : i < T.length := by omega
                              simp only [List.getD, List.getElem?_eq_getElem h1, List.getElem?_eq_getElem h2, Option.getD_some] at e
                              exact nodup_get HOw.out.isX.rx.nd h1 h2 e
                            have e := key _ hsp.1 hsp.2
                            rw [e]
                          have hcount := count_is cl hset (by
                            have := nodup_le l2x T hsm.nd (fun a ha => by
                              obtain ⟨i, hi, rfl⟩ := (Hl2.out a).1 ha
                              have h2 : i < T.length := by have := hi.lt HE.out.m; have := HOw.out.isX.rx.lens.1; omega
                              simp [List.getD, List.getElem?_eq_getElem h2])
                            have := HG0.out
                            have h7 : P.G.all.length ≤ 700 := by rw [HGs.out]; exact HG0.out.1
                            have := HOw.out.isX.rx.lens.1
                            omega) (fun a ha => by
                            obtain ⟨i, hi, rfl⟩ := (Hl2.out a).1 ha
                            have hlt := hi.lt HE.out.m
                            obtain ⟨t, ht⟩ : ∃ t, P.G.all[i]? = some t := ⟨_, List.getElem?_eq_getElem hlt⟩
                            obtain ⟨fa, fc, -, q1, -⟩ := HOw.out.isX.rx.cells ht
                            exact ⟨t.fields.length, fa, fc, HI.out.le t (List.mem_of_getElem? ht), by rw [hcl i hlt]; unfold clsOf; rw [ht], q1⟩)
                          have hfree := fun c (hc : c < 4) => flip_count HI.out.st HE.out HOw.out.isX.rx.lens.1 HOw.out.isX.rx.nd hsm.nd Hl2.out cl hcl hc
                          have Hcount := Box.mk hcount
                          have Hfree := Box.mk hfree
                          clear hsm hset hcl hcount hfree
                          go_wp2_with fail
                          refine Hcount.out.mono ?_
                          rintro e w11 ⟨⟨p0, p1, p2, p3, rfl, hp⟩, k11⟩
                          have HO11 := Box.mk (HOw.out.step0 k11)
                          have hct4 := Hct.out
                          obtain ⟨f0, hf0⟩ : ∃ f, lget P.s 0 0 = f := ⟨_, rfl⟩
                          obtain ⟨f1, hf1⟩ : ∃ f, lget P.s 1 0 = f := ⟨_, rfl⟩
                          obtain ⟨f2, hf2⟩ : ∃ f, lget P.s 2 0 = f := ⟨_, rfl⟩
                          obtain ⟨f3, hf3⟩ : ∃ f, lget P.s 3 0 = f := ⟨_, rfl⟩
                          have hs0 : f0 + p0 = n0 := by
                            have h1 := Hfree.out 0 (by omega)
                            rw [← hp 0 (by omega), hct4, hf0] at h1; simpa using h1
                          have hs1 : f1 + p1 = n1 := by
                            have h1 := Hfree.out 1 (by omega)
                            rw [← hp 1 (by omega), hct4, hf1] at h1; simpa using h1
                          have hs2 : f2 + p2 = n2 := by
                            have h1 := Hfree.out 2 (by omega)
                            rw [← hp 2 (by omega), hct4, hf2] at h1; simpa using h1
                          have hs3 : f3 + p3 = n3 := by
                            have h1 := Hfree.out 3 (by omega)
                            rw [← hp 3 (by omega), hct4, hf3] at h1; simpa using h1
                          have Hs := Box.mk (And.intro hs0 (And.intro hs1 (And.intro hs2 hs3)))
                          have Hf := Box.mk (And.intro hf0 (And.intro hf1 (And.intro hf2 hf3)))
                          have HBc := Box.mk (HO11.out.keeps.heap HB2.out (by have := Hcw.out; omega))
                          clear k11 hct4 hf0 hf1 hf2 hf3 hs0 hs1 hs2 hs3 hp HOw HMp Hl2 Hcount Hfree
                          go_wp2_with fail
                          go_loopw [137] (fun i2 wr => ∃ (cc : Nat), cc ≤ 4 ∧ i2 = .int .i64 cc ∧ Box (Own wz wr xb hb b g P T) ∧ Box (wr.heap[cb]? = some (.cells #[.int .i64 (n0 : Int), .int .i64 (n1 : Int), .int .i64 (n2 : Int), .int .i64 (n3 : Int), .int .i64 (kn : Int)] 47 (0, 0)))) (fun i2 _ => 4 - (intOf i2).toNat)
                          case atStart => exact ⟨0, by omega, rfl, HO11, HBc⟩
                          case round =>
                            clear HO11 HBc
                            obtain ⟨cc, hcc, rfl, HO, HBc⟩ := hrel
                            have hc5 : cc = 0 ∨ cc = 1 ∨ cc = 2 ∨ cc = 3 ∨ cc = 4 := by omega
                            rcases hc5 with rfl | rfl | rfl | rfl | rfl
                            · have a0 := HO.out.isX.rx.at0
                              have cC := cell_of_heap HBc.out 0
                              simp only [List.getElem?_toArray, List.getElem?_cons_zero, List.getElem?_cons_succ] at cC
                              have hix := idx4_0 (.int .i64 (p0 : Int)) (.int .i64 (p1 : Int)) (.int .i64 (p2 : Int)) (.int .i64 (p3 : Int))
                              have Hfr : Box (∀ m, Calls Try.prog 36 #[.pointer (some ⟨hb, 0, none⟩), .int .i64 0] (wr.drewN m) fun e w' => e = .returned (.int .i64 (f0 : Nat)) ∧ w' = wr.drewN m) := ⟨fun m => by
                                have hfr := free_is (c := 0) (HO.out.isX.th.keeps0 ((Keeps.refl (fun _ => False) wr).drewN m)) (by omega)
                                rw [Hf.out.1] at hfr
                                exact hfr⟩
                              have hd1 : (n0 : Int) - (p0 : Int) = (f0 : Int) := by have := Hs.out; omega
                              have hd2 : IntKind.i64.wrap (f0 : Int) = (f0 : Int) := IntWalk.i64_in _ (by have := Hs.out; omega)
                              clear hcc
                              go_wp2_with fail
                              go_quiet ((go_at_call 36; exact Calls.quiet_of_same (Hfr.out _)))
                              have kq := (Keeps.refl (fun _ => False) wr).drewN nq
                              have HO2 := Box.mk (HO.out.step0 kq)
                              have HB3 := Box.mk (kq.heap HBc.out (fun h => h))
                              clear kq HO HBc cC Hfr a0 hix hd1 hd2
                              go_wp2_with fail
                              go_roundw
                              case rel => exact ⟨1, by omega, by go_num, HO2, HB3⟩
                              case measure => simp [intOf]
                            · have a0 := HO.out.isX.rx.at0
                              have cC := cell_of_heap HBc.out 1
                              simp only [List.getElem?_toArray, List.getElem?_cons_zero, List.getElem?_cons_succ] at cC
                              have hix := idx4_1 (.int .i64 (p0 : Int)) (.int .i64 (p1 : Int)) (.int .i64 (p2 : Int)) (.int .i64 (p3 : Int))
                              have Hfr : Box (∀ m, Calls Try.prog 36 #[.pointer (some ⟨hb, 0, none⟩), .int .i64 1] (wr.drewN m) fun e w' => e = .returned (.int .i64 (f1 : Nat)) ∧ w' = wr.drewN m) := ⟨fun m => by
                                have hfr := free_is (c := 1) (HO.out.isX.th.keeps0 ((Keeps.refl (fun _ => False) wr).drewN m)) (by omega)
                                rw [Hf.out.2.1] at hfr
                                exact hfr⟩
                              have hd1 : (n1 : Int) - (p1 : Int) = (f1 : Int) := by have := Hs.out; omega
                              have hd2 : IntKind.i64.wrap (f1 : Int) = (f1 : Int) := IntWalk.i64_in _ (by have := Hs.out; omega)
                              clear hcc
                              go_wp2_with fail
                              go_quiet ((go_at_call 36; exact Calls.quiet_of_same (Hfr.out _)))
                              have kq := (Keeps.refl (fun _ => False) wr).drewN nq
                              have HO2 := Box.mk (HO.out.step0 kq)
                              have HB3 := Box.mk (kq.heap HBc.out (fun h => h))
                              clear kq HO HBc cC Hfr a0 hix hd1 hd2
                              go_wp2_with fail
                              go_roundw
                              case rel => exact ⟨2, by omega, by go_num, HO2, HB3⟩
                              case measure => simp [intOf]
                            · have a0 := HO.out.isX.rx.at0
                              have cC := cell_of_heap HBc.out 2
                              simp only [List.getElem?_toArray, List.getElem?_cons_zero, List.getElem?_cons_succ] at cC
                              have hix := idx4_2 (.int .i64 (p0 : Int)) (.int .i64 (p1 : Int)) (.int .i64 (p2 : Int)) (.int .i64 (p3 : Int))
                              have Hfr : Box (∀ m, Calls Try.prog 36 #[.pointer (some ⟨hb, 0, none⟩), .int .i64 2] (wr.drewN m) fun e w' => e = .returned (.int .i64 (f2 : Nat)) ∧ w' = wr.drewN m) := ⟨fun m => by
                                have hfr := free_is (c := 2) (HO.out.isX.th.keeps0 ((Keeps.refl (fun _ => False) wr).drewN m)) (by omega)
                                rw [Hf.out.2.2.1] at hfr
                                exact hfr⟩
                              have hd1 : (n2 : Int) - (p2 : Int) = (f2 : Int) := by have := Hs.out; omega
                              have hd2 : IntKind.i64.wrap (f2 : Int) = (f2 : Int) := IntWalk.i64_in _ (by have := Hs.out; omega)
                              clear hcc
                              go_wp2_with fail
                              go_quiet ((go_at_call 36; exact Calls.quiet_of_same (Hfr.out _)))
                              have kq := (Keeps.refl (fun _ => False) wr).drewN nq
                              have HO2 := Box.mk (HO.out.step0 kq)
                              have HB3 := Box.mk (kq.heap HBc.out (fun h => h))
                              clear kq HO HBc cC Hfr a0 hix hd1 hd2
                              go_wp2_with fail
                              go_roundw
                              case rel => exact ⟨3, by omega, by go_num, HO2, HB3⟩
                              case measure => simp [intOf]
                            · have a0 := HO.out.isX.rx.at0
                              have cC := cell_of_heap HBc.out 3
                              simp only [List.getElem?_toArray, List.getElem?_cons_zero, List.getElem?_cons_succ] at cC
                              have hix := idx4_3 (.int .i64 (p0 : Int)) (.int .i64 (p1 : Int)) (.int .i64 (p2 : Int)) (.int .i64 (p3 : Int))
                              have Hfr : Box (∀ m, Calls Try.prog 36 #[.pointer (some ⟨hb, 0, none⟩), .int .i64 3] (wr.drewN m) fun e w' => e = .returned (.int .i64 (f3 : Nat)) ∧ w' = wr.drewN m) := ⟨fun m => by
                                have hfr := free_is (c := 3) (HO.out.isX.th.keeps0 ((Keeps.refl (fun _ => False) wr).drewN m)) (by omega)
                                rw [Hf.out.2.2.2] at hfr
                                exact hfr⟩
                              have hd1 : (n3 : Int) - (p3 : Int) = (f3 : Int) := by have := Hs.out; omega
                              have hd2 : IntKind.i64.wrap (f3 : Int) = (f3 : Int) := IntWalk.i64_in _ (by have := Hs.out; omega)
                              clear hcc
                              go_wp2_with fail
                              go_quiet ((go_at_call 36; exact Calls.quiet_of_same (Hfr.out _)))
                              have kq := (Keeps.refl (fun _ => False) wr).drewN nq
                              have HO2 := Box.mk (HO.out.step0 kq)
                              have HB3 := Box.mk (kq.heap HBc.out (fun h => h))
                              clear kq HO HBc cC Hfr a0 hix hd1 hd2
                              go_wp2_with fail
                              go_roundw
                              case rel => exact ⟨4, by omega, by go_num, HO2, HB3⟩
                              case measure => simp [intOf]
                            · have c18 := HO.out.isX.rx.at18
                              clear hcc
                              go_wp2_with fail
                              refine (sees_is HO.out.isX HI.out.fit (fun t ht => by have := HI.out.forms t ht; omega) (by have := HO.out.isX.rx.lens.1; have h7 : P.G.all.length ≤ 700 := (by rw [HGs.out]; exact HG0.out.1); omega)).mono ?_
                              intro e w12 h12
                              obtain ⟨rfl, hO12⟩ := HO.out.seen h12
                              have HO12 := Box.mk hO12
                              clear h12 hO12 c18
                              go_wp2_with fail
                              go_ret
                              exact ⟨rfl, Hend.out _ HO12.out.keeps⟩

theorem TreadFlip_walk (c f sc : Value) (w : World) (hc : Reads Try.prog w 47 c) (hf : Reads Try.prog w 48 f) (hs : Reads Try.prog w 48 sc) :
    Calls Try.prog 8 #[c, f, sc] w fun e w' => e = .returned (.bool true) ∧ Below w.heap.size w w' := by
  obtain ⟨c0, c1, c2, c3, k, rfl⟩ := conf_of_reads hc
  obtain ⟨a1, l1, cp1, ops1, rfl, hl1, ho1⟩ := ops5_of_reads hf
  obtain ⟨a2, l2, cp2, ops2, rfl, hl2, ho2⟩ := ops5_of_reads hs
  by_cases h : l1 ≤ 300 ∧ l2 ≤ 300
  · exact TreadFlip_main h.1 h.2 ho1 ho2
  · exact TreadFlip_early (by omega)

end Go.Proofs.Ytbjlapfcnldpoaa

