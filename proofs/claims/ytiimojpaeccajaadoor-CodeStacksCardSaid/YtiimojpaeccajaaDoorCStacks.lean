/- CodeStacks's walk: the stacks are the document's. -/
import Derived.Test.YtiimojpaeccajaaDoorRqS
namespace Go.Proofs.YtiimojpaeccajaaDoor
set_option linter.unusedVariables false
set_option linter.unusedSimpArgs false
open Go.RowKit Go.Proofs.YtiimojpaeccajaaDoorW.PrintWords Go.Proofs.YtiimojpaeccajaaDoorW.PrintLast Go.Proofs.YtiimojpaeccajaaDoorW.PrintMore

def rowV (o : Option (List Int)) (r : Nat × Nat) : Value := match o with
  | none => .slice none 0 0
  | some s => .slice (some ⟨r.1, 0, none⟩) s.length r.2
theorem rowV_form (o : Option (List Int)) (r : Nat × Nat) : ∃ A m c, rowV o r = .slice A m c := by
  cases o with
  | none => exact ⟨none, 0, 0, rfl⟩
  | some s => exact ⟨_, _, _, rfl⟩
theorem same_opt {W : World} {sb sb2 n : Nat} {S : Nat → Option (List Int)} {R R2 : Nat → Nat × Nat} (h1 : StOut W sb n S R) (h2 : StOut W sb2 n S R2) (i : Nat) (hl : ∀ s, S i = some s → s.length ≤ 100000) :
    Calls Tryd.prog 12 #[rowV (S i) (R i), rowV (S i) (R2 i)] W fun e w' => e = .returned (.bool true) ∧ Below W.heap.size W w' := by
  cases hS : S i with
  | none =>
    obtain ⟨k, hk⟩ := same16 [] [] (by decide)
    have hC : Kd.C (Kd.int .i64) W none ([] : List Int).length [] := ⟨rfl, by decide, fun h => absurd h (Nat.lt_irrefl 0)⟩
    refine (PCodeStacks.spindleref16_Same.calls k none 0 [] none 0 [] _ W hC (Nat.le_refl _) hC (Nat.le_refl _) hk).mono ?_
    rintro e w' ⟨rfl, h⟩
    exact ⟨rfl, h.below⟩
  | some s =>
    refine (same_is s s (hl s hS) (hl s hS) (h1.row i s hS).2 (h2.row i s hS).2 (h1.row i s hS).1 (h2.row i s hS).1).mono ?_
    rintro e w' ⟨rfl, k⟩
    exact ⟨by rw [decide_eq_true rfl], k⟩

set_option maxHeartbeats 4000000 in
set_option maxRecDepth 100000 in
theorem cstacks_is (l : List Ins) (A : Option Addr) (c : Nat) (w : World) (hC : Kd.C insK w A l.length l) (hc : l.length ≤ c) (hb : l.length ≤ 9223372036854775807) :
    Calls Tryd.prog 3 #[.slice A l.length c] w fun e w' => e = .returned (.bool true) ∧ Below w.heap.size w w' := by
  have HA := Box.mk (awake16 w)
  have HC := Box.mk hC
  go_enter Tryd.func3, Tryd.ntmps3
  go_wp2_with fail
  refine HA.out.mono ?_
  rintro e w1 ⟨rfl, k1⟩
  have K1 := Box.mk k1
  have HC1 := Box.mk (Kd.C_below HC.out k1)
  obtain ⟨b, hsm, hS⟩ := small_is l HC1.out hc
  have HS := Box.mk hS
  have HSm := Box.mk hsm
  clear HA k1 hS hsm
  go_wp2_with fail
  refine HS.out.mono ?_
  rintro e w2 ⟨rfl, k2⟩
  have K2 : Box (Below w.heap.size w w2) := ⟨K1.out.trans (Below.mono k2 K1.out.size)⟩
  have HC2 := Box.mk (Kd.C_below HC1.out k2)
  clear k2 HS HC1 K1
  cases b with
  | false =>
    have HA := Box.mk (awake16 w2)
    go_wp2_with fail
    refine HA.out.mono ?_
    rintro e w3 ⟨rfl, k3⟩
    have K3 : Box (Below w.heap.size w w3) := ⟨K2.out.trans (Below.mono k3 K2.out.size)⟩
    clear HA k3
    go_wp2_with fail
    go_ret
    exact ⟨rfl, K3.out⟩
  | true =>
    obtain ⟨hl4, hsm⟩ := HSm.out rfl
    clear HSm
    have HSm := Box.mk hsm
    have HO := Box.mk (own_is l HC2.out hc (by omega) (fun j hj => by have := (hsm j hj).1; omega))
    clear hsm
    go_wp2_with fail
    refine HO.out.mono ?_
    rintro e w3 ⟨A', c', rfl, hC3, hc3, k3⟩
    have K3 : Box (Below w.heap.size w w3) := ⟨K2.out.trans (Below.mono k3 K2.out.size)⟩
    have HC3 := Box.mk hC3
    have HCx := Box.mk (Kd.C_below HC2.out k3)
    have HT := Box.mk (stacks_is l A' c' w3 hC3 hc3 (fun j hj => by have := (HSm.out j hj).1; omega) hb)
    clear k3 hC3 HO K2 HC2
    go_wp2_with fail
    refine HT.out.mono ?_
    rintro e w4 H4
    have K4 : Box (Below w.heap.size w w4) := ⟨K3.out.trans (Below.mono H4.keeps K3.out.size)⟩
    have HC4 := Box.mk (Kd.C_below HCx.out H4.keeps)
    have HT5 := Box.mk (stacks16_is l A c w4 HC4.out hc (fun j hj => by have := (HSm.out j hj).1; omega) (by omega))
    by_cases hgo : chkB l = true ∧ StW (sL l)
    · obtain ⟨B, kb, sb, lv, S, R, td, tv, rfl, hM, hBz, hSO, hSt⟩ := H4.ok hgo.1 hgo.2
      have HM := Box.mk hM.out
      have HR := Box.mk hSt
      have HG := Box.mk hgo
      clear H4 hM hBz hSO hSt hgo HT K3 HC3 HCx
      go_wp2_with fail
      refine HT5.out.mono ?_
      rintro e w5 H5
      obtain ⟨sb2, S2, R2, rfl, hM2, hSt2⟩ := H5.ok HG.out.1 HG.out.2
      have hSS : S2 = S := by
        funext i
        apply Option.ext
        intro s
        rw [hSt2 i s, HR.out i s]
      subst hSS
      have K5 : Box (Below w.heap.size w w5) := ⟨K4.out.trans (Below.mono H5.keeps K4.out.size)⟩
      have HM5 := Box.mk (HM.out.below H5.keeps)
      have HM6 := Box.mk hM2
      have HL : Box (∀ i s, S2 i = some s → s.length ≤ 100000) := ⟨fun i s h => by have := (HG.out.2 i s ((HR.out i s).1 h)).2.1; omega⟩
      clear H5 hM2 hSt2 K4 HC4 HM HR HG HT5
      obtain ⟨n, hn⟩ : ∃ n, l.length = n := ⟨_, rfl⟩
      rw [hn] at hl4 hb hc hc3 HM5 HM6 ⊢
      clear hn
      go_wp2_with fail
      go_loopw [48] (fun i wr => ∃ (j : Nat), j ≤ n ∧ i = .int .i64 j ∧ Box (Below w5.heap.size w5 wr)) (fun i _ => n - (intOf i).toNat)
      case atStart => exact ⟨0, Nat.zero_le _, rfl, ⟨Below.refl _ _⟩⟩
      case round =>
        obtain ⟨j, hj, rfl, K⟩ := hrel
        by_cases hjn : j < n
        · have hj0 : (0 : Int) ≤ (j : Int) := by omega
          have g1 : wr.cell? ⟨sb, j, none⟩ = some (rowV (S2 j) (R j)) := (HM5.out.below K.out).slot j hjn
          have g2 : wr.cell? ⟨sb2, j, none⟩ = some (rowV (S2 j) (R2 j)) := (HM6.out.below K.out).slot j hjn
          have HSa := Box.mk (fun (W : World) (k : Below wr.heap.size wr W) => same_opt (W := W) ((HM5.out.below K.out).below k) ((HM6.out.below K.out).below k) j (HL.out j))
          obtain ⟨A1, m1, d1, e1⟩ := rowV_form (S2 j) (R j)
          obtain ⟨A2, m2, d2, e2⟩ := rowV_form (S2 j) (R2 j)
          rw [e1] at g1 HSa
          rw [e2] at g2 HSa
          clear e1 e2
          have hjl : (j : Int) < (n : Int) := by omega
          go_wp2_with fail
          go_region_held3 (fun w' => w'.cell? ⟨sb, j, none⟩ = some (.slice A1 m1 d1) ∧ w'.cell? ⟨sb2, j, none⟩ = some (.slice A2 m2 d2)) (first | exact ⟨g1, g2⟩ | exact ⟨cell_below g1 kj, cell_below g2 kj⟩ | go_keep) (first | (go_at_call 12; refine (HSa.out wr.drew ((Below.refl _ wr).drew)).mono ?_; rintro e w6 ⟨rfl, kj0⟩; have kj : Below wr.heap.size wr w6 := ((Below.refl _ wr).drew).trans kj0))
          have K6 : Box (Below w5.heap.size w5 w6) := ⟨K.out.trans (Below.mono kj K.out.size)⟩
          clear kj0 kj HSa g1 g2
          go_wp2_with fail
          go_roundw
          case rel => exact ⟨j + 1, by omega, by go_num, K6⟩
          case measure => simp [intOf]; omega
        · have hjn2 : j = n := by omega
          go_wp2_with fail
          go_ret
          exact ⟨rfl, K5.out.trans (Below.mono K.out K5.out.size)⟩
    · have he := H4.no hgo
      subst he
      have Hgo := Box.mk hgo
      clear H4 HT K3 HC3 HCx hgo
      go_wp2_with fail
      refine HT5.out.mono ?_
      rintro e w5 H5
      have he5 := H5.no Hgo.out
      subst he5
      have K5 : Box (Below w.heap.size w w5) := ⟨K4.out.trans (Below.mono H5.keeps K4.out.size)⟩
      clear H5 HT5 K4 HC4 Hgo
      have HIs := fun (W : World) => is_kind 19 19 W
      rw [show ((19 : Int) == 19) = true from rfl] at HIs
      have HIs := Box.mk HIs
      go_wp2_with fail
      refine (HIs.out _).mono ?_
      rintro e w9 ⟨rfl, rfl⟩
      go_wp2_with fail
      go_ret
      exact ⟨rfl, K5.out⟩

theorem CodeStacks_walk (v : Value) (w : World) (h : Reads Tryd.prog w 22 v) : Calls Tryd.prog 3 #[v] w fun e w' => e = .returned (.bool true) ∧ Below w.heap.size w w' := by
  obtain ⟨A, l, c, rfl, hc, hb, hC⟩ := code_reads h
  exact cstacks_is l A c w hC hc hb

end Go.Proofs.YtiimojpaeccajaaDoor
