/- code.Stacks by its contract. -/
import Derived.Test.YtiimojpaeccajaaGreatDoorStkM
import Derived.Laws.MakeOwn
namespace Go.Proofs.YtiimojpaeccajaaGreatDoor
set_option linter.unusedVariables false
set_option linter.unusedSimpArgs false
open Go.RowKit Go.Proofs.YtiimojpaeccajaaGreatDoorW.PrintWords Go.Proofs.YtiimojpaeccajaaGreatDoorW.PrintLast Go.Proofs.YtiimojpaeccajaaGreatDoorW.PrintMore

section
variable {w : World} {B kb sb n : Nat} {lb lo c : Nat} {S : Nat → Option (List Int)} {R : Nat → Nat × Nat} {td : List Nat} {tv : Value} {bad : Bool}
theorem from_is (hM : LkM 86 w B kb sb (.slice (some ⟨lb, lo, none⟩) n c) n S R td tv bad) (hn : n ≤ 8000) (hB : B ≤ w.heap.size) (htd : td.length ≤ 90000) (hS : SOk n S) {i : Nat} {s : List Int} (hs : S i = some s) (hnc : n ≤ c)
    {x : Ins} (hI : IsI w lb (lo + i * 8) x) (hlB : lb < B) (hx : insB n x = true) :
    Calls Tryz.prog 55 #[.pointer (some ⟨kb, 0, none⟩), .int .i64 i] w fun e w' => e = .returned (.tuple #[]) ∧
      LkGot 86 B kb sb (.slice (some ⟨lb, lo, none⟩) n c) n S R ((stNext (sIns x) i s).foldl (stCome n) ⟨S, td, bad || !stOk (sIns x) s⟩) w w' := by
  by_cases k1 : x.f0 = 1
  · exact from_on1 hM hn hB htd hS hs hnc hI hlB hx k1
  by_cases k2 : x.f0 = 2
  · exact from_on2 hM hn hB htd hS hs hnc hI hlB hx k2
  by_cases k3 : x.f0 = 3
  · exact from_on3 hM hn hB htd hS hs hnc hI hlB hx k3
  by_cases k4 : x.f0 = 4
  · exact from_on4 hM hn hB htd hS hs hnc hI hlB hx k4
  by_cases k5 : x.f0 = 5
  · exact from_on5 hM hn hB htd hS hs hnc hI hlB hx k5
  by_cases k6 : x.f0 = 6
  · exact from_on6 hM hn hB htd hS hs hnc hI hlB hx k6
  by_cases k7 : x.f0 = 7
  · exact from_unless hM hn hB htd hS hs hnc hI hlB hx k7
  by_cases k8 : x.f0 = 8
  · exact from_jump hM hn hB htd hS hs hnc hI hlB hx k8
  by_cases k9 : x.f0 = 9
  · exact from_closure hM hn hB htd hS hs hnc hI hlB hx k9
  by_cases k10 : x.f0 = 10
  · exact from_frame hM hn hB htd hS hs hnc hI hlB hx k10
  by_cases k11 : x.f0 = 11
  · exact from_push hM hn hB htd hS hs hnc hI hlB hx k11
  by_cases k12 : x.f0 = 12
  · exact from_call hM hn hB htd hS hs hnc hI hlB hx k12
  by_cases k13 : x.f0 = 13
  · exact from_tail hM hn hB htd hS hs hnc hI hlB hx k13
  by_cases k14 : x.f0 = 14
  · exact from_ret hM hn hB htd hS hs hnc hI hlB hx k14
  exfalso
  unfold insB at hx
  simp [k1, k2, k3, k4, k5, k6, k7, k8, k9, k10, k11, k12, k13, k14] at hx
end

def sL (l : List Ins) : List SIns := l.map sIns
theorem sL_length (l : List Ins) : (sL l).length = l.length := by simp [sL]
theorem sL_get (l : List Ins) {i : Nat} (hi : i < l.length) : (sL l)[i]? = some (sIns (l.getD i insZ)) := by
  rw [sL, List.getElem?_map, List.getElem?_eq_getElem hi]
  simp [List.getD, List.getElem?_eq_getElem hi]
/-- What Stacks hands back. -/
structure StSaid (l : List Ins) (w : World) (e : Ending) (w' : World) : Prop where
  no : ¬ (chkB l = true ∧ StW (sL l)) → e = .returned (.tuple #[.slice none 0 0, .iface 34 (.int .i64 19)])
  ok : chkB l = true → StW (sL l) → ∃ B kb sb lv S R td tv, e = .returned (.tuple #[.slice (some ⟨sb, 0, none⟩) l.length l.length, .nilIface]) ∧ LkM 86 w' B kb sb lv l.length S R td tv false ∧ w.heap.size ≤ B ∧ SOk l.length S ∧ ∀ i s, S i = some s ↔ StR (sL l) i s
  keeps : Below w.heap.size w w'

theorem infoRows : (Tryz.prog.info? 31).map (fun i => (i.zero, i.size, i.bytes)) = some (some (.slice none 0 0), 1, 24) := by kernel_rfl
theorem made_nil (n i : Nat) (h : i < n) : (madeCells #[Value.slice none 0 0] n)[i]? = some (.slice none 0 0) := by
  simp [madeCells, h, Nat.mod_one]

set_option maxHeartbeats 2000000 in
set_option maxRecDepth 100000 in
theorem stacks_is (l : List Ins) (A : Option Addr) (c : Nat) (w : World) (hC : Kd.C insK w A l.length l) (hc : l.length ≤ c) (hs : ∀ k, k < l.length → dsz (l.getD k insZ).f4 ≤ 4000) (hb : l.length ≤ 9223372036854775807) :
    Calls Tryz.prog 22 #[.slice A l.length c] w fun e w' => StSaid l w e w' := by
  have HCk := check_is l A c w hC hc hs hb
  obtain ⟨n, hn⟩ : ∃ n, l.length = n := ⟨_, rfl⟩
  cases hchk : chkB l with
  | false =>
    have HN : Box (∀ (e : Ending) (w' : World), e = .returned (.tuple #[.slice none 0 0, .iface 34 (.int .i64 19)]) → Below w.heap.size w w' → StSaid l w e w') := ⟨fun e w' he k => ⟨fun _ => he, fun h => (by rw [hchk] at h; cases h), k⟩⟩
    rw [hchk, if_neg (by decide)] at HCk
    have HCk := Box.mk HCk
    rw [hn] at HCk ⊢
    clear hC hs hchk
    have hneq : ∀ W : World, (binOp .neq 26 (.iface 34 (.int .i64 19)) .nilIface).run Tryz.prog W = .ok (.bool true) W := fun W => by kernel_rfl
    go_enter Tryz.func22, Tryz.ntmps22
    go_wp2_with fail
    refine HCk.out.mono ?_
    rintro e w1 ⟨rfl, k1⟩
    have K1 := Box.mk k1
    clear k1 HCk
    unfold errV
    simp only [show ((19 : Int) = 0) = False from by decide, if_false]
    go_wp2_with fail
    go_ret2
    exact HN.out _ _ rfl K1.out
  | true =>
    rw [hchk, if_pos rfl] at HCk
    have hlen : 1 ≤ n ∧ n ≤ 8000 := by
      have h2 := hchk
      unfold chkB at h2
      simp [hn] at h2
      omega
    have hall : ∀ k, k < n → insB n (l.getD k insZ) = true := by
      have h2 := hchk
      unfold chkB at h2
      simp only [Bool.and_eq_true] at h2
      have := (all_getDI _ _).1 h2.2
      rw [hn] at this
      exact this
    obtain ⟨hn1, hn2⟩ := hlen
    obtain ⟨lb, lo, hA, hlb, -⟩ := isI_elem hC (i := 0) (by omega)
    subst hA
    have HI : Box (∀ k, k < n → IsI w lb (lo + k * 8) (l.getD k insZ)) := ⟨fun k hk => by
      obtain ⟨b', o', he, _, hI⟩ := isI_elem hC (i := k) (by omega)
      simp only [Option.some.injEq, Addr.mk.injEq, and_true] at he
      obtain ⟨rfl, rfl⟩ := he
      exact hI⟩
    have Hall := Box.mk hall
    have Hchk := Box.mk hchk
    have Hn := Box.mk hn
    have HSL : Box ((sL l).length = n) := ⟨by rw [sL_length, hn]⟩
    have HCk := Box.mk HCk
    have HNo : Box (∀ (e : Ending) (w' : World), ¬ StW (sL l) → e = .returned (.tuple #[.slice none 0 0, .iface 34 (.int .i64 19)]) → Below w.heap.size w w' → StSaid l w e w') := ⟨fun e w' hw he k => ⟨fun _ => he, fun _ h => absurd h hw, k⟩⟩
    rw [hn] at HCk hc ⊢
    clear hC hs hchk hall hn hb
    go_enter Tryz.func22, Tryz.ntmps22
    go_wp2_with fail
    refine HCk.out.mono ?_
    rintro e w1 ⟨rfl, k1⟩
    have K1 := Box.mk k1
    clear HCk
    unfold errV
    simp only [if_true]
    obtain ⟨i0, hi0, hz0, hz1, hz2⟩ := info_parts infoRows
    obtain ⟨mc, hmc⟩ : ∃ mc, madeCells #[Value.slice none 0 0] n = mc := ⟨_, rfl⟩
    have hmk : ∀ W : World, (Instr.makeSlice 38 (.int .i64 n) (.int .i64 n)).run Tryz.prog W = .ok (.slice (some ⟨W.heap.size, 0, none⟩) n n) (W.alloc (.cells mc 31)) := fun W => by
      have := run_makeSlice (P := Tryz.prog) W 38 31 i0 (.slice none 0 0) Tryz.underlying38 hi0 hz0 .i64 .i64 (n : Int) (n : Int) (by omega) (Int.le_refl _) (by rw [hz1]; omega) (by rw [hz2]; omega) (by omega)
      rw [hz1] at this
      simp only [Int.toNat_natCast, Nat.mul_one, Value.cells] at this
      rw [← hmc]; exact this
    have Hmc : Box (mc.size = n ∧ ∀ i, i < n → mc[i]? = some (.slice none 0 0)) := ⟨by rw [← hmc]; exact ⟨size_madeCells _ _, fun i hi => made_nil n i hi⟩⟩
    clear hmc hi0 hz0 hz1 hz2 k1
    go_wp2_with fail
    have hM2 : LkM 86 ((w1.alloc (.cells mc 31)).alloc (.cells #[.slice (some ⟨lb, lo, none⟩) n c, .slice (some ⟨w1.heap.size, 0, none⟩) n n, .slice none 0 0, .bool false] 86)) w1.heap.size (w1.heap.size + 1) w1.heap.size (.slice (some ⟨lb, lo, none⟩) n c) n (fun _ => none) (fun _ => (0, 0)) [] (.slice none 0 0) false := by
      refine ⟨?_, ⟨mc, ?_, Hmc.out.1, fun i hi => Hmc.out.2 i hi⟩, (fun i s h => by cases h), World.ownsRow_nil _ _ _ _, by omega, Nat.le_refl _⟩
      · have := heap_alloc_new (w1.alloc (.cells mc 31)) (.cells #[.slice (some ⟨lb, lo, none⟩) n c, .slice (some ⟨w1.heap.size, 0, none⟩) n n, .slice none 0 0, .bool false] 86)
        simpa using this
      · rw [Lib.alloc_old _ _ _ (by simp)]
        exact heap_alloc_new w1 _
    obtain ⟨W2, hW2⟩ : ∃ W2, ((w1.alloc (.cells mc 31)).alloc (.cells #[.slice (some ⟨lb, lo, none⟩) n c, .slice (some ⟨w1.heap.size, 0, none⟩) n n, .slice none 0 0, .bool false] 86)) = W2 := ⟨_, rfl⟩
    have hz2 : W2.heap.size = w1.heap.size + 1 + 1 := by rw [← hW2]; simp
    have hk2 : Below w1.heap.size w1 W2 := by rw [← hW2]; exact ((Below.refl _ w1).alloc (Nat.le_refl _) _).alloc (by simp) _
    rw [hW2] at hM2 ⊢
    have hA : Below W2.heap.size W2 (W2.alloc (.cells #[.int .i64 0] 3)) := (Below.refl _ W2).alloc (Nat.le_refl _) _
    have hlit : ownI (W2.alloc (.cells #[.int .i64 0] 3)) 0 (w1.heap.size + 1 + 1) 1 [0] := by
      have := World.ownsRow_lit (base := 0) (e := 3) (size := 1) W2 #[.int .i64 0] 1 (Nat.zero_le _) (by decide) rfl
      rw [hz2] at this
      exact this
    have HC := come_is (hM2.below hA) hn2 0 (by omega) hlit (by simp) (by simp) (Nat.le_trans hk2.size hA.size) (by simp) (fun i s h => by cases h)
    rw [show ((0 : Nat) : Int) = 0 from rfl] at HC
    have HC := Box.mk HC
    have HKA : Box (Below w1.heap.size w1 (W2.alloc (.cells #[.int .i64 0] 3))) := ⟨hk2.trans (Below.mono hA hk2.size)⟩
    clear hM2 hW2 hz2 hk2 hA hlit
    refine HC.out.mono ?_
    rintro e w3 ⟨rfl, G⟩
    obtain ⟨⟨R3, tv3, hM3, -⟩, k3, z3⟩ := G
    have HM3 := Box.mk hM3
    have K3 : Box (Below w1.heap.size w1 w3) := ⟨HKA.out.trans k3⟩
    have HI3 : Box (StI (sL l) (stCome n ⟨fun _ => none, [], false⟩ (0, [0]))) := ⟨by
      have := stI_start (l := sL l) (by rw [HSL.out]; omega)
      rw [HSL.out] at this; exact this⟩
    have HO3 : Box (SOk n (stCome n ⟨fun _ => none, [], false⟩ (0, [0])).S) := ⟨SOk.come (k := ⟨fun _ => none, [], false⟩) (fun i s h => by cases h) ⟨by simp, by show (0 : Int) ≤ stop [0]; decide⟩⟩
    have HL3 : Box (leftC n (stCome n ⟨fun _ => none, [], false⟩ (0, [0])) ≤ 2 * n) := ⟨Nat.le_trans (leftC_come _ _ _) (by have := noneC_le n (fun _ => none); show 2 * noneC n (fun _ => none) + 0 ≤ 2 * n; omega)⟩
    clear hM3 k3 z3 HC HKA
    go_wp2_with fail
    go_loopw [] (fun wr => ∃ (k : StK) (R : Nat → Nat × Nat) (tv : Value), Box (LkM 86 wr w1.heap.size (w1.heap.size + 1) w1.heap.size (.slice (some ⟨lb, lo, none⟩) n c) n k.S R k.todo tv k.bad) ∧ Box (StI (sL l) k) ∧ Box (SOk n k.S) ∧ Box (Below w1.heap.size w1 wr) ∧ Box (leftC n k ≤ 2 * n)) (fun wr => 2 * nilCells wr w1.heap.size + todoLen wr (w1.heap.size + 1))
    case atStart => exact ⟨_, R3, tv3, HM3, HI3, HO3, K3, HL3⟩
    case round =>
      clear HM3 HI3 HO3 K3 HL3
      obtain ⟨k, R, tv, HM, HT, HO, K, HL⟩ := hrel
      have hleft := HM.out.left
      obtain ⟨M, hM⟩ : ∃ M, 2 * nilCells wr w1.heap.size + todoLen wr (w1.heap.size + 1) = M := ⟨_, rfl⟩
      have HMM : Box (leftC n k = M) := ⟨by rw [← hM]; exact hleft.symm⟩
      rw [hM]
      clear hleft hM
      have KK : Box (∀ w', Below w1.heap.size w1 w' → Below w.heap.size w w') := ⟨fun w' h => K1.out.trans (Below.mono h K1.out.size)⟩
      obtain ⟨S, todo, bad⟩ := k
      have c1 := HM.out.at0.2.1
      have c2 := HM.out.at0.2.2.1
      have c3 := HM.out.at0.2.2.2
      have f2 := HM.out.frz 2
      simp only at c1 c2 c3
      have hbadEnd : Box (bad = true → ∀ e, e = .returned (.tuple #[.slice none 0 0, .iface 34 (.int .i64 19)]) → StSaid l w e wr) := ⟨fun hb e he => HNo.out e wr (HT.out.bad hb) he (KK.out _ K.out)⟩
      rcases List.eq_nil_or_concat todo with rfl | ⟨td0, q, hcon⟩
      · obtain ⟨tl, tc, htv⟩ : ∃ ta tc, tv = .slice ta 0 tc := by
          rcases HM.out.todo.2 with ⟨h1, h2⟩ | ⟨g, cap, cur, hv, _⟩
          · exact ⟨none, 0, h1⟩
          · exact ⟨_, _, hv⟩
        have hend : Box (bad = false → StSaid l w (.returned (.tuple #[.slice (some ⟨w1.heap.size, 0, none⟩) n n, .nilIface])) wr) := ⟨fun hb => by
          have h2 := HT.out.ends (fun i s h => by
            have := HO.out i s h
            rw [HSL.out]
            exact ⟨this.1, this.2.2.1, this.2.2.2.2⟩) hb rfl
          refine ⟨fun h => absurd ⟨Hchk.out, h2.1⟩ h, fun _ _ => ⟨w1.heap.size, w1.heap.size + 1, w1.heap.size, .slice (some ⟨lb, lo, none⟩) n c, S, R, [], tv, by rw [Hn.out], ?_, K1.out.size, by rw [Hn.out]; exact HO.out, h2.2⟩, KK.out _ K.out⟩
          rw [Hn.out]
          have := HM.out
          simp only at this hb
          rw [hb] at this
          exact this⟩
        rw [htv] at c2
        clear HM HT HO K HL HMM
        cases bad with
        | true =>
          go_wp2_with fail
          go_ret2
          exact hbadEnd.out (by trivial) _ rfl
        | false =>
          go_wp2_with fail
          go_ret2
          exact hend.out (by trivial)
      · rw [List.concat_eq_append] at hcon
        subst hcon
        cases bad with
        | true =>
          obtain ⟨g, cap, htv, -⟩ : ∃ g cap, tv = .slice (some ⟨g, 0, none⟩) (td0.length + 1) cap ∧ w1.heap.size ≤ g := by
            have := HM.out.todo
            simp only [List.length_append, List.length_singleton] at this
            exact own_form this
          rw [htv] at c2
          obtain ⟨m, hm⟩ : ∃ m, td0.length = m := ⟨_, rfl⟩
          rw [hm] at c2
          clear HM HT HO K HL HMM hm
          go_wp2_with fail
          go_ret2
          exact hbadEnd.out (by trivial) _ rfl
        | false =>
          obtain ⟨g, cap, htv, hgB⟩ : ∃ g cap, tv = .slice (some ⟨g, 0, none⟩) (td0.length + 1) cap ∧ w1.heap.size ≤ g := by
            have := HM.out.todo
            simp only [List.length_append, List.length_singleton] at this
            exact own_form this
          have hM' := HM.out
          simp only at hM'
          have hpop := hM'.pop lkT_code htv
          have hrow := hM'.todo
          rw [htv] at c2 hrow
          have hqn : q < n ∧ ∃ s, S q = some s := by
            have h1 := HT.out.td q (by simp)
            obtain ⟨s, hs⟩ := Option.ne_none_iff_exists'.1 h1
            exact ⟨(HO.out q s hs).1, s, hs⟩
          obtain ⟨hqn, s, hs⟩ := hqn
          have hcq := World.ownsRow.cellAt (n := td0.length + 1) (by simpa using hrow) td0.length (by omega)
          have hcq2 : wr.cell? ⟨g, td0.length, none⟩ = some (.int .i64 (q : Int)) := by rw [hcq]; simp [rowN]
          have htdl : td0.length ≤ 90000 := by
            have := HL.out
            unfold leftC at this
            simp at this
            omega
          have hcapl : td0.length + 1 ≤ cap := by
            rcases hrow.2 with ⟨h1, _⟩ | ⟨g', cap', cur, hv, _, _, h2, _⟩
            · cases h1
            · simp only [Value.slice.injEq, Option.some.injEq, Addr.mk.injEq, and_true] at hv
              obtain ⟨rfl, -, rfl⟩ := hv
              simpa using h2
          obtain ⟨x, hx⟩ : ∃ x, l.getD q insZ = x := ⟨_, rfl⟩
          have hIx := HI.out q hqn
          have hBx := Hall.out q hqn
          rw [hx] at hIx hBx
          have hKp : Below w1.heap.size w1 (wr.setCell ⟨w1.heap.size + 1, 2, none⟩ (.slice (some ⟨g, 0, none⟩) td0.length cap)) := K.out.setCell (p := ⟨w1.heap.size + 1, 2, none⟩) (by simp) _
          have HKp := Box.mk hKp
          have hF := from_is hpop hn2 hKp.size htdl HO.out hs hc (hIx.below (KK.out _ hKp)) (by have := K1.out.size; omega) hBx
          have HF := Box.mk hF
          have hxs : (sL l)[q]? = some (sIns x) := by rw [sL_get l (by rw [Hn.out]; exact hqn), hx]
          have hnd := List.nodup_append.1 HT.out.nd
          have HT2 : Box (StI (sL l) ((stNext (sIns x) q s).foldl (stCome n) ⟨S, td0, false || !stOk (sIns x) s⟩)) := ⟨by
            have := HT.out.go hxs hs (todo := td0) (fun j => by simp [or_comm]) hnd.1 (fun h => hnd.2.2 q h q (by simp) rfl)
            unfold stGo at this
            rw [HSL.out] at this
            exact this⟩
          have HO2 : Box (SOk n ((stNext (sIns x) q s).foldl (stCome n) ⟨S, td0, false || !stOk (sIns x) s⟩).S) := ⟨SOk.all (k := ⟨S, td0, false || !stOk (sIns x) s⟩) _ HO.out (pendOk_next (HO.out q s hs).2.1 (HO.out q s hs).2.2.2.1)⟩
          have HL2 : Box (leftC n ((stNext (sIns x) q s).foldl (stCome n) ⟨S, td0, false || !stOk (sIns x) s⟩) < M) := ⟨by
            have h1 := leftC_all n (stNext (sIns x) q s) ⟨S, td0, false || !stOk (sIns x) s⟩
            have h2 := HMM.out
            unfold leftC at h1 h2 ⊢
            simp only [List.length_append, List.length_singleton] at h1 h2
            omega⟩
          have HL3 : Box (leftC n ((stNext (sIns x) q s).foldl (stCome n) ⟨S, td0, false || !stOk (sIns x) s⟩) ≤ 2 * n) := ⟨by have := HL2.out; have := HMM.out; have := HL.out; omega⟩
          obtain ⟨m, hm⟩ : ∃ m, td0.length = m := ⟨_, rfl⟩
          rw [hm] at c2 hcq2 hcapl HF HKp htdl
          clear hM' hpop hrow hcq hIx hBx hKp hF hxs hnd HM HT HO K HL HMM hbadEnd hm hs hx hgB
          go_wp2_with fail
          refine HF.out.mono ?_
          rintro e w5 ⟨rfl, G⟩
          obtain ⟨⟨R5, tv5, hM5, -⟩, k5, z5⟩ := G
          have HM5 := Box.mk hM5
          have K5 : Box (Below w1.heap.size w1 w5) := ⟨HKp.out.trans k5⟩
          have HM6 : Box (2 * nilCells w5 w1.heap.size + todoLen w5 (w1.heap.size + 1) < M) := ⟨by rw [hM5.left]; exact HL2.out⟩
          clear hM5 k5 z5 HF HKp
          go_wp2_with fail
          go_roundw
          case rel => exact ⟨_, R5, tv5, HM5, HT2, HO2, K5, HL3⟩
          case measure => exact HM6.out

end Go.Proofs.YtiimojpaeccajaaGreatDoor
