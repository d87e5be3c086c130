/- strings.Builder at a block's beginning (alone, or in a struct that embeds it): copyCheck, WriteString, WriteByte, String by their contracts. -/
import Derived.Test.YtiimojpaeccajaaGreatDoorProg
import Derived.Test.YtiimojpaeccajaaGreatDoorBase
import Derived.Lib.Builder
import Derived.Lib.AppendStr
import Derived.Lib.UnsafeStr
import Derived.Lib.Strings
import Derived.Laws.Externs
namespace Go.Proofs.YtiimojpaeccajaaGreatDoor
set_option linter.unusedVariables false
set_option linter.unusedSimpArgs false
open Go.RowKit

/-- The block b (of type T) begins with a builder that holds the bytes l; behind it stand the cells rest. -/
structure IsB (T : TypeId) (rest : List Value) (B b : Nat) (l : List UInt8) (w : World) : Prop where
  base : B ≤ b
  ex : ∃ p v, (p = .pointer none ∨ p = .pointer (some ⟨b, 0, none⟩)) ∧ w.heap[b]? = some (.cells (p :: v :: rest).toArray T (0, 0)) ∧ w.ownsRow B 5 1 v l.length (Lib.byteCells l)
/-- What T must be. -/
structure BT (T : TypeId) (n : Nat) : Prop where
  lies : liesAt Tryz.prog Tryz.prog.depth T ((n + 2) / Tryz.prog.cellsOf T) 0 70 1 = true
  ne : T ≠ 5
theorem bt_builder : BT 70 0 := ⟨by kernel_rfl, by decide⟩
theorem infoB : (Tryz.prog.info? 70).map (·.size) = some 2 := by kernel_rfl
theorem infoU8 : (Tryz.prog.info? 5).map (fun i => (i.zero, i.size, i.bytes)) = some (some (.int .u8 0), 1, 1) := by kernel_rfl
theorem IsB.lt {T : TypeId} {rest : List Value} {B b : Nat} {l : List UInt8} {w : World} (h : IsB T rest B b l w) : b < w.heap.size := by
  obtain ⟨p, v, _, h, _⟩ := h.ex
  exact lt_of_heap h
theorem IsB.below {T : TypeId} {rest : List Value} {B b : Nat} {l : List UInt8} {w w' : World} (h : IsB T rest B b l w) (k : Below w.heap.size w w') : IsB T rest B b l w' := by
  have hl := h.lt
  obtain ⟨p, v, hp, hb, ho⟩ := h.ex
  refine ⟨h.base, p, v, hp, (k.block b hl).trans hb, ho.1, ?_⟩
  rcases ho.2 with ⟨h1, h2⟩ | ⟨g, cap, cur, hv, hg, hh, r⟩
  · exact .inl ⟨h1, h2⟩
  · exact .inr ⟨g, cap, cur, hv, hg, by rw [k.block g (lt_of_heap hh)]; exact hh, r⟩
theorem keeps_heap {B : Nat} {w w' : World} (k : Below B w w') {b : Nat} (h : b < B) : w'.heap[b]? = w.heap[b]? := k.block b h

section
variable {T : TypeId} {rest : List Value} {B b : Nat} {l : List UInt8} {w : World}
set_option maxRecDepth 100000 in
theorem chk_is (hT : BT T rest.length) (h : IsB T rest B b l w) :
    Calls Tryz.prog 73 #[.pointer (some ⟨b, 0, none⟩)] w fun e w' => e = .returned (.tuple #[]) ∧ Below B w w' ∧ B ≤ b ∧ w'.heap.size = w.heap.size ∧
      ∃ v, w'.heap[b]? = some (.cells (.pointer (some ⟨b, 0, none⟩) :: v :: rest).toArray T (0, 0)) ∧ w'.ownsRow B 5 1 v l.length (Lib.byteCells l) := by
  obtain ⟨p, v, hp, hb, ho⟩ := h.ex
  have hB := h.base
  have hlt := h.lt
  have h0 := cell_of_heap hb 0
  have hsh : w.shape? b = some (T, rest.length + 2) := by simp [World.shape?, hb]
  simp only [List.getElem?_toArray, List.getElem?_cons_zero] at h0
  rcases hp with rfl | rfl
  · have hfz := frozen_of_heap hb 0
    obtain ⟨j, hj, hjs⟩ := Option.map_eq_some_iff.1 infoB
    have hne := Lib.ownBlock_ne ho hb hT.ne
    have H1 : Box ((w.setCell ⟨b, 0, none⟩ (.pointer (some ⟨b, 0, none⟩))).heap[b]? = some (.cells (.pointer (some ⟨b, 0, none⟩) :: v :: rest).toArray T (0, 0))) := ⟨by
      rw [heap_setCell_at hb]; simp⟩
    have H2 : Box ((w.setCell ⟨b, 0, none⟩ (.pointer (some ⟨b, 0, none⟩))).ownsRow B 5 1 v l.length (Lib.byteCells l)) := ⟨by
      refine ⟨ho.1, ?_⟩
      rcases ho.2 with ⟨h1, h2⟩ | ⟨g, cap, cur, hv, hg, hh, r⟩
      · exact .inl ⟨h1, h2⟩
      · refine .inr ⟨g, cap, cur, hv, hg, ?_, r⟩
        rw [heap_setCell_ne _ _ (fun e => hne (by rw [hv, e]; simp [Value.ownBlock]))]; exact hh⟩
    have H3 := Box.mk ((Below.refl B w).setCell (p := ⟨b, 0, none⟩) hB (.pointer (some ⟨b, 0, none⟩)))
    clear hb ho h
    go_enter Tryz.func73, Tryz.ntmps73
    go_wp2
    rw [Lib.run_to_unsafe w ⟨b, 0, none⟩ Tryz.underlying67 Tryz.underlying156 hj (by rw [hjs]; decide) hsh (by simp)]
    simp only [Result.andThen]
    rw [Oper.upon_value]
    go_wp2
    rw [run_callFunc_extern Tryz.func98 (by kernel_rfl) (by kernel_rfl) (by kernel_rfl) (e := Extern.AbiNoEscape.same) (by kernel_rfl)]
    rw [Lib.run_noEscape]
    simp only [Result.andThen]
    rw [Oper.upon_value]
    go_wp2
    rw [Lib.run_from_unsafe w ⟨b, 0, none⟩ Tryz.underlying156 Tryz.underlying67 hj hsh hT.lies]
    simp only [Result.andThen]
    rw [Oper.upon_value]
    go_wp2
    go_end0
    exact ⟨rfl, H3.out, hB, by simp, v, H1.out, H2.out⟩
  · obtain ⟨j, hj, hjs⟩ := Option.map_eq_some_iff.1 infoB
    have hnq := Lib.run_neq_ptr_same (P := Tryz.prog) w ⟨b, 0, none⟩ Tryz.underlying67 hj
    have H := Box.mk (And.intro hb ho)
    clear hb ho h
    go_enter Tryz.func73, Tryz.ntmps73
    go_wp2
    go_end0
    exact ⟨rfl, Below.refl B w, hB, rfl, v, H.out.1, H.out.2⟩

theorem IsB.put {w : World} {v : Value} {l' : List UInt8} (hB : B ≤ b) {v' : Value} (hb : w.heap[b]? = some (.cells (.pointer (some ⟨b, 0, none⟩) :: v' :: rest).toArray T (0, 0))) (hT : T ≠ 5)
    (ho : w.ownsRow B 5 1 v l'.length (Lib.byteCells l')) : IsB T rest B b l' (w.setCell ⟨b, 1, none⟩ v) := by
  have hne := Lib.ownBlock_ne ho hb hT
  refine ⟨hB, _, v, .inr rfl, by rw [heap_setCell_at hb]; simp, ho.1, ?_⟩
  rcases ho.2 with ⟨h1, h2⟩ | ⟨g, cap, cur, hv, hg, hh, r⟩
  · exact .inl ⟨h1, h2⟩
  · refine .inr ⟨g, cap, cur, hv, hg, ?_, r⟩
    rw [heap_setCell_ne _ _ (fun e => hne (by rw [hv, e]; simp [Value.ownBlock]))]; exact hh

theorem byteCells_str (s : ByteArray) : Lib.byteCells s.data.toList = Lib.strCells s := by
  simp [Lib.byteCells, Lib.strCells]
theorem byteCells_append (a c : List UInt8) : Lib.byteCells (a ++ c) = Lib.byteCells a ++ Lib.byteCells c := by simp [Lib.byteCells]

set_option maxRecDepth 100000 in
theorem wstr_is (hT : BT T rest.length) (h : IsB T rest B b l w) (s : ByteArray) (hlen : l.length + s.size ≤ 140737488355328) (hBw : B ≤ w.heap.size) :
    Calls Tryz.prog 42 #[.pointer (some ⟨b, 0, none⟩), .string s] w fun e w' => e = .returned (.tuple #[.int .i64 s.size, .nilIface]) ∧ IsB T rest B b (l ++ s.data.toList) w' ∧ Below B w w' := by
  obtain ⟨i0, hi, hz0, hz1, hz2⟩ := info_parts infoU8
  have HT := hT.ne
  go_enter Tryz.func42, Tryz.ntmps42
  go_wp2_with fail
  refine (chk_is hT h).mono ?_
  rintro e w1 ⟨rfl, k1, hB, hsz, v, hbk, hown⟩
  have c1 := cell_of_heap hbk 1
  have hne := Lib.ownBlock_ne hown hbk HT
  simp only [List.getElem?_toArray, List.getElem?_cons_zero, List.getElem?_cons_succ] at c1
  have K1 := Box.mk k1
  have Hb := Box.mk hbk
  have Ho := Box.mk hown
  have Hn := Box.mk hne
  have Hs := Box.mk hsz
  clear hT h k1 hbk hne hsz
  go_wp2_with (at_builtin; refine Lib.wpList_append_own_string _ rfl _ _ 68 9 rfl B 5 i0 Tryz.underlying68 Tryz.underlying9 hi hz0 hz1 hz2 _ _ _ rfl hown s rfl ?c3 ?c4 ?c5 ?_)
  case c3 => unfold maxLen; omega
  case c4 => omega
  case c5 => rw [Hs.out]; exact hBw
  intro v' w2 hown' hgrow _
  have hlt : b < w1.heap.size := lt_of_heap Hb.out
  have hb2 : w2.heap[b]? = some (.cells (.pointer (some ⟨b, 0, none⟩) :: v :: rest).toArray T (0, 0)) := by
    rw [hgrow.block b hlt (fun e => Hn.out e.symm)]
    exact Hb.out
  have f1 : w2.frozen? ⟨b, 1, none⟩ = false := frozen_of_heap hb2 1
  have d1 := cell_of_heap hb2 1
  simp only [List.getElem?_toArray, List.getElem?_cons_zero, List.getElem?_cons_succ] at d1
  have HR : Box (IsB T rest B b (l ++ s.data.toList) (w2.setCell ⟨b, 1, none⟩ v')) := ⟨IsB.put hB hb2 HT (by
    rw [byteCells_append, byteCells_str]
    have : (l ++ s.data.toList).length = l.length + s.size := by simp
    rw [this]; exact hown')⟩
  have HK := Box.mk ((K1.out.grown hgrow (by rw [Hs.out]; exact hBw) (fun k hk => (Ho.out.lt k hk).1)).setCell (p := ⟨b, 1, none⟩) hB v')
  obtain ⟨ao, n', cap, rfl⟩ : ∃ ao n' cap, v' = .slice ao n' cap := by
    rcases hown'.2 with ⟨hv, _⟩ | ⟨g, cap, cur, hv, _⟩
    · exact ⟨_, _, _, hv⟩
    · exact ⟨_, _, _, hv⟩
  clear hown' hgrow hb2 hown Ho K1 Hb Hn
  go_wp2
  go_ret2
  exact ⟨rfl, HR.out, HK.out⟩

set_option maxRecDepth 100000 in
theorem wbyte_is (hT : BT T rest.length) (h : IsB T rest B b l w) (c : UInt8) (hlen : l.length + 1 ≤ 140737488355328) (hBw : B ≤ w.heap.size) :
    Calls Tryz.prog 130 #[.pointer (some ⟨b, 0, none⟩), .int .u8 (c.toNat : Int)] w fun e w' => e = .returned .nilIface ∧ IsB T rest B b (l ++ [c]) w' ∧ Below B w w' := by
  obtain ⟨i0, hi, hz0, hz1, hz2⟩ := info_parts infoU8
  have HT := hT.ne
  obtain ⟨z, hz⟩ : ∃ z : Int, (c.toNat : Int) = z := ⟨_, rfl⟩
  have Hz := Box.mk hz
  rw [hz]
  clear hz
  go_enter Tryz.func130, Tryz.ntmps130
  go_wp2_with fail
  refine (chk_is hT h).mono ?_
  rintro e w1 ⟨rfl, k1, hB, hsz, v, hbk, hown⟩
  have c1 := cell_of_heap hbk 1
  have hne := Lib.ownBlock_ne hown hbk HT
  simp only [List.getElem?_toArray, List.getElem?_cons_zero, List.getElem?_cons_succ] at c1
  have K1 := Box.mk k1
  have Hb := Box.mk hbk
  have Ho := Box.mk hown
  have Hn := Box.mk hne
  have Hs := Box.mk hsz
  clear hT h k1 hbk hne hsz
  go_wp2_with (at_builtin; refine wpList_append_own _ rfl _ _ 68 rfl B 5 i0 (.int .u8 0) 1 1 Tryz.underlying68 hi hz0 hz1 hz2 rfl (by decide) _ _ _ rfl (hown.alloc _) ⟨w1.heap.size, 0, none⟩ 1 1 [.int .u8 z] rfl rfl ?c1 ?c2 ?c3 ?c4 ?c5 ?_)
  case c1 =>
    intro j u hj
    match j, hj with
    | 0, hj => simp at hj; subst hj; simp [Addr.add]
  case c2 => intro u hu; simp at hu; subst hu; rfl
  case c3 => unfold maxLen; omega
  case c4 => omega
  case c5 => have := Hs.out; simp; omega
  intro v' w2 hown' hgrow _
  have hlt : b < w1.heap.size := lt_of_heap Hb.out
  have hb2 : w2.heap[b]? = some (.cells (.pointer (some ⟨b, 0, none⟩) :: v :: rest).toArray T (0, 0)) := by
    rw [hgrow.block b (by simp; omega) (fun e => Hn.out e.symm), Lib.alloc_old w1 _ b hlt]
    exact Hb.out
  have f1 : w2.frozen? ⟨b, 1, none⟩ = false := frozen_of_heap hb2 1
  have d1 := cell_of_heap hb2 1
  simp only [List.getElem?_toArray, List.getElem?_cons_zero, List.getElem?_cons_succ] at d1
  have HR : Box (IsB T rest B b (l ++ [c]) (w2.setCell ⟨b, 1, none⟩ v')) := ⟨IsB.put hB hb2 HT (by
    rw [byteCells_append]
    have e1 : Lib.byteCells [c] = [.int .u8 z] := by rw [← Hz.out]; rfl
    rw [e1]
    have : (l ++ [c]).length = l.length + 1 := by simp
    rw [this]; exact hown')⟩
  have HK := Box.mk (((K1.out.alloc (by rw [Hs.out]; exact hBw) _).grown hgrow (by have := Hs.out; simp; omega) (fun k hk => (Ho.out.lt k hk).1)).setCell (p := ⟨b, 1, none⟩) hB v')
  obtain ⟨ao, n', cap, rfl⟩ : ∃ ao n' cap, v' = .slice ao n' cap := by
    rcases hown'.2 with ⟨hv, _⟩ | ⟨g, cap, cur, hv, _⟩
    · exact ⟨_, _, _, hv⟩
    · exact ⟨_, _, _, hv⟩
  clear hown' hgrow hb2 hown Ho K1 Hb Hn
  go_wp2
  go_ret
  exact ⟨rfl, HR.out, HK.out⟩

set_option maxRecDepth 100000 in
theorem bstr_is (h : IsB T rest B b l w) (h0 : l ≠ []) :
    Calls Tryz.prog 46 #[.pointer (some ⟨b, 0, none⟩)] w fun e w' => e = .returned (.string ⟨l.toArray⟩) ∧ Below B w w' := by
  obtain ⟨p, v, hp, hbk, hown⟩ := h.ex
  have hl0 : l.length ≠ 0 := by simpa using h0
  obtain ⟨g, cap, cur, rfl, hbg, hg, hnc, hcm, hcs, htake⟩ : ∃ g cap cur, v = .slice (some ⟨g, 0, none⟩) l.length cap ∧ B ≤ g ∧ w.heap[g]? = some (.cells cur 5 (0, 0)) ∧ l.length ≤ cap ∧ cap ≤ maxLen ∧ cur.size = cap * 1 ∧ cur.toList.take (l.length * 1) = Lib.byteCells l := by
    rcases hown.2 with ⟨_, hz⟩ | ⟨g, cap, cur, hv, r⟩
    · exact absurd hz hl0
    · exact ⟨g, cap, cur, hv, r⟩
  have c1 : w.drew.cell? ⟨b, 1, none⟩ = some (.slice (some ⟨g, 0, none⟩) l.length cap) := by
    have : w.drew.heap[b]? = some (.cells (p :: .slice (some ⟨g, 0, none⟩) l.length cap :: rest).toArray T (0, 0)) := hbk
    rw [cell_of_heap this]; simp
  have c1' : w.cell? ⟨b, 1, none⟩ = some (.slice (some ⟨g, 0, none⟩) l.length cap) := c1
  have hSD : (Builtin.unsafeSliceData_ #[68] 113 #[.slice (some ⟨g, 0, none⟩) l.length cap]).run Tryz.prog w.drew = .ok (.pointer (some ⟨g, 0, none⟩)) w.drew :=
    Lib.run_unsafeSliceData_row _ _ _ _ _ _ (by omega)
  have hUS : (Builtin.unsafeString_ #[113, 3] 9 #[.pointer (some ⟨g, 0, none⟩), .int .i64 l.length]).run Tryz.prog w.drew = .ok (.string ⟨l.toArray⟩) (w.drew.freeze ⟨g, 0, none⟩ l.length) := by
    refine Lib.run_unsafeString_row w.drew 113 3 9 5 Tryz.underlying113 (by kernel_rfl) g cur.size (by have hg' : w.drew.heap[g]? = some (.cells cur 5 (0, 0)) := hg; simp [World.shape?, hg']) l h0 (by omega) (by unfold maxLen at hcm; omega) ?_
    intro j x hx
    have hj : j < l.length := (List.getElem?_eq_some_iff.1 hx).1
    have h2 := cell_of_heap (show w.drew.heap[g]? = some (.cells cur 5 (0, 0)) from hg) j
    have ea : (⟨g, 0, none⟩ : Addr).add j = ⟨g, j, none⟩ := by rw [Addr.add_lit, Nat.zero_add]
    rw [ea, h2]
    have h3 : cur.toList[j]? = (cur.toList.take (l.length * 1))[j]? := by rw [List.getElem?_take, if_pos (by omega)]
    rw [← Array.getElem?_toList, h3, htake]
    simp [Lib.byteCells, hx]
  have HK := Box.mk (Lib.below_freeze (Below.drew (Below.refl B w)) (p := ⟨g, 0, none⟩) hbg l.length)
  clear h hbk hown htake hg
  go_enter Tryz.func46, Tryz.ntmps46
  go_wp2
  go_region
  all_goals (go_wp2; go_ret; exact ⟨rfl, HK.out⟩)
end

end Go.Proofs.YtiimojpaeccajaaGreatDoor
