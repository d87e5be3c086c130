/- code.Entries by its contract: where procedures begin, sorted, each once. -/
import Derived.Test.YtiimojpaeccajaaGreatDoorLkC
import Derived.Test.YtiimojpaeccajaaGreatDoorShSort
import Derived.Sort.OwnSortedInts
namespace Go.Proofs.YtiimojpaeccajaaGreatDoor
set_option linter.unusedVariables false
set_option linter.unusedSimpArgs false
open Go.RowKit Go.Proofs.YtiimojpaeccajaaGreatDoorW.PrintWords Go.Proofs.YtiimojpaeccajaaGreatDoorW.PrintLast Go.Proofs.YtiimojpaeccajaaGreatDoorW.PrintMore

/-- The first places: 0, and each closure's. -/
def entL (l : List Ins) : List Int := 0 :: (l.filter fun x => x.f0 == 9).map (·.f1)
def entS (l : List Ins) : List Int := Lib.compact ((entL l).mergeSort fun x y => decide (x ≤ y))
theorem entL_take_yes (l : List Ins) (j : Nat) (h : j < l.length) (h9 : (l.getD j insZ).f0 = 9) : entL (l.take (j + 1)) = entL (l.take j) ++ [(l.getD j insZ).f1] := by
  have ht : l.take (j + 1) = l.take j ++ [l.getD j insZ] := by
    rw [List.take_add_one, List.getElem?_eq_getElem h]
    simp [List.getD, List.getElem?_eq_getElem h]
  have hf : [l.getD j insZ].filter (fun x => x.f0 == 9) = [l.getD j insZ] := by rw [List.filter_cons_of_pos (by simp only [h9]; rfl)]; rfl
  rw [ht, entL, entL, List.filter_append, hf]
  simp
theorem entL_take_no (l : List Ins) (j : Nat) (h : j < l.length) (h9 : (l.getD j insZ).f0 ≠ 9) : entL (l.take (j + 1)) = entL (l.take j) := by
  have ht : l.take (j + 1) = l.take j ++ [l.getD j insZ] := by
    rw [List.take_add_one, List.getElem?_eq_getElem h]
    simp [List.getD, List.getElem?_eq_getElem h]
  have hf : [l.getD j insZ].filter (fun x => x.f0 == 9) = [] := by rw [List.filter_cons_of_neg (by simpa using h9)]; rfl
  rw [ht, entL, entL, List.filter_append, hf]
  simp
theorem entL_len (l : List Ins) : (entL l).length ≤ l.length + 1 := by
  have := List.length_filter_le (fun x : Ins => x.f0 == 9) l
  simp [entL]; omega
theorem compact_mem {zs : List Int} {x : Int} (h : x ∈ Lib.compact zs) : x ∈ zs := by
  unfold Lib.compact Lib.compactUpTo at h
  obtain ⟨j, hj, rfl⟩ := List.mem_map.1 h
  have hj2 := List.mem_range.1 (List.mem_filter.1 hj).1
  have : (zs.toArray)[j]! = zs[j] := by simp [hj2]
  rw [this]
  exact List.getElem_mem hj2
theorem compact_len (zs : List Int) : (Lib.compact zs).length ≤ zs.length := by
  unfold Lib.compact Lib.compactUpTo
  rw [List.length_map]
  refine Nat.le_trans (List.length_filter_le _ _) ?_
  simp
theorem entS_mem {l : List Ins} {x : Int} (h : x ∈ entS l) : x ∈ entL l := List.mem_mergeSort.1 (compact_mem h)

/-- A row of whole numbers of one's own, sorted. -/
theorem own_sort {w : World} {B g cap : Nat} {s : List Int} (h : ownI w B g cap s) (hs : s.length < 4611686018427387904) :
    Calls Tryz.prog 47 #[.slice (some ⟨g, 0, none⟩) s.length cap] w fun e w' => e = .returned (.tuple #[]) ∧ ownI w' B g cap (s.mergeSort fun x y => decide (x ≤ y)) ∧ w.grownBy w' (some g) := by
  rcases h.2 with ⟨h1, _⟩ | ⟨g', cap', cur, hv, hB, hh, h2, h3, h4, h5⟩
  · cases h1
  simp only [Value.slice.injEq, Option.some.injEq, Addr.mk.injEq, and_true] at hv
  obtain ⟨rfl, -, rfl⟩ := hv
  have ht : cur.toList.take s.length = s.map (Value.int .i64) := by rw [Nat.mul_one] at h5; exact h5
  refine (Tryz.slices_Sort_int g 0 cap s w (holds_of_blockI hh ht) (lt_of_heap hh) hs).mono ?_
  rintro e w' ⟨rfl, n, os, rfl⟩
  refine ⟨rfl, ?_, grownBy_sortedI _⟩
  have hl : (s.mergeSort fun x y => decide (x ≤ y)).length = s.length := List.length_mergeSort _
  have := ownsRow_sortedI (os := os) (n := n) (base := B) (ss := s) (ts := s.mergeSort fun x y => decide (x ≤ y)) hl hB hh h2 h3 h4
  unfold ownI rowI
  rw [hl]
  exact this
/-- Each once. -/
theorem own_compact {w : World} {B g cap : Nat} {s : List Int} (h : ownI w B g cap s) (hs : s.length < 4611686018427387904) :
    Calls Tryz.prog 48 #[.slice (some ⟨g, 0, none⟩) s.length cap] w fun e w' => e = .returned (.slice (some ⟨g, 0, none⟩) (Lib.compact s).length cap) ∧ (Lib.compact s).length ≤ cap ∧ (∀ j, j < (Lib.compact s).length → w'.cell? ⟨g, 0 + j, none⟩ = some (.int .i64 ((Lib.compact s).getD j 0))) ∧ w.grownBy w' (some g) := by
  rcases h.2 with ⟨h1, _⟩ | ⟨g', cap', cur, hv, hB, hh, h2, h3, h4, h5⟩
  · cases h1
  simp only [Value.slice.injEq, Option.some.injEq, Addr.mk.injEq, and_true] at hv
  obtain ⟨rfl, -, rfl⟩ := hv
  have ht : cur.toList.take s.length = s.map (Value.int .i64) := by rw [Nat.mul_one] at h5; exact h5
  have hcl := compact_len s
  refine (Tryz.slices_Compact_int g 0 cap s w (holds_of_blockI hh ht) (by omega) h2).mono ?_
  rintro e w' ⟨rfl, n, rfl⟩
  obtain ⟨ts, hts⟩ : ∃ ts, Lib.compact s ++ List.replicate (s.length - (Lib.compact s).length) 0 = ts := ⟨_, rfl⟩
  have hl : ts.length = s.length := by rw [← hts, List.length_append, List.length_replicate]; omega
  have hrow := ownsRow_sortedI (os := #[]) (n := n) (base := B) (ss := s) (ts := ts) hl hB hh h2 h3 h4
  have hgr := grownBy_sortedI (os := #[]) (n := n) (w := w) (g := g) ts.toArray
  rw [Go.Sort.grow_empty] at hrow hgr
  rw [hts]
  refine ⟨rfl, by omega, fun j hj => ?_, hgr⟩
  rw [Nat.zero_add, hrow.cellAt j (by omega), ← hts, List.map_append, List.getElem?_append_left (by simpa using hj)]
  simp [List.getD, hj]

set_option maxRecDepth 100000 in
theorem entries_is (l : List Ins) (A : Option Addr) (c : Nat) (w : World) (hC : Kd.C insK w A l.length l) (hc : l.length ≤ c) (hs : ∀ k, k < l.length → dsz (l.getD k insZ).f4 ≤ 4000) (hb : l.length ≤ 9223372036854775807) (hchk : chkB l = true) :
    Calls Tryz.prog 16 #[.slice A l.length c] w fun e w' => ∃ g cap, e = .returned (.slice (some ⟨g, 0, none⟩) (entS l).length cap) ∧ (entS l).length ≤ cap ∧ (∀ j, j < (entS l).length → w'.cell? ⟨g, 0 + j, none⟩ = some (.int .i64 ((entS l).getD j 0))) ∧ Below w.heap.size w w' := by
  have HCk := Box.mk (check_is l A c w hC hc hs hb)
  rw [hchk, if_pos rfl] at HCk
  have hn8 : l.length ≤ 8000 := by
    have h2 := hchk
    unfold chkB at h2
    simp only [Bool.and_eq_true, decide_eq_true_eq] at h2
    exact h2.1.2
  have HC := Box.mk hC
  obtain ⟨n, hn⟩ : ∃ n, l.length = n := ⟨_, rfl⟩
  have Hn := Box.mk hn
  rw [hn] at hc hb HCk hn8 ⊢
  have HE : Box (entL (l.take n) = entL l) := ⟨by rw [← hn, List.take_length]⟩
  have hel : (entL l).length ≤ n + 1 := by have := entL_len l; omega
  have HEl := Box.mk hel
  clear hC hs hchk hn hel
  go_enter Tryz.func16, Tryz.ntmps16
  go_wp2_with fail
  refine HCk.out.mono ?_
  rintro e w1 ⟨rfl, k1⟩
  have K1 := Box.mk k1
  have HC1 := Box.mk (Kd.C_below HC.out k1)
  have hrow0 : (w1.alloc (.cells #[.int .i64 0] 3)).ownsRow w1.heap.size 3 1 (.slice (some ⟨w1.heap.size, 0, none⟩) 1 1) (entL (l.take 0)).length (rowI (entL (l.take 0))) := by
    refine ⟨by simp [entL, rowI], .inr ⟨w1.heap.size, 1, _, by simp [entL], Nat.le_refl _, heap_alloc_new w1 _, by simp [entL], by decide, by simp, by simp [entL, rowI]⟩⟩
  have HR0 := Box.mk hrow0
  have HK0 : Box (Below w1.heap.size w1 (w1.alloc (.cells #[.int .i64 0] 3))) := ⟨(Below.refl _ w1).alloc (Nat.le_refl _) _⟩
  clear k1 HCk hrow0
  unfold errV
  simp only [if_true]
  go_wp2_with fail
  go_loopw [12, 3] (fun i v wr => ∃ (j : Nat), j ≤ n ∧ i = .int .i64 j ∧ Box (wr.ownsRow w1.heap.size 3 1 v (entL (l.take j)).length (rowI (entL (l.take j)))) ∧ Box (Below w1.heap.size w1 wr) ∧ Box (∃ g cap, v = .slice (some ⟨g, 0, none⟩) (entL (l.take j)).length cap)) (fun i _ _ => n - (intOf i).toNat)
  case atStart => exact ⟨0, Nat.zero_le _, rfl, HR0, HK0, ⟨w1.heap.size, 1, by simp [entL]⟩⟩
  case round =>
    clear HR0 HK0
    obtain ⟨j, hj, rfl, HR, K, HV⟩ := hrel
    obtain ⟨gg, cc, hv⟩ := HV.out
    obtain ⟨m, hm⟩ : ∃ m, (entL (l.take j)).length = m := ⟨_, rfl⟩
    have hm1 : m ≤ 8001 := by
      have := entL_len (l.take j)
      rw [List.length_take] at this
      omega
    rw [hm] at HR hv
    have Hm := Box.mk hm
    subst hv
    clear hm HV
    by_cases hjn : j < n
    · have hj0 : (0 : Int) ≤ (j : Int) := by omega
      obtain ⟨b, o, hA, hbl, hI⟩ := isI_elem HC1.out (i := j) (by rw [Hn.out]; exact hjn)
      subst hA
      obtain ⟨y, hy⟩ : ∃ y, l.getD j insZ = y := ⟨_, rfl⟩
      rw [hy] at hI
      have hI' := hI.below K.out
      obtain ⟨c0, c1, c2, c3⟩ := hI'.ex
      obtain ⟨DA, dc, c4, c5, c6, c7, -⟩ := hI'.dat.ex
      rw [Nat.add_assoc] at c5 c6 c7
      have HY := Box.mk hy
      clear hI hI' hbl hy
      by_cases h9 : y.f0 = 9
      · have HT : Box (entL (l.take (j + 1)) = entL (l.take j) ++ [y.f1]) := ⟨by rw [entL_take_yes l j (by rw [Hn.out]; exact hjn) (by rw [HY.out]; exact h9), HY.out]⟩
        rw [h9] at c0
        obtain ⟨i0, hi, hz0', hz1, hz2⟩ := info_parts infoInt
        have Hi := Box.mk (And.intro hi (And.intro hz0' (And.intro hz1 hz2)))
        have hbox := HR.out
        have hw1 : w1.heap.size ≤ wr.heap.size := K.out.size
        generalize y.f1 = z1, y.f2 = z2, y.f3 = z3, y.f4.f0 = z4, y.f4.f1 = z5, y.f4.f2 = z6, y.f4.f3.length = z7 at *
        obtain ⟨W, hW⟩ : ∃ W, wr.alloc (.cells #[.int .i64 9, .int .i64 z1, .int .i64 z2, .string z3, .int .i64 z4, .int .i64 z5, .string z6, .slice DA z7 dc] 54) = W := ⟨_, rfl⟩
        have hkA : Below wr.heap.size wr W := by rw [← hW]; exact (Below.refl _ wr).alloc (Nat.le_refl _) _
        have HRW := Box.mk (own_below HR.out hkA)
        have HKW := Box.mk (K.out.trans (hkA.mono hw1))
        have hWs : wr.heap.size ≤ W.heap.size := hkA.size
        have hW0 : W.cell? ⟨wr.heap.size, 1, none⟩ = some (.int .i64 z1) := by rw [← hW, cell_of_heap (heap_alloc_new wr _)]; rfl
        have hW1 : W.cell? ⟨wr.heap.size, 0, none⟩ = some (.int .i64 9) := by rw [← hW, cell_of_heap (heap_alloc_new wr _)]; rfl
        clear hi hz0' hz1 hz2 hkA hbox HR K
        go_wp2_with (at_builtin; refine wpList_append_lies _ rfl _ _ 31 rfl w1.heap.size 3 i0 (.int .i64 0) 1 8 Tryz.underlying31 Hi.out.1 Hi.out.2.1 Hi.out.2.2.1 Hi.out.2.2.2 rfl (by decide) _ _ _ rfl (HRW.out.alloc _) ⟨W.heap.size, 0, none⟩ 1 1 [.int .i64 z1] rfl rfl ?c1 ?c2 (by decide) ?c3 ?c4 ?c5 _ rfl ?_)
        case c1 => exact World.news_of_block (cs := #[.int .i64 z1]) (t := 3) (fr := (0, 0)) (heap_alloc_new _ _)
        case c2 => intro u hu; simp at hu; subst hu; rfl
        case c3 => unfold maxLen; omega
        case c4 => omega
        case c5 => simp; omega
        intro g5 cap5 w5 hown5 hgrow hat hlt5
        have hA : Below W.heap.size W (W.alloc (.cells #[.int .i64 z1] 3)) := (Below.refl _ W).alloc (Nat.le_refl _) _
        have K5 : Box (Below w1.heap.size w1 w5) := ⟨(HKW.out.trans (hA.mono (by omega))).grown hgrow (by have := hA.size; omega) (fun k hk => (HRW.out.lt k hk).1)⟩
        have HR5 : Box (w5.ownsRow w1.heap.size 3 1 (.slice (some ⟨g5, 0, none⟩) (m + 1) cap5) (entL (l.take (j + 1))).length (rowI (entL (l.take (j + 1))))) := ⟨by
          rw [HT.out, List.length_append, Hm.out]
          have : rowI (entL (l.take j) ++ [z1]) = rowI (entL (l.take j)) ++ [.int .i64 z1] := by simp [rowI]
          rw [this]
          exact hown5⟩
        have HV5 : Box (∃ g cap, Value.slice (some ⟨g5, 0, none⟩) (m + 1) cap5 = .slice (some ⟨g, 0, none⟩) (entL (l.take (j + 1))).length cap) := ⟨_, _, by rw [HT.out, List.length_append, Hm.out]; rfl⟩
        clear hown5 hgrow hat hlt5 hA
        go_wp2_with fail
        go_roundw
        case rel => exact ⟨j + 1, by omega, by go_num, HR5, K5, HV5⟩
        case measure => simp [intOf]; omega
      · have h9' : decide (y.f0 = 9) = false := decide_eq_false h9
        have HT : Box (entL (l.take (j + 1)) = entL (l.take j)) := ⟨entL_take_no l j (by rw [Hn.out]; exact hjn) (by rw [HY.out]; exact h9)⟩
        have HRn : Box (∀ u, (wr.alloc u).ownsRow w1.heap.size 3 1 (.slice (some ⟨gg, 0, none⟩) m cc) (entL (l.take (j + 1))).length (rowI (entL (l.take (j + 1))))) := ⟨fun u => by
          rw [HT.out, Hm.out]
          exact HR.out.alloc u⟩
        have HVn : Box (∃ g cap, Value.slice (some ⟨gg, 0, none⟩) m cc = .slice (some ⟨g, 0, none⟩) (entL (l.take (j + 1))).length cap) := ⟨_, _, by rw [HT.out, Hm.out]⟩
        go_wp2_with fail
        go_roundw
        case rel => exact ⟨j + 1, by omega, by go_num, ⟨HRn.out _⟩, ⟨K.out.alloc K.out.size _⟩, HVn⟩
        case measure => simp [intOf]; omega
    · have hjn2 : j = n := by omega
      subst hjn2
      have hR := HR.out
      rw [HE.out] at hR
      have hlm : (entL l).length = m := by rw [← HE.out]; exact Hm.out
      have HO : Box (ownI wr w1.heap.size gg cc (entL l)) := ⟨by unfold ownI; rw [hlm]; exact hR⟩
      have HS := Box.mk (own_sort HO.out (by omega))
      rw [hlm] at HS
      clear hR
      go_wp2_with fail
      refine HS.out.mono ?_
      rintro e w2 ⟨rfl, ho2, hg2⟩
      have hlm2 : ((entL l).mergeSort fun x y => decide (x ≤ y)).length = m := by rw [List.length_mergeSort, hlm]
      have HS2 := Box.mk (own_compact ho2 (by omega))
      rw [hlm2] at HS2
      have K2 : Box (Below w1.heap.size w1 w2) := ⟨K.out.grown hg2 K.out.size (fun k hk => by injection hk with hk; rw [← hk]; exact (HO.out.lt gg rfl).1)⟩
      have hge : w1.heap.size ≤ gg := (HO.out.lt gg rfl).1
      clear ho2 hg2 HS
      go_wp2_with fail
      refine HS2.out.mono ?_
      rintro e w3 ⟨rfl, hcap, hcel, hg3⟩
      have K3 : Box (Below w.heap.size w w3) := ⟨K1.out.trans (Below.mono (K2.out.grown hg3 K2.out.size (fun k hk => by injection hk with hk; rw [← hk]; exact hge)) K1.out.size)⟩
      have HC3 := Box.mk hcel
      have HP3 := Box.mk hcap
      clear hcap hcel hg3 HS2
      go_wp2_with fail
      go_ret
      exact ⟨gg, cc, rfl, HP3.out, HC3.out, K3.out⟩

end Go.Proofs.YtiimojpaeccajaaGreatDoor
