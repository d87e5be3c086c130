/- The document's Look.step by its contract. -/
import Derived.Test.YtiimojpaeccajaaDoorRqF
namespace Go.Proofs.YtiimojpaeccajaaDoor
set_option linter.unusedVariables false
set_option linter.unusedSimpArgs false
open Go.RowKit Go.Proofs.YtiimojpaeccajaaDoorW.PrintWords Go.Proofs.YtiimojpaeccajaaDoorW.PrintLast Go.Proofs.YtiimojpaeccajaaDoorW.PrintMore

section
variable {w w0 : World} {B kb sb n : Nat} {lb lo c : Nat} {S : Nat → Option (List Int)} {R : Nat → Nat × Nat} {td : List Nat} {tv : Value} {bad : Bool}
set_option maxHeartbeats 2000000 in
set_option maxRecDepth 100000 in
theorem step_push (hM0 : LqM 56 w0 B kb sb (.slice (some ⟨lb, lo, none⟩) n c) n S R td tv bad) (hn : n ≤ 8000) (hB0 : B ≤ w0.heap.size) (htd : td.length ≤ 90000) (hS : SOk n S) {i : Nat} {s : List Int} (hs : S i = some s) (hnc : n ≤ c)
    {x : Ins} (hI : IsI w0 lb (lo + i * 8) x) (hlB : lb < B) (hx : insB n x = true) (hop : x.f0 = 11) :
    Calls Tryd.prog 23 #[.pointer (some ⟨kb, 0, none⟩), .int .i64 i] w0 fun e w' => e = .returned (.tuple #[]) ∧
      LqGot 56 B kb sb (.slice (some ⟨lb, lo, none⟩) n c) n S R ((stNext (sIns x) i s).foldl (stCome n) ⟨S, td, bad || !stOk (sIns x) s⟩) w0 w' := by
  have hin0 : (i : Int) < (n : Int) := by have := (hS i s hs).1; omega
  have bL := hM0.at0.1
  have bS := hM0.at0.2.1
  obtain ⟨c0, c1, c2, c3⟩ := hI.ex
  obtain ⟨DA, dc, c4, c5, c6, c7, -⟩ := hI.dat.ex
  rw [Nat.add_assoc] at c5 c6 c7
  obtain ⟨v0, Hv0⟩ : ∃ v, Box (x.f0 = v) := ⟨_, ⟨rfl⟩⟩
  obtain ⟨v1, Hv1⟩ : ∃ v, Box (x.f1 = v) := ⟨_, ⟨rfl⟩⟩
  rw [Hv0.out] at c0
  rw [Hv1.out] at c1
  generalize x.f2 = v2 at c2
  generalize x.f3 = v3 at c3
  generalize x.f4.f0 = v4 at c4
  generalize x.f4.f1 = v5 at c5
  generalize x.f4.f2 = v6 at c6
  generalize x.f4.f3.length = v8 at c7
  generalize DA = v7 at c7
  generalize dc = v9 at c7
  obtain ⟨w, hw⟩ : ∃ w, w0.alloc (.cells #[.int .i64 v0, .int .i64 v1, .int .i64 v2, .string v3, .int .i64 v4, .int .i64 v5, .string v6, .slice v7 v8 v9] 44) = w := ⟨_, rfl⟩
  have hkW : Below w0.heap.size w0 w := by rw [← hw]; exact (Below.refl _ w0).alloc (Nat.le_refl _) _
  have hblk : w.heap[w0.heap.size]? = some (.cells #[.int .i64 v0, .int .i64 v1, .int .i64 v2, .string v3, .int .i64 v4, .int .i64 v5, .string v6, .slice v7 v8 v9] 44 (0, 0)) := by rw [← hw]; exact heap_alloc_new w0 _
  obtain ⟨gx, hgx⟩ : ∃ g, w0.heap.size = g := ⟨_, rfl⟩
  have hM := hM0.below hkW
  have hB : B ≤ w.heap.size := Nat.le_trans hB0 hkW.size
  have HPre : Box (∀ k w', LqGot 56 B kb sb (.slice (some ⟨lb, lo, none⟩) n c) n S R k w w' → LqGot 56 B kb sb (.slice (some ⟨lb, lo, none⟩) n c) n S R k w0 w') := ⟨fun k w' G => G.pre (Below.mono hkW hB0) hkW.size⟩
  have i0 : w.cell? ⟨gx, 0, none⟩ = some (.int .i64 x.f0) := by rw [Hv0.out, ← hgx, cell_of_heap hblk]; rfl
  have i1 : w.cell? ⟨gx, 1, none⟩ = some (.int .i64 x.f1) := by rw [Hv1.out, ← hgx, cell_of_heap hblk]; rfl
  have HW := Box.mk hw
  have Hg := Box.mk hgx
  clear hw hgx hblk hkW
  obtain ⟨hi, hs0, hsl, hz0, hz1⟩ := hS i s hs
  have a0 := hM.at0.1
  have a1 := hM.at0.2.1
  have hslot := hM.slot hi
  rw [hs] at hslot
  simp only at hslot
  have hrow := hM.rowAt hs
  obtain ⟨r, hr⟩ : ∃ r, R i = r := ⟨_, rfl⟩
  rw [hr] at hrow hslot
  have hpos : 0 < s.length := by cases s with | nil => exact absurd rfl hs0 | cons => simp
  obtain ⟨p, hp⟩ : ∃ p, s.length = p + 1 := ⟨s.length - 1, by omega⟩
  have hcl := ownI_cell hrow (j := p) (by omega)
  rw [stop_getD s p hp] at hcl
  have hcap : p + 1 ≤ r.2 := by
    rcases hrow.2 with ⟨h1, _⟩ | ⟨g', cap', cur, hv, _, _, h2, _⟩
    · cases h1
    · simp only [Value.slice.injEq, Option.some.injEq, Addr.mk.injEq, and_true] at hv
      obtain ⟨rfl, -, rfl⟩ := hv
      omega
  obtain ⟨z, hz⟩ : ∃ z, stop s = z := ⟨_, rfl⟩
  rw [hz] at hcl hz0 hz1
  rw [hp] at hslot hsl
  have HM := Box.mk hM
  have HS := Box.mk hS
  have Hs := Box.mk hs
  have Hr := Box.mk hr
  have Hrow := Box.mk hrow
  have Hp := Box.mk hp
  have Hz := Box.mk hz
  have Hs0 := Box.mk hs0
  have hHS := Box.mk (fun j t h => (hS j t h).2.2.1)
  have hF : (stNext (sIns x) i s).foldl (stCome n) ⟨S, td, bad || !stOk (sIns x) s⟩ = stCome n ⟨S, td, bad⟩ (i + 1, s.dropLast ++ [stop s + 1]) := by
    simp [sIns, hop, stNext, stOk]
  rw [hF]
  clear hF
  rw [hop] at i0
  have hin : (i : Int) < (n : Int) := by omega
  have hi8 : i + 1 ≤ 8000 := by omega
  clear hM hM0 hS hs hr hrow hp hz hs0 hI hx hpos
  go_enter Tryd.func23, Tryd.ntmps23
  go_upto_region 1 with fail
  rw [HW.out, Hg.out]
  clear c0 c1 c2 c3 c4 c5 c6 c7 bL bS
  have HE0 : Box ((w.alloc (.cells #[] 3)).ownsRow w.heap.size 3 1 (.slice (some ⟨w.heap.size, 0, none⟩) 0 0) ([] : List Int).length (nums .i64 [])) := ⟨World.ownsRow_lit (base := w.heap.size) (e := 3) (size := 1) w #[] 0 (Nat.le_refl _) (by decide) rfl⟩
  have HRd : Box (ReadsInt (w.alloc (.cells #[] 3)) .i64 (some ⟨r.1, 0, none⟩) (p) (s.dropLast)) := ⟨by simp [Hp.out], by omega, fun _ => ⟨_, rfl, fun j hj => by
    rw [Addr.add_lit, Nat.zero_add, cell_below (ownI_cell Hrow.out (j := j) (by rw [Hp.out]; omega)) ((Below.refl _ w).alloc (Nat.le_refl _) (.cells #[] 3))]
    have h9 : j < s.dropLast.length := by simp [Hp.out]; omega
    simp [List.getD, List.getElem?_dropLast, Hp.out, hj, List.getElem?_eq_getElem (show j < s.length by rw [Hp.out]; omega)]⟩⟩
  go_wp2_with (at_builtin; refine print_append_row (w0 := w) w.heap.size rfl _ _ 36 3 .i64 8 rfl Tryd.underlying36 infoInt (by decide) (.slice (some ⟨w.heap.size, 0, none⟩) 0 0) [] (s.dropLast) (some ⟨r.1, 0, none⟩) (p) r.2 rfl rfl HE0.out HRd.out ?e1 ?e2 ?e3 ?_)
  case e1 => exact (Below.refl _ w).alloc (Nat.le_refl _) _
  case e2 => simp
  case e3 => simp; omega
  intro v2 w2 hown hk2 hgr2 hat2
  have K2 := Box.mk hk2
  have Ho2 : Box (w2.ownsRow w.heap.size 3 1 v2 (p) (nums .i64 (s.dropLast))) := ⟨by simpa [Hp.out] using hown⟩
  obtain ⟨i0', hi0, hz0', hz1', hz2'⟩ := info_parts infoInt
  have Hi := Box.mk (And.intro hi0 (And.intro hz0' (And.intro hz1' hz2')))
  clear hi0 hz0' hz1' hz2' hk2 hown hgr2 hat2 HE0 HRd
  go_wp2_with (at_builtin; refine wpList_append_lies _ rfl _ _ 36 rfl w.heap.size 3 i0' (.int .i64 0) 1 8 Tryd.underlying36 Hi.out.1 Hi.out.2.1 Hi.out.2.2.1 Hi.out.2.2.2 rfl (by decide) _ _ _ rfl (Ho2.out.alloc _) ⟨w2.heap.size, 0, none⟩ 1 1 [.int .i64 (z + 1)] rfl rfl ?c1 ?c2 (by decide) ?c3 ?c4 ?c5 _ rfl ?_)
  case c1 => exact World.news_of_block (cs := #[.int .i64 (z + 1)]) (t := 3) (fr := (0, 0)) (heap_alloc_new _ _)
  case c2 => intro u hu; simp at hu; subst hu; rfl
  case c3 => unfold maxLen; omega
  case c4 => omega
  case c5 => have := K2.out.size; simp; omega
  intro g5 cap5 w5 hown5 hgrow hat hlt5
  have hkA : Below w.heap.size w w5 := (K2.out.alloc K2.out.size _).grown hgrow (Nat.le_trans K2.out.size (by simp)) (fun k hk => (Ho2.out.lt k hk).1)
  have HKA := Box.mk hkA
  have hlen : (s.dropLast ++ [stop s + 1]).length = p + 1 := by simp [Hp.out]
  have hst2 : ownI w5 w.heap.size g5 cap5 (s.dropLast ++ [stop s + 1]) := by
    unfold ownI; rw [hlen]
    have : rowI (s.dropLast ++ [stop s + 1]) = nums .i64 s.dropLast ++ [.int .i64 (z + 1)] := by simp [rowI, nums, Hz.out]
    rw [this]; exact hown5
  have HC := Box.mk (come16_is (HM.out.below hkA) hn (i + 1) hi8 hst2 (by simp) (by rw [hlen]; omega) (Nat.le_trans hB hkA.size) (by omega) hHS.out)
  rw [hlen] at HC
  have hpi : ((i + 1 : Nat) : Int) = (i : Int) + 1 := by omega
  rw [hpi] at HC
  clear hst2 hkA hown5 hgrow hat hlen Ho2
  go_wp2_with fail
  refine HC.out.mono ?_
  rintro e w2 ⟨rfl, G2⟩
  have HG2 := Box.mk (G2.pre (Below.mono HKA.out hB) HKA.out.size)
  clear G2
  go_wp2_with fail
  go_end0
  exact ⟨rfl, HPre.out _ _ HG2.out⟩

set_option maxHeartbeats 2000000 in
set_option maxRecDepth 100000 in
theorem step_frame (hM0 : LqM 56 w0 B kb sb (.slice (some ⟨lb, lo, none⟩) n c) n S R td tv bad) (hn : n ≤ 8000) (hB0 : B ≤ w0.heap.size) (htd : td.length ≤ 90000) (hS : SOk n S) {i : Nat} {s : List Int} (hs : S i = some s) (hnc : n ≤ c)
    {x : Ins} (hI : IsI w0 lb (lo + i * 8) x) (hlB : lb < B) (hx : insB n x = true) (hop : x.f0 = 10) :
    Calls Tryd.prog 23 #[.pointer (some ⟨kb, 0, none⟩), .int .i64 i] w0 fun e w' => e = .returned (.tuple #[]) ∧
      LqGot 56 B kb sb (.slice (some ⟨lb, lo, none⟩) n c) n S R ((stNext (sIns x) i s).foldl (stCome n) ⟨S, td, bad || !stOk (sIns x) s⟩) w0 w' := by
  have hin0 : (i : Int) < (n : Int) := by have := (hS i s hs).1; omega
  have bL := hM0.at0.1
  have bS := hM0.at0.2.1
  obtain ⟨c0, c1, c2, c3⟩ := hI.ex
  obtain ⟨DA, dc, c4, c5, c6, c7, -⟩ := hI.dat.ex
  rw [Nat.add_assoc] at c5 c6 c7
  obtain ⟨v0, Hv0⟩ : ∃ v, Box (x.f0 = v) := ⟨_, ⟨rfl⟩⟩
  obtain ⟨v1, Hv1⟩ : ∃ v, Box (x.f1 = v) := ⟨_, ⟨rfl⟩⟩
  rw [Hv0.out] at c0
  rw [Hv1.out] at c1
  generalize x.f2 = v2 at c2
  generalize x.f3 = v3 at c3
  generalize x.f4.f0 = v4 at c4
  generalize x.f4.f1 = v5 at c5
  generalize x.f4.f2 = v6 at c6
  generalize x.f4.f3.length = v8 at c7
  generalize DA = v7 at c7
  generalize dc = v9 at c7
  obtain ⟨w, hw⟩ : ∃ w, w0.alloc (.cells #[.int .i64 v0, .int .i64 v1, .int .i64 v2, .string v3, .int .i64 v4, .int .i64 v5, .string v6, .slice v7 v8 v9] 44) = w := ⟨_, rfl⟩
  have hkW : Below w0.heap.size w0 w := by rw [← hw]; exact (Below.refl _ w0).alloc (Nat.le_refl _) _
  have hblk : w.heap[w0.heap.size]? = some (.cells #[.int .i64 v0, .int .i64 v1, .int .i64 v2, .string v3, .int .i64 v4, .int .i64 v5, .string v6, .slice v7 v8 v9] 44 (0, 0)) := by rw [← hw]; exact heap_alloc_new w0 _
  obtain ⟨gx, hgx⟩ : ∃ g, w0.heap.size = g := ⟨_, rfl⟩
  have hM := hM0.below hkW
  have hB : B ≤ w.heap.size := Nat.le_trans hB0 hkW.size
  have HPre : Box (∀ k w', LqGot 56 B kb sb (.slice (some ⟨lb, lo, none⟩) n c) n S R k w w' → LqGot 56 B kb sb (.slice (some ⟨lb, lo, none⟩) n c) n S R k w0 w') := ⟨fun k w' G => G.pre (Below.mono hkW hB0) hkW.size⟩
  have i0 : w.cell? ⟨gx, 0, none⟩ = some (.int .i64 x.f0) := by rw [Hv0.out, ← hgx, cell_of_heap hblk]; rfl
  have i1 : w.cell? ⟨gx, 1, none⟩ = some (.int .i64 x.f1) := by rw [Hv1.out, ← hgx, cell_of_heap hblk]; rfl
  have HW := Box.mk hw
  have Hg := Box.mk hgx
  clear hw hgx hblk hkW
  obtain ⟨hi, hs0, hsl, hz0, hz1⟩ := hS i s hs
  have a0 := hM.at0.1
  have a1 := hM.at0.2.1
  have hslot := hM.slot hi
  rw [hs] at hslot
  simp only at hslot
  have hrow := hM.rowAt hs
  obtain ⟨r, hr⟩ : ∃ r, R i = r := ⟨_, rfl⟩
  rw [hr] at hrow hslot
  have hpos : 0 < s.length := by cases s with | nil => exact absurd rfl hs0 | cons => simp
  obtain ⟨p, hp⟩ : ∃ p, s.length = p + 1 := ⟨s.length - 1, by omega⟩
  have hcl := ownI_cell hrow (j := p) (by omega)
  rw [stop_getD s p hp] at hcl
  have hcap : p + 1 ≤ r.2 := by
    rcases hrow.2 with ⟨h1, _⟩ | ⟨g', cap', cur, hv, _, _, h2, _⟩
    · cases h1
    · simp only [Value.slice.injEq, Option.some.injEq, Addr.mk.injEq, and_true] at hv
      obtain ⟨rfl, -, rfl⟩ := hv
      omega
  obtain ⟨z, hz⟩ : ∃ z, stop s = z := ⟨_, rfl⟩
  rw [hz] at hcl hz0 hz1
  rw [hp] at hslot hsl
  have HM := Box.mk hM
  have HS := Box.mk hS
  have Hs := Box.mk hs
  have Hr := Box.mk hr
  have Hrow := Box.mk hrow
  have Hp := Box.mk hp
  have Hz := Box.mk hz
  have Hs0 := Box.mk hs0
  have hHS := Box.mk (fun j t h => (hS j t h).2.2.1)
  have hA : 0 ≤ x.f1 ∧ x.f1 < n := by
    have h2 := hx
    unfold insB at h2
    rw [hop] at h2
    simp [hop] at h2
    omega
  obtain ⟨q, hq⟩ : ∃ q : Nat, x.f1 = q := ⟨x.f1.toNat, by omega⟩
  have hq8 : q ≤ 8000 := by omega
  rw [hq] at i1
  have hF : (stNext (sIns x) i s).foldl (stCome n) ⟨S, td, bad || !stOk (sIns x) s⟩ = stCome n (stCome n ⟨S, td, bad⟩ (q, s)) (i + 1, s ++ [0]) := by
    simp [sIns, hop, stNext, stOk, hq]
  rw [hF]
  clear hF
  rw [hop] at i0
  have hin : (i : Int) < (n : Int) := by omega
  have hi8 : i + 1 ≤ 8000 := by omega
  clear hM hM0 hS hs hr hrow hp hz hs0 hI hx hpos hA hq
  have HC := Box.mk (come16_is HM.out hn q hq8 Hrow.out Hs0.out (by rw [Hp.out]; omega) hB (by omega) hHS.out)
  rw [Hp.out] at HC
  go_enter Tryd.func23, Tryd.ntmps23
  go_upto_region 1 with fail
  rw [HW.out, Hg.out]
  clear c0 c1 c2 c3 c4 c5 c6 c7 bL bS
  go_wp2_with fail
  refine HC.out.mono ?_
  rintro e w1 ⟨rfl, G⟩
  obtain ⟨⟨R1, tv1, hM1, hR1⟩, k1, z1⟩ := G
  have HK1 := Box.mk k1
  have HZ1 := Box.mk z1
  have HM1 := Box.mk hM1
  have HR1 := Box.mk hR1
  have hs1 := stCome_keep (n := n) (k := ⟨S, td, bad⟩) (p := (q, s)) Hs.out
  have hrow1 := hM1.rowAt hs1
  rw [hR1 i (by rw [Hs.out]; simp), Hr.out] at hrow1
  have Hrow1 := Box.mk hrow1
  have hS1 : SOk n (stCome n ⟨S, td, bad⟩ (q, s)).S := HS.out.come ⟨Hs0.out, by show 0 ≤ stop s; rw [Hz.out]; exact hz0⟩
  have ht1 := stCome_todo n ⟨S, td, bad⟩ (q, s)
  have hHS1 := Box.mk (fun j t h => (hS1 j t h).2.2.1)
  have HG := Box.mk (fun (k2 : StK) (w2 : World) (G2 : LqGot 56 B kb sb (.slice (some ⟨lb, lo, none⟩) n c) n (stCome n ⟨S, td, bad⟩ (q, s)).S R1 k2 w1 w2) => (show LqGot 56 B kb sb (.slice (some ⟨lb, lo, none⟩) n c) n S R k2 w w2 from by
    obtain ⟨⟨R2, tv2, hM2, hR2⟩, k2', z2⟩ := G2
    exact ⟨⟨R2, tv2, hM2, fun j hj => by
      obtain ⟨t, ht⟩ := Option.ne_none_iff_exists'.1 hj
      rw [hR2 j (by rw [stCome_keep (n := n) (k := ⟨S, td, bad⟩) (p := (q, s)) ht]; simp), HR1.out j hj]⟩, HK1.out.trans k2', Nat.le_trans HZ1.out z2⟩))
  clear hM1 hR1 k1 z1 hs1 hrow1 hS1 HC
  have HE0 : Box ((w1.alloc (.cells #[] 3)).ownsRow w1.heap.size 3 1 (.slice (some ⟨w1.heap.size, 0, none⟩) 0 0) ([] : List Int).length (nums .i64 [])) := ⟨World.ownsRow_lit (base := w1.heap.size) (e := 3) (size := 1) w1 #[] 0 (Nat.le_refl _) (by decide) rfl⟩
  have HRd : Box (ReadsInt (w1.alloc (.cells #[] 3)) .i64 (some ⟨r.1, 0, none⟩) (p + 1) (s)) := ⟨by simp [Hp.out], by omega, fun _ => ⟨_, rfl, fun j hj => by
    rw [Addr.add_lit, Nat.zero_add, cell_below (ownI_cell Hrow1.out (j := j) (by rw [Hp.out]; omega)) ((Below.refl _ w1).alloc (Nat.le_refl _) (.cells #[] 3))]
    skip⟩⟩
  go_wp2_with (at_builtin; refine print_append_row (w0 := w1) w1.heap.size rfl _ _ 36 3 .i64 8 rfl Tryd.underlying36 infoInt (by decide) (.slice (some ⟨w1.heap.size, 0, none⟩) 0 0) [] (s) (some ⟨r.1, 0, none⟩) (p + 1) r.2 rfl rfl HE0.out HRd.out ?e1 ?e2 ?e3 ?_)
  case e1 => exact (Below.refl _ w1).alloc (Nat.le_refl _) _
  case e2 => simp
  case e3 => simp; omega
  intro v2 w2 hown hk2 hgr2 hat2
  have K2 := Box.mk hk2
  have Ho2 : Box (w2.ownsRow w1.heap.size 3 1 v2 (p + 1) (nums .i64 (s))) := ⟨by simpa [Hp.out] using hown⟩
  obtain ⟨i0', hi0, hz0', hz1', hz2'⟩ := info_parts infoInt
  have Hi := Box.mk (And.intro hi0 (And.intro hz0' (And.intro hz1' hz2')))
  clear hi0 hz0' hz1' hz2' hk2 hown hgr2 hat2 HE0 HRd
  go_wp2_with (at_builtin; refine wpList_append_lies _ rfl _ _ 36 rfl w1.heap.size 3 i0' (.int .i64 0) 1 8 Tryd.underlying36 Hi.out.1 Hi.out.2.1 Hi.out.2.2.1 Hi.out.2.2.2 rfl (by decide) _ _ _ rfl (Ho2.out.alloc _) ⟨w2.heap.size, 0, none⟩ 1 1 [.int .i64 (0)] rfl rfl ?c1 ?c2 (by decide) ?c3 ?c4 ?c5 _ rfl ?_)
  case c1 => exact World.news_of_block (cs := #[.int .i64 (0)]) (t := 3) (fr := (0, 0)) (heap_alloc_new _ _)
  case c2 => intro u hu; simp at hu; subst hu; rfl
  case c3 => unfold maxLen; omega
  case c4 => omega
  case c5 => have := K2.out.size; simp; omega
  intro g5 cap5 w5 hown5 hgrow hat hlt5
  have hkA : Below w1.heap.size w1 w5 := (K2.out.alloc K2.out.size _).grown hgrow (Nat.le_trans K2.out.size (by simp)) (fun k hk => (Ho2.out.lt k hk).1)
  have HKA := Box.mk hkA
  have hlen : (s ++ [0]).length = p + 1 + 1 := by simp [Hp.out]
  have hst2 : ownI w5 w1.heap.size g5 cap5 (s ++ [0]) := by
    unfold ownI; rw [hlen]
    have : rowI (s ++ [0]) = nums .i64 s ++ [.int .i64 0] := by simp [rowI, nums]
    rw [this]; exact hown5
  have HC2 := Box.mk (come16_is (HM1.out.below hkA) hn (i + 1) hi8 hst2 (by simp) (by rw [hlen]; omega) (Nat.le_trans hB (Nat.le_trans HZ1.out hkA.size)) (by have h7 : td.length ≤ 90000 := htd; have h8 : _ ≤ td.length + 1 := ht1; omega) hHS1.out)
  rw [hlen] at HC2
  have hpi : ((i + 1 : Nat) : Int) = (i : Int) + 1 := by omega
  rw [hpi] at HC2
  clear ht1 hst2 hkA hown5 hgrow hat hlen Ho2
  go_wp2_with fail
  refine HC2.out.mono ?_
  rintro e w6 ⟨rfl, G2⟩
  have HG2 := Box.mk (HG.out _ _ (G2.pre (Below.mono HKA.out (Nat.le_trans hB HZ1.out)) HKA.out.size))
  clear G2
  go_wp2_with fail
  go_end0
  exact ⟨rfl, HPre.out _ _ HG2.out⟩

end
end Go.Proofs.YtiimojpaeccajaaDoor
