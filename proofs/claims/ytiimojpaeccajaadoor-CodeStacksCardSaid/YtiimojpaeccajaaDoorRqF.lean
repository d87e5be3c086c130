/- The document's Look.step by its contract. -/
import Derived.Test.YtiimojpaeccajaaDoorRqC
import Derived.Test.YtiimojpaeccajaaDoorLkF
namespace Go.Proofs.YtiimojpaeccajaaDoor
set_option linter.unusedVariables false
set_option linter.unusedSimpArgs false
open Go.RowKit Go.Proofs.YtiimojpaeccajaaDoorW.PrintWords Go.Proofs.YtiimojpaeccajaaDoorW.PrintLast Go.Proofs.YtiimojpaeccajaaDoorW.PrintMore

theorem LqGot.pre {T : TypeId} {B kb sb n : Nat} {lv : Value} {S : Nat → Option (List Int)} {R : Nat → Nat × Nat} {k : StK} {w W w1 : World} (h : LqGot T B kb sb lv n S R k W w1) (hk : Below B w W) (hz : w.heap.size ≤ W.heap.size) : LqGot T B kb sb lv n S R k w w1 :=
  ⟨h.mem, hk.trans h.keeps, Nat.le_trans hz h.size⟩
section
variable {w w0 : World} {B kb sb n : Nat} {lb lo c : Nat} {S : Nat → Option (List Int)} {R : Nat → Nat × Nat} {td : List Nat} {tv : Value} {bad : Bool}
theorem LqM.rowAt {T : TypeId} {lv : Value} (h : LqM T w B kb sb lv n S R td tv bad) {i : Nat} {s : List Int} (hs : S i = some s) : ownI w B (R i).1 (R i).2 s := (h.row i s hs).1

set_option maxHeartbeats 2000000 in
set_option maxRecDepth 100000 in
theorem step_jump (hM0 : LqM 56 w0 B kb sb (.slice (some ⟨lb, lo, none⟩) n c) n S R td tv bad) (hn : n ≤ 8000) (hB0 : B ≤ w0.heap.size) (htd : td.length ≤ 90000) (hS : SOk n S) {i : Nat} {s : List Int} (hs : S i = some s) (hnc : n ≤ c)
    {x : Ins} (hI : IsI w0 lb (lo + i * 8) x) (hlB : lb < B) (hx : insB n x = true) (hop : x.f0 = 8) :
    Calls Tryd.prog 23 #[.pointer (some ⟨kb, 0, none⟩), .int .i64 i] w0 fun e w' => e = .returned (.tuple #[]) ∧
      LqGot 56 B kb sb (.slice (some ⟨lb, lo, none⟩) n c) n S R ((stNext (sIns x) i s).foldl (stCome n) ⟨S, td, bad || !stOk (sIns x) s⟩) w0 w' := by
  have hin0 : (i : Int) < (n : Int) := by have := (hS i s hs).1; omega
  have bL := hM0.at0.1
  have bS := hM0.at0.2.1
  obtain ⟨c0, c1, c2, c3⟩ := hI.ex
  obtain ⟨DA, dc, c4, c5, c6, c7, -⟩ := hI.dat.ex
  rw [Nat.add_assoc] at c5 c6 c7
  obtain ⟨v0, Hv0⟩ : ∃ v, Box (x.f0 = v) := ⟨_, ⟨rfl⟩⟩
  obtain ⟨v1, Hv1⟩ : ∃ v, Box (x.f1 = v) := ⟨_, ⟨rfl⟩⟩
  rw [Hv0.out] at c0
  rw [Hv1.out] at c1
  generalize x.f2 = v2 at c2
  generalize x.f3 = v3 at c3
  generalize x.f4.f0 = v4 at c4
  generalize x.f4.f1 = v5 at c5
  generalize x.f4.f2 = v6 at c6
  generalize x.f4.f3.length = v8 at c7
  generalize DA = v7 at c7
  generalize dc = v9 at c7
  obtain ⟨w, hw⟩ : ∃ w, w0.alloc (.cells #[.int .i64 v0, .int .i64 v1, .int .i64 v2, .string v3, .int .i64 v4, .int .i64 v5, .string v6, .slice v7 v8 v9] 44) = w := ⟨_, rfl⟩
  have hkW : Below w0.heap.size w0 w := by rw [← hw]; exact (Below.refl _ w0).alloc (Nat.le_refl _) _
  have hblk : w.heap[w0.heap.size]? = some (.cells #[.int .i64 v0, .int .i64 v1, .int .i64 v2, .string v3, .int .i64 v4, .int .i64 v5, .string v6, .slice v7 v8 v9] 44 (0, 0)) := by rw [← hw]; exact heap_alloc_new w0 _
  obtain ⟨gx, hgx⟩ : ∃ g, w0.heap.size = g := ⟨_, rfl⟩
  have hM := hM0.below hkW
  have hB : B ≤ w.heap.size := Nat.le_trans hB0 hkW.size
  have HPre : Box (∀ k w', LqGot 56 B kb sb (.slice (some ⟨lb, lo, none⟩) n c) n S R k w w' → LqGot 56 B kb sb (.slice (some ⟨lb, lo, none⟩) n c) n S R k w0 w') := ⟨fun k w' G => G.pre (Below.mono hkW hB0) hkW.size⟩
  have i0 : w.cell? ⟨gx, 0, none⟩ = some (.int .i64 x.f0) := by rw [Hv0.out, ← hgx, cell_of_heap hblk]; rfl
  have i1 : w.cell? ⟨gx, 1, none⟩ = some (.int .i64 x.f1) := by rw [Hv1.out, ← hgx, cell_of_heap hblk]; rfl
  have HW := Box.mk hw
  have Hg := Box.mk hgx
  clear hw hgx hblk hkW
  obtain ⟨hi, hs0, hsl, hz0, hz1⟩ := hS i s hs
  have a0 := hM.at0.1
  have a1 := hM.at0.2.1
  have hslot := hM.slot hi
  rw [hs] at hslot
  simp only at hslot
  have hrow := hM.rowAt hs
  obtain ⟨r, hr⟩ : ∃ r, R i = r := ⟨_, rfl⟩
  rw [hr] at hrow hslot
  have hpos : 0 < s.length := by cases s with | nil => exact absurd rfl hs0 | cons => simp
  obtain ⟨p, hp⟩ : ∃ p, s.length = p + 1 := ⟨s.length - 1, by omega⟩
  have hcl := ownI_cell hrow (j := p) (by omega)
  rw [stop_getD s p hp] at hcl
  have hcap : p + 1 ≤ r.2 := by
    rcases hrow.2 with ⟨h1, _⟩ | ⟨g', cap', cur, hv, _, _, h2, _⟩
    · cases h1
    · simp only [Value.slice.injEq, Option.some.injEq, Addr.mk.injEq, and_true] at hv
      obtain ⟨rfl, -, rfl⟩ := hv
      omega
  obtain ⟨z, hz⟩ : ∃ z, stop s = z := ⟨_, rfl⟩
  rw [hz] at hcl hz0 hz1
  rw [hp] at hslot hsl
  have HM := Box.mk hM
  have HS := Box.mk hS
  have Hs := Box.mk hs
  have Hr := Box.mk hr
  have Hrow := Box.mk hrow
  have Hp := Box.mk hp
  have Hz := Box.mk hz
  have Hs0 := Box.mk hs0
  have hHS := Box.mk (fun j t h => (hS j t h).2.2.1)
  have hA : 0 ≤ x.f1 ∧ x.f1 < n := by
    have h2 := hx
    unfold insB at h2
    rw [hop] at h2
    simp [hop] at h2
    omega
  obtain ⟨q, hq⟩ : ∃ q : Nat, x.f1 = q := ⟨x.f1.toNat, by omega⟩
  have hq8 : q ≤ 8000 := by omega
  rw [hq] at i1
  have hF : (stNext (sIns x) i s).foldl (stCome n) ⟨S, td, bad || !stOk (sIns x) s⟩ = stCome n ⟨S, td, bad⟩ (q, s) := by
    simp [sIns, hop, stNext, stOk, hq]
  rw [hF]
  clear hF
  rw [hop] at i0
  have hin : (i : Int) < (n : Int) := by omega
  have hi8 : i + 1 ≤ 8000 := by omega
  clear hM hM0 hS hs hr hrow hp hz hs0 hI hx hpos hA hq
  have HC := Box.mk (come16_is HM.out hn q hq8 Hrow.out Hs0.out (by rw [Hp.out]; omega) hB (by omega) hHS.out)
  rw [Hp.out] at HC
  go_enter Tryd.func23, Tryd.ntmps23
  go_upto_region 1 with fail
  rw [HW.out, Hg.out]
  clear c0 c1 c2 c3 c4 c5 c6 c7 bL bS
  go_wp2_with fail
  refine HC.out.mono ?_
  rintro e w1 ⟨rfl, G⟩
  go_wp2_with fail
  go_end0
  exact ⟨rfl, HPre.out _ _ G⟩

set_option maxHeartbeats 2000000 in
set_option maxRecDepth 100000 in
theorem step_unless (hM0 : LqM 56 w0 B kb sb (.slice (some ⟨lb, lo, none⟩) n c) n S R td tv bad) (hn : n ≤ 8000) (hB0 : B ≤ w0.heap.size) (htd : td.length ≤ 90000) (hS : SOk n S) {i : Nat} {s : List Int} (hs : S i = some s) (hnc : n ≤ c)
    {x : Ins} (hI : IsI w0 lb (lo + i * 8) x) (hlB : lb < B) (hx : insB n x = true) (hop : x.f0 = 7) :
    Calls Tryd.prog 23 #[.pointer (some ⟨kb, 0, none⟩), .int .i64 i] w0 fun e w' => e = .returned (.tuple #[]) ∧
      LqGot 56 B kb sb (.slice (some ⟨lb, lo, none⟩) n c) n S R ((stNext (sIns x) i s).foldl (stCome n) ⟨S, td, bad || !stOk (sIns x) s⟩) w0 w' := by
  have hin0 : (i : Int) < (n : Int) := by have := (hS i s hs).1; omega
  have bL := hM0.at0.1
  have bS := hM0.at0.2.1
  obtain ⟨c0, c1, c2, c3⟩ := hI.ex
  obtain ⟨DA, dc, c4, c5, c6, c7, -⟩ := hI.dat.ex
  rw [Nat.add_assoc] at c5 c6 c7
  obtain ⟨v0, Hv0⟩ : ∃ v, Box (x.f0 = v) := ⟨_, ⟨rfl⟩⟩
  obtain ⟨v1, Hv1⟩ : ∃ v, Box (x.f1 = v) := ⟨_, ⟨rfl⟩⟩
  rw [Hv0.out] at c0
  rw [Hv1.out] at c1
  generalize x.f2 = v2 at c2
  generalize x.f3 = v3 at c3
  generalize x.f4.f0 = v4 at c4
  generalize x.f4.f1 = v5 at c5
  generalize x.f4.f2 = v6 at c6
  generalize x.f4.f3.length = v8 at c7
  generalize DA = v7 at c7
  generalize dc = v9 at c7
  obtain ⟨w, hw⟩ : ∃ w, w0.alloc (.cells #[.int .i64 v0, .int .i64 v1, .int .i64 v2, .string v3, .int .i64 v4, .int .i64 v5, .string v6, .slice v7 v8 v9] 44) = w := ⟨_, rfl⟩
  have hkW : Below w0.heap.size w0 w := by rw [← hw]; exact (Below.refl _ w0).alloc (Nat.le_refl _) _
  have hblk : w.heap[w0.heap.size]? = some (.cells #[.int .i64 v0, .int .i64 v1, .int .i64 v2, .string v3, .int .i64 v4, .int .i64 v5, .string v6, .slice v7 v8 v9] 44 (0, 0)) := by rw [← hw]; exact heap_alloc_new w0 _
  obtain ⟨gx, hgx⟩ : ∃ g, w0.heap.size = g := ⟨_, rfl⟩
  have hM := hM0.below hkW
  have hB : B ≤ w.heap.size := Nat.le_trans hB0 hkW.size
  have HPre : Box (∀ k w', LqGot 56 B kb sb (.slice (some ⟨lb, lo, none⟩) n c) n S R k w w' → LqGot 56 B kb sb (.slice (some ⟨lb, lo, none⟩) n c) n S R k w0 w') := ⟨fun k w' G => G.pre (Below.mono hkW hB0) hkW.size⟩
  have i0 : w.cell? ⟨gx, 0, none⟩ = some (.int .i64 x.f0) := by rw [Hv0.out, ← hgx, cell_of_heap hblk]; rfl
  have i1 : w.cell? ⟨gx, 1, none⟩ = some (.int .i64 x.f1) := by rw [Hv1.out, ← hgx, cell_of_heap hblk]; rfl
  have HW := Box.mk hw
  have Hg := Box.mk hgx
  clear hw hgx hblk hkW
  obtain ⟨hi, hs0, hsl, hz0, hz1⟩ := hS i s hs
  have a0 := hM.at0.1
  have a1 := hM.at0.2.1
  have hslot := hM.slot hi
  rw [hs] at hslot
  simp only at hslot
  have hrow := hM.rowAt hs
  obtain ⟨r, hr⟩ : ∃ r, R i = r := ⟨_, rfl⟩
  rw [hr] at hrow hslot
  have hpos : 0 < s.length := by cases s with | nil => exact absurd rfl hs0 | cons => simp
  obtain ⟨p, hp⟩ : ∃ p, s.length = p + 1 := ⟨s.length - 1, by omega⟩
  have hcl := ownI_cell hrow (j := p) (by omega)
  rw [stop_getD s p hp] at hcl
  have hcap : p + 1 ≤ r.2 := by
    rcases hrow.2 with ⟨h1, _⟩ | ⟨g', cap', cur, hv, _, _, h2, _⟩
    · cases h1
    · simp only [Value.slice.injEq, Option.some.injEq, Addr.mk.injEq, and_true] at hv
      obtain ⟨rfl, -, rfl⟩ := hv
      omega
  obtain ⟨z, hz⟩ : ∃ z, stop s = z := ⟨_, rfl⟩
  rw [hz] at hcl hz0 hz1
  rw [hp] at hslot hsl
  have HM := Box.mk hM
  have HS := Box.mk hS
  have Hs := Box.mk hs
  have Hr := Box.mk hr
  have Hrow := Box.mk hrow
  have Hp := Box.mk hp
  have Hz := Box.mk hz
  have Hs0 := Box.mk hs0
  have hHS := Box.mk (fun j t h => (hS j t h).2.2.1)
  have hA : 0 ≤ x.f1 ∧ x.f1 < n := by
    have h2 := hx
    unfold insB at h2
    rw [hop] at h2
    simp [hop] at h2
    omega
  obtain ⟨q, hq⟩ : ∃ q : Nat, x.f1 = q := ⟨x.f1.toNat, by omega⟩
  have hq8 : q ≤ 8000 := by omega
  rw [hq] at i1
  have hF : (stNext (sIns x) i s).foldl (stCome n) ⟨S, td, bad || !stOk (sIns x) s⟩ = stCome n (stCome n ⟨S, td, bad⟩ (q, s)) (i + 1, s) := by
    simp [sIns, hop, stNext, stOk, hq]
  rw [hF]
  clear hF
  rw [hop] at i0
  have hin : (i : Int) < (n : Int) := by omega
  have hi8 : i + 1 ≤ 8000 := by omega
  clear hM hM0 hS hs hr hrow hp hz hs0 hI hx hpos hA hq
  have HC := Box.mk (come16_is HM.out hn q hq8 Hrow.out Hs0.out (by rw [Hp.out]; omega) hB (by omega) hHS.out)
  rw [Hp.out] at HC
  go_enter Tryd.func23, Tryd.ntmps23
  go_upto_region 1 with fail
  rw [HW.out, Hg.out]
  clear c0 c1 c2 c3 c4 c5 c6 c7 bL bS
  go_wp2_with fail
  refine HC.out.mono ?_
  rintro e w1 ⟨rfl, G⟩
  obtain ⟨⟨R1, tv1, hM1, hR1⟩, k1, z1⟩ := G
  have HK1 := Box.mk k1
  have HZ1 := Box.mk z1
  have HM1 := Box.mk hM1
  have HR1 := Box.mk hR1
  have hs1 := stCome_keep (n := n) (k := ⟨S, td, bad⟩) (p := (q, s)) Hs.out
  have hrow1 := hM1.rowAt hs1
  rw [hR1 i (by rw [Hs.out]; simp), Hr.out] at hrow1
  have Hrow1 := Box.mk hrow1
  have hS1 : SOk n (stCome n ⟨S, td, bad⟩ (q, s)).S := HS.out.come ⟨Hs0.out, by show 0 ≤ stop s; rw [Hz.out]; exact hz0⟩
  have ht1 := stCome_todo n ⟨S, td, bad⟩ (q, s)
  have hHS1 := Box.mk (fun j t h => (hS1 j t h).2.2.1)
  have HG := Box.mk (fun (k2 : StK) (w2 : World) (G2 : LqGot 56 B kb sb (.slice (some ⟨lb, lo, none⟩) n c) n (stCome n ⟨S, td, bad⟩ (q, s)).S R1 k2 w1 w2) => (show LqGot 56 B kb sb (.slice (some ⟨lb, lo, none⟩) n c) n S R k2 w w2 from by
    obtain ⟨⟨R2, tv2, hM2, hR2⟩, k2', z2⟩ := G2
    exact ⟨⟨R2, tv2, hM2, fun j hj => by
      obtain ⟨t, ht⟩ := Option.ne_none_iff_exists'.1 hj
      rw [hR2 j (by rw [stCome_keep (n := n) (k := ⟨S, td, bad⟩) (p := (q, s)) ht]; simp), HR1.out j hj]⟩, HK1.out.trans k2', Nat.le_trans HZ1.out z2⟩))
  clear hM1 hR1 k1 z1 hs1 hrow1 hS1 HC
  have HC2 := Box.mk (come16_is HM1.out hn (i + 1) hi8 Hrow1.out Hs0.out (by rw [Hp.out]; omega) (Nat.le_trans hB HZ1.out) (by have h7 : td.length ≤ 90000 := htd; have h8 : _ ≤ td.length + 1 := ht1; omega) hHS1.out)
  rw [Hp.out] at HC2
  have hpi : ((i + 1 : Nat) : Int) = (i : Int) + 1 := by omega
  rw [hpi] at HC2
  clear ht1
  go_wp2_with fail
  refine HC2.out.mono ?_
  rintro e w2 ⟨rfl, G2⟩
  have HG2 := Box.mk (HG.out _ _ G2)
  clear G2
  go_wp2_with fail
  go_end0
  exact ⟨rfl, HPre.out _ _ HG2.out⟩

set_option maxHeartbeats 2000000 in
set_option maxRecDepth 100000 in
theorem step_closure (hM0 : LqM 56 w0 B kb sb (.slice (some ⟨lb, lo, none⟩) n c) n S R td tv bad) (hn : n ≤ 8000) (hB0 : B ≤ w0.heap.size) (htd : td.length ≤ 90000) (hS : SOk n S) {i : Nat} {s : List Int} (hs : S i = some s) (hnc : n ≤ c)
    {x : Ins} (hI : IsI w0 lb (lo + i * 8) x) (hlB : lb < B) (hx : insB n x = true) (hop : x.f0 = 9) :
    Calls Tryd.prog 23 #[.pointer (some ⟨kb, 0, none⟩), .int .i64 i] w0 fun e w' => e = .returned (.tuple #[]) ∧
      LqGot 56 B kb sb (.slice (some ⟨lb, lo, none⟩) n c) n S R ((stNext (sIns x) i s).foldl (stCome n) ⟨S, td, bad || !stOk (sIns x) s⟩) w0 w' := by
  have hin0 : (i : Int) < (n : Int) := by have := (hS i s hs).1; omega
  have bL := hM0.at0.1
  have bS := hM0.at0.2.1
  obtain ⟨c0, c1, c2, c3⟩ := hI.ex
  obtain ⟨DA, dc, c4, c5, c6, c7, -⟩ := hI.dat.ex
  rw [Nat.add_assoc] at c5 c6 c7
  obtain ⟨v0, Hv0⟩ : ∃ v, Box (x.f0 = v) := ⟨_, ⟨rfl⟩⟩
  obtain ⟨v1, Hv1⟩ : ∃ v, Box (x.f1 = v) := ⟨_, ⟨rfl⟩⟩
  rw [Hv0.out] at c0
  rw [Hv1.out] at c1
  generalize x.f2 = v2 at c2
  generalize x.f3 = v3 at c3
  generalize x.f4.f0 = v4 at c4
  generalize x.f4.f1 = v5 at c5
  generalize x.f4.f2 = v6 at c6
  generalize x.f4.f3.length = v8 at c7
  generalize DA = v7 at c7
  generalize dc = v9 at c7
  obtain ⟨w, hw⟩ : ∃ w, w0.alloc (.cells #[.int .i64 v0, .int .i64 v1, .int .i64 v2, .string v3, .int .i64 v4, .int .i64 v5, .string v6, .slice v7 v8 v9] 44) = w := ⟨_, rfl⟩
  have hkW : Below w0.heap.size w0 w := by rw [← hw]; exact (Below.refl _ w0).alloc (Nat.le_refl _) _
  have hblk : w.heap[w0.heap.size]? = some (.cells #[.int .i64 v0, .int .i64 v1, .int .i64 v2, .string v3, .int .i64 v4, .int .i64 v5, .string v6, .slice v7 v8 v9] 44 (0, 0)) := by rw [← hw]; exact heap_alloc_new w0 _
  obtain ⟨gx, hgx⟩ : ∃ g, w0.heap.size = g := ⟨_, rfl⟩
  have hM := hM0.below hkW
  have hB : B ≤ w.heap.size := Nat.le_trans hB0 hkW.size
  have HPre : Box (∀ k w', LqGot 56 B kb sb (.slice (some ⟨lb, lo, none⟩) n c) n S R k w w' → LqGot 56 B kb sb (.slice (some ⟨lb, lo, none⟩) n c) n S R k w0 w') := ⟨fun k w' G => G.pre (Below.mono hkW hB0) hkW.size⟩
  have i0 : w.cell? ⟨gx, 0, none⟩ = some (.int .i64 x.f0) := by rw [Hv0.out, ← hgx, cell_of_heap hblk]; rfl
  have i1 : w.cell? ⟨gx, 1, none⟩ = some (.int .i64 x.f1) := by rw [Hv1.out, ← hgx, cell_of_heap hblk]; rfl
  have HW := Box.mk hw
  have Hg := Box.mk hgx
  clear hw hgx hblk hkW
  obtain ⟨hi, hs0, hsl, hz0, hz1⟩ := hS i s hs
  have a0 := hM.at0.1
  have a1 := hM.at0.2.1
  have hslot := hM.slot hi
  rw [hs] at hslot
  simp only at hslot
  have hrow := hM.rowAt hs
  obtain ⟨r, hr⟩ : ∃ r, R i = r := ⟨_, rfl⟩
  rw [hr] at hrow hslot
  have hpos : 0 < s.length := by cases s with | nil => exact absurd rfl hs0 | cons => simp
  obtain ⟨p, hp⟩ : ∃ p, s.length = p + 1 := ⟨s.length - 1, by omega⟩
  have hcl := ownI_cell hrow (j := p) (by omega)
  rw [stop_getD s p hp] at hcl
  have hcap : p + 1 ≤ r.2 := by
    rcases hrow.2 with ⟨h1, _⟩ | ⟨g', cap', cur, hv, _, _, h2, _⟩
    · cases h1
    · simp only [Value.slice.injEq, Option.some.injEq, Addr.mk.injEq, and_true] at hv
      obtain ⟨rfl, -, rfl⟩ := hv
      omega
  obtain ⟨z, hz⟩ : ∃ z, stop s = z := ⟨_, rfl⟩
  rw [hz] at hcl hz0 hz1
  rw [hp] at hslot hsl
  have HM := Box.mk hM
  have HS := Box.mk hS
  have Hs := Box.mk hs
  have Hr := Box.mk hr
  have Hrow := Box.mk hrow
  have Hp := Box.mk hp
  have Hz := Box.mk hz
  have Hs0 := Box.mk hs0
  have hHS := Box.mk (fun j t h => (hS j t h).2.2.1)
  have hA : 0 ≤ x.f1 ∧ x.f1 < n := by
    have h2 := hx
    unfold insB at h2
    rw [hop] at h2
    simp [hop] at h2
    omega
  obtain ⟨q, hq⟩ : ∃ q : Nat, x.f1 = q := ⟨x.f1.toNat, by omega⟩
  have hq8 : q ≤ 8000 := by omega
  rw [hq] at i1
  have hF : (stNext (sIns x) i s).foldl (stCome n) ⟨S, td, bad || !stOk (sIns x) s⟩ = stCome n (stCome n ⟨S, td, bad⟩ (q, [0])) (i + 1, s) := by
    simp [sIns, hop, stNext, stOk, hq]
  rw [hF]
  clear hF
  rw [hop] at i0
  have hin : (i : Int) < (n : Int) := by omega
  have hi8 : i + 1 ≤ 8000 := by omega
  clear hM hM0 hS hs hr hrow hp hz hs0 hI hx hpos hA hq
  have hA : Below w.heap.size w (w.alloc (.cells #[.int .i64 0] 3)) := (Below.refl _ w).alloc (Nat.le_refl _) _
  have HA := Box.mk hA
  have hlit : ownI (w.alloc (.cells #[.int .i64 0] 3)) 0 w.heap.size 1 [0] := by
    have := World.ownsRow_lit (base := 0) (e := 3) (size := 1) w #[.int .i64 0] 1 (Nat.zero_le _) (by decide) rfl
    exact this
  have HC := Box.mk (come16_is (HM.out.below hA) hn q hq8 hlit (by simp) (by simp) (Nat.le_trans hB hA.size) (by omega) hHS.out)
  clear hlit hA
  go_enter Tryd.func23, Tryd.ntmps23
  go_upto_region 1 with fail
  rw [HW.out, Hg.out]
  clear c0 c1 c2 c3 c4 c5 c6 c7 bL bS
  go_wp2_with fail
  refine HC.out.mono ?_
  rintro e w1 ⟨rfl, G0⟩
  have G := G0.pre (Below.mono HA.out hB) HA.out.size
  clear G0
  obtain ⟨⟨R1, tv1, hM1, hR1⟩, k1, z1⟩ := G
  have HK1 := Box.mk k1
  have HZ1 := Box.mk z1
  have HM1 := Box.mk hM1
  have HR1 := Box.mk hR1
  have hs1 := stCome_keep (n := n) (k := ⟨S, td, bad⟩) (p := (q, [0])) Hs.out
  have hrow1 := hM1.rowAt hs1
  rw [hR1 i (by rw [Hs.out]; simp), Hr.out] at hrow1
  have Hrow1 := Box.mk hrow1
  have hS1 : SOk n (stCome n ⟨S, td, bad⟩ (q, [0])).S := HS.out.come ⟨by simp, by show (0 : Int) ≤ stop [0]; decide⟩
  have ht1 := stCome_todo n ⟨S, td, bad⟩ (q, [0])
  have hHS1 := Box.mk (fun j t h => (hS1 j t h).2.2.1)
  have HG := Box.mk (fun (k2 : StK) (w2 : World) (G2 : LqGot 56 B kb sb (.slice (some ⟨lb, lo, none⟩) n c) n (stCome n ⟨S, td, bad⟩ (q, [0])).S R1 k2 w1 w2) => (show LqGot 56 B kb sb (.slice (some ⟨lb, lo, none⟩) n c) n S R k2 w w2 from by
    obtain ⟨⟨R2, tv2, hM2, hR2⟩, k2', z2⟩ := G2
    exact ⟨⟨R2, tv2, hM2, fun j hj => by
      obtain ⟨t, ht⟩ := Option.ne_none_iff_exists'.1 hj
      rw [hR2 j (by rw [stCome_keep (n := n) (k := ⟨S, td, bad⟩) (p := (q, [0])) ht]; simp), HR1.out j hj]⟩, HK1.out.trans k2', Nat.le_trans HZ1.out z2⟩))
  clear hM1 hR1 k1 z1 hs1 hrow1 hS1 HC
  have HC2 := Box.mk (come16_is HM1.out hn (i + 1) hi8 Hrow1.out Hs0.out (by rw [Hp.out]; omega) (Nat.le_trans hB HZ1.out) (by have h7 : td.length ≤ 90000 := htd; have h8 : _ ≤ td.length + 1 := ht1; omega) hHS1.out)
  rw [Hp.out] at HC2
  have hpi : ((i + 1 : Nat) : Int) = (i : Int) + 1 := by omega
  rw [hpi] at HC2
  clear ht1
  go_wp2_with fail
  refine HC2.out.mono ?_
  rintro e w2 ⟨rfl, G2⟩
  have HG2 := Box.mk (HG.out _ _ G2)
  clear G2
  go_wp2_with fail
  go_end0
  exact ⟨rfl, HPre.out _ _ HG2.out⟩

set_option maxHeartbeats 2000000 in
set_option maxRecDepth 100000 in
theorem step_on1 (hM0 : LqM 56 w0 B kb sb (.slice (some ⟨lb, lo, none⟩) n c) n S R td tv bad) (hn : n ≤ 8000) (hB0 : B ≤ w0.heap.size) (htd : td.length ≤ 90000) (hS : SOk n S) {i : Nat} {s : List Int} (hs : S i = some s) (hnc : n ≤ c)
    {x : Ins} (hI : IsI w0 lb (lo + i * 8) x) (hlB : lb < B) (hx : insB n x = true) (hop : x.f0 = 1) :
    Calls Tryd.prog 23 #[.pointer (some ⟨kb, 0, none⟩), .int .i64 i] w0 fun e w' => e = .returned (.tuple #[]) ∧
      LqGot 56 B kb sb (.slice (some ⟨lb, lo, none⟩) n c) n S R ((stNext (sIns x) i s).foldl (stCome n) ⟨S, td, bad || !stOk (sIns x) s⟩) w0 w' := by
  have hin0 : (i : Int) < (n : Int) := by have := (hS i s hs).1; omega
  have bL := hM0.at0.1
  have bS := hM0.at0.2.1
  obtain ⟨c0, c1, c2, c3⟩ := hI.ex
  obtain ⟨DA, dc, c4, c5, c6, c7, -⟩ := hI.dat.ex
  rw [Nat.add_assoc] at c5 c6 c7
  obtain ⟨v0, Hv0⟩ : ∃ v, Box (x.f0 = v) := ⟨_, ⟨rfl⟩⟩
  obtain ⟨v1, Hv1⟩ : ∃ v, Box (x.f1 = v) := ⟨_, ⟨rfl⟩⟩
  rw [Hv0.out] at c0
  rw [Hv1.out] at c1
  generalize x.f2 = v2 at c2
  generalize x.f3 = v3 at c3
  generalize x.f4.f0 = v4 at c4
  generalize x.f4.f1 = v5 at c5
  generalize x.f4.f2 = v6 at c6
  generalize x.f4.f3.length = v8 at c7
  generalize DA = v7 at c7
  generalize dc = v9 at c7
  obtain ⟨w, hw⟩ : ∃ w, w0.alloc (.cells #[.int .i64 v0, .int .i64 v1, .int .i64 v2, .string v3, .int .i64 v4, .int .i64 v5, .string v6, .slice v7 v8 v9] 44) = w := ⟨_, rfl⟩
  have hkW : Below w0.heap.size w0 w := by rw [← hw]; exact (Below.refl _ w0).alloc (Nat.le_refl _) _
  have hblk : w.heap[w0.heap.size]? = some (.cells #[.int .i64 v0, .int .i64 v1, .int .i64 v2, .string v3, .int .i64 v4, .int .i64 v5, .string v6, .slice v7 v8 v9] 44 (0, 0)) := by rw [← hw]; exact heap_alloc_new w0 _
  obtain ⟨gx, hgx⟩ : ∃ g, w0.heap.size = g := ⟨_, rfl⟩
  have hM := hM0.below hkW
  have hB : B ≤ w.heap.size := Nat.le_trans hB0 hkW.size
  have HPre : Box (∀ k w', LqGot 56 B kb sb (.slice (some ⟨lb, lo, none⟩) n c) n S R k w w' → LqGot 56 B kb sb (.slice (some ⟨lb, lo, none⟩) n c) n S R k w0 w') := ⟨fun k w' G => G.pre (Below.mono hkW hB0) hkW.size⟩
  have i0 : w.cell? ⟨gx, 0, none⟩ = some (.int .i64 x.f0) := by rw [Hv0.out, ← hgx, cell_of_heap hblk]; rfl
  have i1 : w.cell? ⟨gx, 1, none⟩ = some (.int .i64 x.f1) := by rw [Hv1.out, ← hgx, cell_of_heap hblk]; rfl
  have HW := Box.mk hw
  have Hg := Box.mk hgx
  clear hw hgx hblk hkW
  obtain ⟨hi, hs0, hsl, hz0, hz1⟩ := hS i s hs
  have a0 := hM.at0.1
  have a1 := hM.at0.2.1
  have hslot := hM.slot hi
  rw [hs] at hslot
  simp only at hslot
  have hrow := hM.rowAt hs
  obtain ⟨r, hr⟩ : ∃ r, R i = r := ⟨_, rfl⟩
  rw [hr] at hrow hslot
  have hpos : 0 < s.length := by cases s with | nil => exact absurd rfl hs0 | cons => simp
  obtain ⟨p, hp⟩ : ∃ p, s.length = p + 1 := ⟨s.length - 1, by omega⟩
  have hcl := ownI_cell hrow (j := p) (by omega)
  rw [stop_getD s p hp] at hcl
  have hcap : p + 1 ≤ r.2 := by
    rcases hrow.2 with ⟨h1, _⟩ | ⟨g', cap', cur, hv, _, _, h2, _⟩
    · cases h1
    · simp only [Value.slice.injEq, Option.some.injEq, Addr.mk.injEq, and_true] at hv
      obtain ⟨rfl, -, rfl⟩ := hv
      omega
  obtain ⟨z, hz⟩ : ∃ z, stop s = z := ⟨_, rfl⟩
  rw [hz] at hcl hz0 hz1
  rw [hp] at hslot hsl
  have HM := Box.mk hM
  have HS := Box.mk hS
  have Hs := Box.mk hs
  have Hr := Box.mk hr
  have Hrow := Box.mk hrow
  have Hp := Box.mk hp
  have Hz := Box.mk hz
  have Hs0 := Box.mk hs0
  have hHS := Box.mk (fun j t h => (hS j t h).2.2.1)
  have hF : (stNext (sIns x) i s).foldl (stCome n) ⟨S, td, bad || !stOk (sIns x) s⟩ = stCome n ⟨S, td, bad⟩ (i + 1, s) := by
    simp [sIns, hop, stNext, stOk]
  rw [hF]
  clear hF
  rw [hop] at i0
  have hin : (i : Int) < (n : Int) := by omega
  have hi8 : i + 1 ≤ 8000 := by omega
  clear hM hM0 hS hs hr hrow hp hz hs0 hI hx hpos
  have HC := Box.mk (come16_is HM.out hn (i + 1) hi8 Hrow.out Hs0.out (by rw [Hp.out]; omega) hB (by omega) hHS.out)
  rw [Hp.out] at HC
  have hpi : ((i + 1 : Nat) : Int) = (i : Int) + 1 := by omega
  rw [hpi] at HC
  go_enter Tryd.func23, Tryd.ntmps23
  go_upto_region 1 with fail
  rw [HW.out, Hg.out]
  clear c0 c1 c2 c3 c4 c5 c6 c7 bL bS
  go_wp2_with fail
  refine HC.out.mono ?_
  rintro e w1 ⟨rfl, G⟩
  go_wp2_with fail
  go_end0
  exact ⟨rfl, HPre.out _ _ G⟩

set_option maxHeartbeats 2000000 in
set_option maxRecDepth 100000 in
theorem step_on2 (hM0 : LqM 56 w0 B kb sb (.slice (some ⟨lb, lo, none⟩) n c) n S R td tv bad) (hn : n ≤ 8000) (hB0 : B ≤ w0.heap.size) (htd : td.length ≤ 90000) (hS : SOk n S) {i : Nat} {s : List Int} (hs : S i = some s) (hnc : n ≤ c)
    {x : Ins} (hI : IsI w0 lb (lo + i * 8) x) (hlB : lb < B) (hx : insB n x = true) (hop : x.f0 = 2) :
    Calls Tryd.prog 23 #[.pointer (some ⟨kb, 0, none⟩), .int .i64 i] w0 fun e w' => e = .returned (.tuple #[]) ∧
      LqGot 56 B kb sb (.slice (some ⟨lb, lo, none⟩) n c) n S R ((stNext (sIns x) i s).foldl (stCome n) ⟨S, td, bad || !stOk (sIns x) s⟩) w0 w' := by
  have hin0 : (i : Int) < (n : Int) := by have := (hS i s hs).1; omega
  have bL := hM0.at0.1
  have bS := hM0.at0.2.1
  obtain ⟨c0, c1, c2, c3⟩ := hI.ex
  obtain ⟨DA, dc, c4, c5, c6, c7, -⟩ := hI.dat.ex
  rw [Nat.add_assoc] at c5 c6 c7
  obtain ⟨v0, Hv0⟩ : ∃ v, Box (x.f0 = v) := ⟨_, ⟨rfl⟩⟩
  obtain ⟨v1, Hv1⟩ : ∃ v, Box (x.f1 = v) := ⟨_, ⟨rfl⟩⟩
  rw [Hv0.out] at c0
  rw [Hv1.out] at c1
  generalize x.f2 = v2 at c2
  generalize x.f3 = v3 at c3
  generalize x.f4.f0 = v4 at c4
  generalize x.f4.f1 = v5 at c5
  generalize x.f4.f2 = v6 at c6
  generalize x.f4.f3.length = v8 at c7
  generalize DA = v7 at c7
  generalize dc = v9 at c7
  obtain ⟨w, hw⟩ : ∃ w, w0.alloc (.cells #[.int .i64 v0, .int .i64 v1, .int .i64 v2, .string v3, .int .i64 v4, .int .i64 v5, .string v6, .slice v7 v8 v9] 44) = w := ⟨_, rfl⟩
  have hkW : Below w0.heap.size w0 w := by rw [← hw]; exact (Below.refl _ w0).alloc (Nat.le_refl _) _
  have hblk : w.heap[w0.heap.size]? = some (.cells #[.int .i64 v0, .int .i64 v1, .int .i64 v2, .string v3, .int .i64 v4, .int .i64 v5, .string v6, .slice v7 v8 v9] 44 (0, 0)) := by rw [← hw]; exact heap_alloc_new w0 _
  obtain ⟨gx, hgx⟩ : ∃ g, w0.heap.size = g := ⟨_, rfl⟩
  have hM := hM0.below hkW
  have hB : B ≤ w.heap.size := Nat.le_trans hB0 hkW.size
  have HPre : Box (∀ k w', LqGot 56 B kb sb (.slice (some ⟨lb, lo, none⟩) n c) n S R k w w' → LqGot 56 B kb sb (.slice (some ⟨lb, lo, none⟩) n c) n S R k w0 w') := ⟨fun k w' G => G.pre (Below.mono hkW hB0) hkW.size⟩
  have i0 : w.cell? ⟨gx, 0, none⟩ = some (.int .i64 x.f0) := by rw [Hv0.out, ← hgx, cell_of_heap hblk]; rfl
  have i1 : w.cell? ⟨gx, 1, none⟩ = some (.int .i64 x.f1) := by rw [Hv1.out, ← hgx, cell_of_heap hblk]; rfl
  have HW := Box.mk hw
  have Hg := Box.mk hgx
  clear hw hgx hblk hkW
  obtain ⟨hi, hs0, hsl, hz0, hz1⟩ := hS i s hs
  have a0 := hM.at0.1
  have a1 := hM.at0.2.1
  have hslot := hM.slot hi
  rw [hs] at hslot
  simp only at hslot
  have hrow := hM.rowAt hs
  obtain ⟨r, hr⟩ : ∃ r, R i = r := ⟨_, rfl⟩
  rw [hr] at hrow hslot
  have hpos : 0 < s.length := by cases s with | nil => exact absurd rfl hs0 | cons => simp
  obtain ⟨p, hp⟩ : ∃ p, s.length = p + 1 := ⟨s.length - 1, by omega⟩
  have hcl := ownI_cell hrow (j := p) (by omega)
  rw [stop_getD s p hp] at hcl
  have hcap : p + 1 ≤ r.2 := by
    rcases hrow.2 with ⟨h1, _⟩ | ⟨g', cap', cur, hv, _, _, h2, _⟩
    · cases h1
    · simp only [Value.slice.injEq, Option.some.injEq, Addr.mk.injEq, and_true] at hv
      obtain ⟨rfl, -, rfl⟩ := hv
      omega
  obtain ⟨z, hz⟩ : ∃ z, stop s = z := ⟨_, rfl⟩
  rw [hz] at hcl hz0 hz1
  rw [hp] at hslot hsl
  have HM := Box.mk hM
  have HS := Box.mk hS
  have Hs := Box.mk hs
  have Hr := Box.mk hr
  have Hrow := Box.mk hrow
  have Hp := Box.mk hp
  have Hz := Box.mk hz
  have Hs0 := Box.mk hs0
  have hHS := Box.mk (fun j t h => (hS j t h).2.2.1)
  have hF : (stNext (sIns x) i s).foldl (stCome n) ⟨S, td, bad || !stOk (sIns x) s⟩ = stCome n ⟨S, td, bad⟩ (i + 1, s) := by
    simp [sIns, hop, stNext, stOk]
  rw [hF]
  clear hF
  rw [hop] at i0
  have hin : (i : Int) < (n : Int) := by omega
  have hi8 : i + 1 ≤ 8000 := by omega
  clear hM hM0 hS hs hr hrow hp hz hs0 hI hx hpos
  have HC := Box.mk (come16_is HM.out hn (i + 1) hi8 Hrow.out Hs0.out (by rw [Hp.out]; omega) hB (by omega) hHS.out)
  rw [Hp.out] at HC
  have hpi : ((i + 1 : Nat) : Int) = (i : Int) + 1 := by omega
  rw [hpi] at HC
  go_enter Tryd.func23, Tryd.ntmps23
  go_upto_region 1 with fail
  rw [HW.out, Hg.out]
  clear c0 c1 c2 c3 c4 c5 c6 c7 bL bS
  go_wp2_with fail
  refine HC.out.mono ?_
  rintro e w1 ⟨rfl, G⟩
  go_wp2_with fail
  go_end0
  exact ⟨rfl, HPre.out _ _ G⟩

set_option maxHeartbeats 2000000 in
set_option maxRecDepth 100000 in
theorem step_on3 (hM0 : LqM 56 w0 B kb sb (.slice (some ⟨lb, lo, none⟩) n c) n S R td tv bad) (hn : n ≤ 8000) (hB0 : B ≤ w0.heap.size) (htd : td.length ≤ 90000) (hS : SOk n S) {i : Nat} {s : List Int} (hs : S i = some s) (hnc : n ≤ c)
    {x : Ins} (hI : IsI w0 lb (lo + i * 8) x) (hlB : lb < B) (hx : insB n x = true) (hop : x.f0 = 3) :
    Calls Tryd.prog 23 #[.pointer (some ⟨kb, 0, none⟩), .int .i64 i] w0 fun e w' => e = .returned (.tuple #[]) ∧
      LqGot 56 B kb sb (.slice (some ⟨lb, lo, none⟩) n c) n S R ((stNext (sIns x) i s).foldl (stCome n) ⟨S, td, bad || !stOk (sIns x) s⟩) w0 w' := by
  have hin0 : (i : Int) < (n : Int) := by have := (hS i s hs).1; omega
  have bL := hM0.at0.1
  have bS := hM0.at0.2.1
  obtain ⟨c0, c1, c2, c3⟩ := hI.ex
  obtain ⟨DA, dc, c4, c5, c6, c7, -⟩ := hI.dat.ex
  rw [Nat.add_assoc] at c5 c6 c7
  obtain ⟨v0, Hv0⟩ : ∃ v, Box (x.f0 = v) := ⟨_, ⟨rfl⟩⟩
  obtain ⟨v1, Hv1⟩ : ∃ v, Box (x.f1 = v) := ⟨_, ⟨rfl⟩⟩
  rw [Hv0.out] at c0
  rw [Hv1.out] at c1
  generalize x.f2 = v2 at c2
  generalize x.f3 = v3 at c3
  generalize x.f4.f0 = v4 at c4
  generalize x.f4.f1 = v5 at c5
  generalize x.f4.f2 = v6 at c6
  generalize x.f4.f3.length = v8 at c7
  generalize DA = v7 at c7
  generalize dc = v9 at c7
  obtain ⟨w, hw⟩ : ∃ w, w0.alloc (.cells #[.int .i64 v0, .int .i64 v1, .int .i64 v2, .string v3, .int .i64 v4, .int .i64 v5, .string v6, .slice v7 v8 v9] 44) = w := ⟨_, rfl⟩
  have hkW : Below w0.heap.size w0 w := by rw [← hw]; exact (Below.refl _ w0).alloc (Nat.le_refl _) _
  have hblk : w.heap[w0.heap.size]? = some (.cells #[.int .i64 v0, .int .i64 v1, .int .i64 v2, .string v3, .int .i64 v4, .int .i64 v5, .string v6, .slice v7 v8 v9] 44 (0, 0)) := by rw [← hw]; exact heap_alloc_new w0 _
  obtain ⟨gx, hgx⟩ : ∃ g, w0.heap.size = g := ⟨_, rfl⟩
  have hM := hM0.below hkW
  have hB : B ≤ w.heap.size := Nat.le_trans hB0 hkW.size
  have HPre : Box (∀ k w', LqGot 56 B kb sb (.slice (some ⟨lb, lo, none⟩) n c) n S R k w w' → LqGot 56 B kb sb (.slice (some ⟨lb, lo, none⟩) n c) n S R k w0 w') := ⟨fun k w' G => G.pre (Below.mono hkW hB0) hkW.size⟩
  have i0 : w.cell? ⟨gx, 0, none⟩ = some (.int .i64 x.f0) := by rw [Hv0.out, ← hgx, cell_of_heap hblk]; rfl
  have i1 : w.cell? ⟨gx, 1, none⟩ = some (.int .i64 x.f1) := by rw [Hv1.out, ← hgx, cell_of_heap hblk]; rfl
  have HW := Box.mk hw
  have Hg := Box.mk hgx
  clear hw hgx hblk hkW
  obtain ⟨hi, hs0, hsl, hz0, hz1⟩ := hS i s hs
  have a0 := hM.at0.1
  have a1 := hM.at0.2.1
  have hslot := hM.slot hi
  rw [hs] at hslot
  simp only at hslot
  have hrow := hM.rowAt hs
  obtain ⟨r, hr⟩ : ∃ r, R i = r := ⟨_, rfl⟩
  rw [hr] at hrow hslot
  have hpos : 0 < s.length := by cases s with | nil => exact absurd rfl hs0 | cons => simp
  obtain ⟨p, hp⟩ : ∃ p, s.length = p + 1 := ⟨s.length - 1, by omega⟩
  have hcl := ownI_cell hrow (j := p) (by omega)
  rw [stop_getD s p hp] at hcl
  have hcap : p + 1 ≤ r.2 := by
    rcases hrow.2 with ⟨h1, _⟩ | ⟨g', cap', cur, hv, _, _, h2, _⟩
    · cases h1
    · simp only [Value.slice.injEq, Option.some.injEq, Addr.mk.injEq, and_true] at hv
      obtain ⟨rfl, -, rfl⟩ := hv
      omega
  obtain ⟨z, hz⟩ : ∃ z, stop s = z := ⟨_, rfl⟩
  rw [hz] at hcl hz0 hz1
  rw [hp] at hslot hsl
  have HM := Box.mk hM
  have HS := Box.mk hS
  have Hs := Box.mk hs
  have Hr := Box.mk hr
  have Hrow := Box.mk hrow
  have Hp := Box.mk hp
  have Hz := Box.mk hz
  have Hs0 := Box.mk hs0
  have hHS := Box.mk (fun j t h => (hS j t h).2.2.1)
  have hF : (stNext (sIns x) i s).foldl (stCome n) ⟨S, td, bad || !stOk (sIns x) s⟩ = stCome n ⟨S, td, bad⟩ (i + 1, s) := by
    simp [sIns, hop, stNext, stOk]
  rw [hF]
  clear hF
  rw [hop] at i0
  have hin : (i : Int) < (n : Int) := by omega
  have hi8 : i + 1 ≤ 8000 := by omega
  clear hM hM0 hS hs hr hrow hp hz hs0 hI hx hpos
  have HC := Box.mk (come16_is HM.out hn (i + 1) hi8 Hrow.out Hs0.out (by rw [Hp.out]; omega) hB (by omega) hHS.out)
  rw [Hp.out] at HC
  have hpi : ((i + 1 : Nat) : Int) = (i : Int) + 1 := by omega
  rw [hpi] at HC
  go_enter Tryd.func23, Tryd.ntmps23
  go_upto_region 1 with fail
  rw [HW.out, Hg.out]
  clear c0 c1 c2 c3 c4 c5 c6 c7 bL bS
  go_wp2_with fail
  refine HC.out.mono ?_
  rintro e w1 ⟨rfl, G⟩
  go_wp2_with fail
  go_end0
  exact ⟨rfl, HPre.out _ _ G⟩

set_option maxHeartbeats 2000000 in
set_option maxRecDepth 100000 in
theorem step_on4 (hM0 : LqM 56 w0 B kb sb (.slice (some ⟨lb, lo, none⟩) n c) n S R td tv bad) (hn : n ≤ 8000) (hB0 : B ≤ w0.heap.size) (htd : td.length ≤ 90000) (hS : SOk n S) {i : Nat} {s : List Int} (hs : S i = some s) (hnc : n ≤ c)
    {x : Ins} (hI : IsI w0 lb (lo + i * 8) x) (hlB : lb < B) (hx : insB n x = true) (hop : x.f0 = 4) :
    Calls Tryd.prog 23 #[.pointer (some ⟨kb, 0, none⟩), .int .i64 i] w0 fun e w' => e = .returned (.tuple #[]) ∧
      LqGot 56 B kb sb (.slice (some ⟨lb, lo, none⟩) n c) n S R ((stNext (sIns x) i s).foldl (stCome n) ⟨S, td, bad || !stOk (sIns x) s⟩) w0 w' := by
  have hin0 : (i : Int) < (n : Int) := by have := (hS i s hs).1; omega
  have bL := hM0.at0.1
  have bS := hM0.at0.2.1
  obtain ⟨c0, c1, c2, c3⟩ := hI.ex
  obtain ⟨DA, dc, c4, c5, c6, c7, -⟩ := hI.dat.ex
  rw [Nat.add_assoc] at c5 c6 c7
  obtain ⟨v0, Hv0⟩ : ∃ v, Box (x.f0 = v) := ⟨_, ⟨rfl⟩⟩
  obtain ⟨v1, Hv1⟩ : ∃ v, Box (x.f1 = v) := ⟨_, ⟨rfl⟩⟩
  rw [Hv0.out] at c0
  rw [Hv1.out] at c1
  generalize x.f2 = v2 at c2
  generalize x.f3 = v3 at c3
  generalize x.f4.f0 = v4 at c4
  generalize x.f4.f1 = v5 at c5
  generalize x.f4.f2 = v6 at c6
  generalize x.f4.f3.length = v8 at c7
  generalize DA = v7 at c7
  generalize dc = v9 at c7
  obtain ⟨w, hw⟩ : ∃ w, w0.alloc (.cells #[.int .i64 v0, .int .i64 v1, .int .i64 v2, .string v3, .int .i64 v4, .int .i64 v5, .string v6, .slice v7 v8 v9] 44) = w := ⟨_, rfl⟩
  have hkW : Below w0.heap.size w0 w := by rw [← hw]; exact (Below.refl _ w0).alloc (Nat.le_refl _) _
  have hblk : w.heap[w0.heap.size]? = some (.cells #[.int .i64 v0, .int .i64 v1, .int .i64 v2, .string v3, .int .i64 v4, .int .i64 v5, .string v6, .slice v7 v8 v9] 44 (0, 0)) := by rw [← hw]; exact heap_alloc_new w0 _
  obtain ⟨gx, hgx⟩ : ∃ g, w0.heap.size = g := ⟨_, rfl⟩
  have hM := hM0.below hkW
  have hB : B ≤ w.heap.size := Nat.le_trans hB0 hkW.size
  have HPre : Box (∀ k w', LqGot 56 B kb sb (.slice (some ⟨lb, lo, none⟩) n c) n S R k w w' → LqGot 56 B kb sb (.slice (some ⟨lb, lo, none⟩) n c) n S R k w0 w') := ⟨fun k w' G => G.pre (Below.mono hkW hB0) hkW.size⟩
  have i0 : w.cell? ⟨gx, 0, none⟩ = some (.int .i64 x.f0) := by rw [Hv0.out, ← hgx, cell_of_heap hblk]; rfl
  have i1 : w.cell? ⟨gx, 1, none⟩ = some (.int .i64 x.f1) := by rw [Hv1.out, ← hgx, cell_of_heap hblk]; rfl
  have HW := Box.mk hw
  have Hg := Box.mk hgx
  clear hw hgx hblk hkW
  obtain ⟨hi, hs0, hsl, hz0, hz1⟩ := hS i s hs
  have a0 := hM.at0.1
  have a1 := hM.at0.2.1
  have hslot := hM.slot hi
  rw [hs] at hslot
  simp only at hslot
  have hrow := hM.rowAt hs
  obtain ⟨r, hr⟩ : ∃ r, R i = r := ⟨_, rfl⟩
  rw [hr] at hrow hslot
  have hpos : 0 < s.length := by cases s with | nil => exact absurd rfl hs0 | cons => simp
  obtain ⟨p, hp⟩ : ∃ p, s.length = p + 1 := ⟨s.length - 1, by omega⟩
  have hcl := ownI_cell hrow (j := p) (by omega)
  rw [stop_getD s p hp] at hcl
  have hcap : p + 1 ≤ r.2 := by
    rcases hrow.2 with ⟨h1, _⟩ | ⟨g', cap', cur, hv, _, _, h2, _⟩
    · cases h1
    · simp only [Value.slice.injEq, Option.some.injEq, Addr.mk.injEq, and_true] at hv
      obtain ⟨rfl, -, rfl⟩ := hv
      omega
  obtain ⟨z, hz⟩ : ∃ z, stop s = z := ⟨_, rfl⟩
  rw [hz] at hcl hz0 hz1
  rw [hp] at hslot hsl
  have HM := Box.mk hM
  have HS := Box.mk hS
  have Hs := Box.mk hs
  have Hr := Box.mk hr
  have Hrow := Box.mk hrow
  have Hp := Box.mk hp
  have Hz := Box.mk hz
  have Hs0 := Box.mk hs0
  have hHS := Box.mk (fun j t h => (hS j t h).2.2.1)
  have hF : (stNext (sIns x) i s).foldl (stCome n) ⟨S, td, bad || !stOk (sIns x) s⟩ = stCome n ⟨S, td, bad⟩ (i + 1, s) := by
    simp [sIns, hop, stNext, stOk]
  rw [hF]
  clear hF
  rw [hop] at i0
  have hin : (i : Int) < (n : Int) := by omega
  have hi8 : i + 1 ≤ 8000 := by omega
  clear hM hM0 hS hs hr hrow hp hz hs0 hI hx hpos
  have HC := Box.mk (come16_is HM.out hn (i + 1) hi8 Hrow.out Hs0.out (by rw [Hp.out]; omega) hB (by omega) hHS.out)
  rw [Hp.out] at HC
  have hpi : ((i + 1 : Nat) : Int) = (i : Int) + 1 := by omega
  rw [hpi] at HC
  go_enter Tryd.func23, Tryd.ntmps23
  go_upto_region 1 with fail
  rw [HW.out, Hg.out]
  clear c0 c1 c2 c3 c4 c5 c6 c7 bL bS
  go_wp2_with fail
  refine HC.out.mono ?_
  rintro e w1 ⟨rfl, G⟩
  go_wp2_with fail
  go_end0
  exact ⟨rfl, HPre.out _ _ G⟩

set_option maxHeartbeats 2000000 in
set_option maxRecDepth 100000 in
theorem step_on5 (hM0 : LqM 56 w0 B kb sb (.slice (some ⟨lb, lo, none⟩) n c) n S R td tv bad) (hn : n ≤ 8000) (hB0 : B ≤ w0.heap.size) (htd : td.length ≤ 90000) (hS : SOk n S) {i : Nat} {s : List Int} (hs : S i = some s) (hnc : n ≤ c)
    {x : Ins} (hI : IsI w0 lb (lo + i * 8) x) (hlB : lb < B) (hx : insB n x = true) (hop : x.f0 = 5) :
    Calls Tryd.prog 23 #[.pointer (some ⟨kb, 0, none⟩), .int .i64 i] w0 fun e w' => e = .returned (.tuple #[]) ∧
      LqGot 56 B kb sb (.slice (some ⟨lb, lo, none⟩) n c) n S R ((stNext (sIns x) i s).foldl (stCome n) ⟨S, td, bad || !stOk (sIns x) s⟩) w0 w' := by
  have hin0 : (i : Int) < (n : Int) := by have := (hS i s hs).1; omega
  have bL := hM0.at0.1
  have bS := hM0.at0.2.1
  obtain ⟨c0, c1, c2, c3⟩ := hI.ex
  obtain ⟨DA, dc, c4, c5, c6, c7, -⟩ := hI.dat.ex
  rw [Nat.add_assoc] at c5 c6 c7
  obtain ⟨v0, Hv0⟩ : ∃ v, Box (x.f0 = v) := ⟨_, ⟨rfl⟩⟩
  obtain ⟨v1, Hv1⟩ : ∃ v, Box (x.f1 = v) := ⟨_, ⟨rfl⟩⟩
  rw [Hv0.out] at c0
  rw [Hv1.out] at c1
  generalize x.f2 = v2 at c2
  generalize x.f3 = v3 at c3
  generalize x.f4.f0 = v4 at c4
  generalize x.f4.f1 = v5 at c5
  generalize x.f4.f2 = v6 at c6
  generalize x.f4.f3.length = v8 at c7
  generalize DA = v7 at c7
  generalize dc = v9 at c7
  obtain ⟨w, hw⟩ : ∃ w, w0.alloc (.cells #[.int .i64 v0, .int .i64 v1, .int .i64 v2, .string v3, .int .i64 v4, .int .i64 v5, .string v6, .slice v7 v8 v9] 44) = w := ⟨_, rfl⟩
  have hkW : Below w0.heap.size w0 w := by rw [← hw]; exact (Below.refl _ w0).alloc (Nat.le_refl _) _
  have hblk : w.heap[w0.heap.size]? = some (.cells #[.int .i64 v0, .int .i64 v1, .int .i64 v2, .string v3, .int .i64 v4, .int .i64 v5, .string v6, .slice v7 v8 v9] 44 (0, 0)) := by rw [← hw]; exact heap_alloc_new w0 _
  obtain ⟨gx, hgx⟩ : ∃ g, w0.heap.size = g := ⟨_, rfl⟩
  have hM := hM0.below hkW
  have hB : B ≤ w.heap.size := Nat.le_trans hB0 hkW.size
  have HPre : Box (∀ k w', LqGot 56 B kb sb (.slice (some ⟨lb, lo, none⟩) n c) n S R k w w' → LqGot 56 B kb sb (.slice (some ⟨lb, lo, none⟩) n c) n S R k w0 w') := ⟨fun k w' G => G.pre (Below.mono hkW hB0) hkW.size⟩
  have i0 : w.cell? ⟨gx, 0, none⟩ = some (.int .i64 x.f0) := by rw [Hv0.out, ← hgx, cell_of_heap hblk]; rfl
  have i1 : w.cell? ⟨gx, 1, none⟩ = some (.int .i64 x.f1) := by rw [Hv1.out, ← hgx, cell_of_heap hblk]; rfl
  have HW := Box.mk hw
  have Hg := Box.mk hgx
  clear hw hgx hblk hkW
  obtain ⟨hi, hs0, hsl, hz0, hz1⟩ := hS i s hs
  have a0 := hM.at0.1
  have a1 := hM.at0.2.1
  have hslot := hM.slot hi
  rw [hs] at hslot
  simp only at hslot
  have hrow := hM.rowAt hs
  obtain ⟨r, hr⟩ : ∃ r, R i = r := ⟨_, rfl⟩
  rw [hr] at hrow hslot
  have hpos : 0 < s.length := by cases s with | nil => exact absurd rfl hs0 | cons => simp
  obtain ⟨p, hp⟩ : ∃ p, s.length = p + 1 := ⟨s.length - 1, by omega⟩
  have hcl := ownI_cell hrow (j := p) (by omega)
  rw [stop_getD s p hp] at hcl
  have hcap : p + 1 ≤ r.2 := by
    rcases hrow.2 with ⟨h1, _⟩ | ⟨g', cap', cur, hv, _, _, h2, _⟩
    · cases h1
    · simp only [Value.slice.injEq, Option.some.injEq, Addr.mk.injEq, and_true] at hv
      obtain ⟨rfl, -, rfl⟩ := hv
      omega
  obtain ⟨z, hz⟩ : ∃ z, stop s = z := ⟨_, rfl⟩
  rw [hz] at hcl hz0 hz1
  rw [hp] at hslot hsl
  have HM := Box.mk hM
  have HS := Box.mk hS
  have Hs := Box.mk hs
  have Hr := Box.mk hr
  have Hrow := Box.mk hrow
  have Hp := Box.mk hp
  have Hz := Box.mk hz
  have Hs0 := Box.mk hs0
  have hHS := Box.mk (fun j t h => (hS j t h).2.2.1)
  have hF : (stNext (sIns x) i s).foldl (stCome n) ⟨S, td, bad || !stOk (sIns x) s⟩ = stCome n ⟨S, td, bad⟩ (i + 1, s) := by
    simp [sIns, hop, stNext, stOk]
  rw [hF]
  clear hF
  rw [hop] at i0
  have hin : (i : Int) < (n : Int) := by omega
  have hi8 : i + 1 ≤ 8000 := by omega
  clear hM hM0 hS hs hr hrow hp hz hs0 hI hx hpos
  have HC := Box.mk (come16_is HM.out hn (i + 1) hi8 Hrow.out Hs0.out (by rw [Hp.out]; omega) hB (by omega) hHS.out)
  rw [Hp.out] at HC
  have hpi : ((i + 1 : Nat) : Int) = (i : Int) + 1 := by omega
  rw [hpi] at HC
  go_enter Tryd.func23, Tryd.ntmps23
  go_upto_region 1 with fail
  rw [HW.out, Hg.out]
  clear c0 c1 c2 c3 c4 c5 c6 c7 bL bS
  go_wp2_with fail
  refine HC.out.mono ?_
  rintro e w1 ⟨rfl, G⟩
  go_wp2_with fail
  go_end0
  exact ⟨rfl, HPre.out _ _ G⟩

set_option maxHeartbeats 2000000 in
set_option maxRecDepth 100000 in
theorem step_on6 (hM0 : LqM 56 w0 B kb sb (.slice (some ⟨lb, lo, none⟩) n c) n S R td tv bad) (hn : n ≤ 8000) (hB0 : B ≤ w0.heap.size) (htd : td.length ≤ 90000) (hS : SOk n S) {i : Nat} {s : List Int} (hs : S i = some s) (hnc : n ≤ c)
    {x : Ins} (hI : IsI w0 lb (lo + i * 8) x) (hlB : lb < B) (hx : insB n x = true) (hop : x.f0 = 6) :
    Calls Tryd.prog 23 #[.pointer (some ⟨kb, 0, none⟩), .int .i64 i] w0 fun e w' => e = .returned (.tuple #[]) ∧
      LqGot 56 B kb sb (.slice (some ⟨lb, lo, none⟩) n c) n S R ((stNext (sIns x) i s).foldl (stCome n) ⟨S, td, bad || !stOk (sIns x) s⟩) w0 w' := by
  have hin0 : (i : Int) < (n : Int) := by have := (hS i s hs).1; omega
  have bL := hM0.at0.1
  have bS := hM0.at0.2.1
  obtain ⟨c0, c1, c2, c3⟩ := hI.ex
  obtain ⟨DA, dc, c4, c5, c6, c7, -⟩ := hI.dat.ex
  rw [Nat.add_assoc] at c5 c6 c7
  obtain ⟨v0, Hv0⟩ : ∃ v, Box (x.f0 = v) := ⟨_, ⟨rfl⟩⟩
  obtain ⟨v1, Hv1⟩ : ∃ v, Box (x.f1 = v) := ⟨_, ⟨rfl⟩⟩
  rw [Hv0.out] at c0
  rw [Hv1.out] at c1
  generalize x.f2 = v2 at c2
  generalize x.f3 = v3 at c3
  generalize x.f4.f0 = v4 at c4
  generalize x.f4.f1 = v5 at c5
  generalize x.f4.f2 = v6 at c6
  generalize x.f4.f3.length = v8 at c7
  generalize DA = v7 at c7
  generalize dc = v9 at c7
  obtain ⟨w, hw⟩ : ∃ w, w0.alloc (.cells #[.int .i64 v0, .int .i64 v1, .int .i64 v2, .string v3, .int .i64 v4, .int .i64 v5, .string v6, .slice v7 v8 v9] 44) = w := ⟨_, rfl⟩
  have hkW : Below w0.heap.size w0 w := by rw [← hw]; exact (Below.refl _ w0).alloc (Nat.le_refl _) _
  have hblk : w.heap[w0.heap.size]? = some (.cells #[.int .i64 v0, .int .i64 v1, .int .i64 v2, .string v3, .int .i64 v4, .int .i64 v5, .string v6, .slice v7 v8 v9] 44 (0, 0)) := by rw [← hw]; exact heap_alloc_new w0 _
  obtain ⟨gx, hgx⟩ : ∃ g, w0.heap.size = g := ⟨_, rfl⟩
  have hM := hM0.below hkW
  have hB : B ≤ w.heap.size := Nat.le_trans hB0 hkW.size
  have HPre : Box (∀ k w', LqGot 56 B kb sb (.slice (some ⟨lb, lo, none⟩) n c) n S R k w w' → LqGot 56 B kb sb (.slice (some ⟨lb, lo, none⟩) n c) n S R k w0 w') := ⟨fun k w' G => G.pre (Below.mono hkW hB0) hkW.size⟩
  have i0 : w.cell? ⟨gx, 0, none⟩ = some (.int .i64 x.f0) := by rw [Hv0.out, ← hgx, cell_of_heap hblk]; rfl
  have i1 : w.cell? ⟨gx, 1, none⟩ = some (.int .i64 x.f1) := by rw [Hv1.out, ← hgx, cell_of_heap hblk]; rfl
  have HW := Box.mk hw
  have Hg := Box.mk hgx
  clear hw hgx hblk hkW
  obtain ⟨hi, hs0, hsl, hz0, hz1⟩ := hS i s hs
  have a0 := hM.at0.1
  have a1 := hM.at0.2.1
  have hslot := hM.slot hi
  rw [hs] at hslot
  simp only at hslot
  have hrow := hM.rowAt hs
  obtain ⟨r, hr⟩ : ∃ r, R i = r := ⟨_, rfl⟩
  rw [hr] at hrow hslot
  have hpos : 0 < s.length := by cases s with | nil => exact absurd rfl hs0 | cons => simp
  obtain ⟨p, hp⟩ : ∃ p, s.length = p + 1 := ⟨s.length - 1, by omega⟩
  have hcl := ownI_cell hrow (j := p) (by omega)
  rw [stop_getD s p hp] at hcl
  have hcap : p + 1 ≤ r.2 := by
    rcases hrow.2 with ⟨h1, _⟩ | ⟨g', cap', cur, hv, _, _, h2, _⟩
    · cases h1
    · simp only [Value.slice.injEq, Option.some.injEq, Addr.mk.injEq, and_true] at hv
      obtain ⟨rfl, -, rfl⟩ := hv
      omega
  obtain ⟨z, hz⟩ : ∃ z, stop s = z := ⟨_, rfl⟩
  rw [hz] at hcl hz0 hz1
  rw [hp] at hslot hsl
  have HM := Box.mk hM
  have HS := Box.mk hS
  have Hs := Box.mk hs
  have Hr := Box.mk hr
  have Hrow := Box.mk hrow
  have Hp := Box.mk hp
  have Hz := Box.mk hz
  have Hs0 := Box.mk hs0
  have hHS := Box.mk (fun j t h => (hS j t h).2.2.1)
  have hF : (stNext (sIns x) i s).foldl (stCome n) ⟨S, td, bad || !stOk (sIns x) s⟩ = stCome n ⟨S, td, bad⟩ (i + 1, s) := by
    simp [sIns, hop, stNext, stOk]
  rw [hF]
  clear hF
  rw [hop] at i0
  have hin : (i : Int) < (n : Int) := by omega
  have hi8 : i + 1 ≤ 8000 := by omega
  clear hM hM0 hS hs hr hrow hp hz hs0 hI hx hpos
  have HC := Box.mk (come16_is HM.out hn (i + 1) hi8 Hrow.out Hs0.out (by rw [Hp.out]; omega) hB (by omega) hHS.out)
  rw [Hp.out] at HC
  have hpi : ((i + 1 : Nat) : Int) = (i : Int) + 1 := by omega
  rw [hpi] at HC
  go_enter Tryd.func23, Tryd.ntmps23
  go_upto_region 1 with fail
  rw [HW.out, Hg.out]
  clear c0 c1 c2 c3 c4 c5 c6 c7 bL bS
  go_wp2_with fail
  refine HC.out.mono ?_
  rintro e w1 ⟨rfl, G⟩
  go_wp2_with fail
  go_end0
  exact ⟨rfl, HPre.out _ _ G⟩

set_option maxHeartbeats 2000000 in
set_option maxRecDepth 100000 in
theorem step_call (hM0 : LqM 56 w0 B kb sb (.slice (some ⟨lb, lo, none⟩) n c) n S R td tv bad) (hn : n ≤ 8000) (hB0 : B ≤ w0.heap.size) (htd : td.length ≤ 90000) (hS : SOk n S) {i : Nat} {s : List Int} (hs : S i = some s) (hnc : n ≤ c)
    {x : Ins} (hI : IsI w0 lb (lo + i * 8) x) (hlB : lb < B) (hx : insB n x = true) (hop : x.f0 = 12) :
    Calls Tryd.prog 23 #[.pointer (some ⟨kb, 0, none⟩), .int .i64 i] w0 fun e w' => e = .returned (.tuple #[]) ∧
      LqGot 56 B kb sb (.slice (some ⟨lb, lo, none⟩) n c) n S R ((stNext (sIns x) i s).foldl (stCome n) ⟨S, td, bad || !stOk (sIns x) s⟩) w0 w' := by
  have hin0 : (i : Int) < (n : Int) := by have := (hS i s hs).1; omega
  have bL := hM0.at0.1
  have bS := hM0.at0.2.1
  obtain ⟨c0, c1, c2, c3⟩ := hI.ex
  obtain ⟨DA, dc, c4, c5, c6, c7, -⟩ := hI.dat.ex
  rw [Nat.add_assoc] at c5 c6 c7
  obtain ⟨v0, Hv0⟩ : ∃ v, Box (x.f0 = v) := ⟨_, ⟨rfl⟩⟩
  obtain ⟨v1, Hv1⟩ : ∃ v, Box (x.f1 = v) := ⟨_, ⟨rfl⟩⟩
  rw [Hv0.out] at c0
  rw [Hv1.out] at c1
  generalize x.f2 = v2 at c2
  generalize x.f3 = v3 at c3
  generalize x.f4.f0 = v4 at c4
  generalize x.f4.f1 = v5 at c5
  generalize x.f4.f2 = v6 at c6
  generalize x.f4.f3.length = v8 at c7
  generalize DA = v7 at c7
  generalize dc = v9 at c7
  obtain ⟨w, hw⟩ : ∃ w, w0.alloc (.cells #[.int .i64 v0, .int .i64 v1, .int .i64 v2, .string v3, .int .i64 v4, .int .i64 v5, .string v6, .slice v7 v8 v9] 44) = w := ⟨_, rfl⟩
  have hkW : Below w0.heap.size w0 w := by rw [← hw]; exact (Below.refl _ w0).alloc (Nat.le_refl _) _
  have hblk : w.heap[w0.heap.size]? = some (.cells #[.int .i64 v0, .int .i64 v1, .int .i64 v2, .string v3, .int .i64 v4, .int .i64 v5, .string v6, .slice v7 v8 v9] 44 (0, 0)) := by rw [← hw]; exact heap_alloc_new w0 _
  obtain ⟨gx, hgx⟩ : ∃ g, w0.heap.size = g := ⟨_, rfl⟩
  have hM := hM0.below hkW
  have hB : B ≤ w.heap.size := Nat.le_trans hB0 hkW.size
  have HPre : Box (∀ k w', LqGot 56 B kb sb (.slice (some ⟨lb, lo, none⟩) n c) n S R k w w' → LqGot 56 B kb sb (.slice (some ⟨lb, lo, none⟩) n c) n S R k w0 w') := ⟨fun k w' G => G.pre (Below.mono hkW hB0) hkW.size⟩
  have i0 : w.cell? ⟨gx, 0, none⟩ = some (.int .i64 x.f0) := by rw [Hv0.out, ← hgx, cell_of_heap hblk]; rfl
  have i1 : w.cell? ⟨gx, 1, none⟩ = some (.int .i64 x.f1) := by rw [Hv1.out, ← hgx, cell_of_heap hblk]; rfl
  have HW := Box.mk hw
  have Hg := Box.mk hgx
  clear hw hgx hblk hkW
  obtain ⟨hi, hs0, hsl, hz0, hz1⟩ := hS i s hs
  have a0 := hM.at0.1
  have a1 := hM.at0.2.1
  have hslot := hM.slot hi
  rw [hs] at hslot
  simp only at hslot
  have hrow := hM.rowAt hs
  obtain ⟨r, hr⟩ : ∃ r, R i = r := ⟨_, rfl⟩
  rw [hr] at hrow hslot
  have hpos : 0 < s.length := by cases s with | nil => exact absurd rfl hs0 | cons => simp
  obtain ⟨p, hp⟩ : ∃ p, s.length = p + 1 := ⟨s.length - 1, by omega⟩
  have hcl := ownI_cell hrow (j := p) (by omega)
  rw [stop_getD s p hp] at hcl
  have hcap : p + 1 ≤ r.2 := by
    rcases hrow.2 with ⟨h1, _⟩ | ⟨g', cap', cur, hv, _, _, h2, _⟩
    · cases h1
    · simp only [Value.slice.injEq, Option.some.injEq, Addr.mk.injEq, and_true] at hv
      obtain ⟨rfl, -, rfl⟩ := hv
      omega
  obtain ⟨z, hz⟩ : ∃ z, stop s = z := ⟨_, rfl⟩
  rw [hz] at hcl hz0 hz1
  rw [hp] at hslot hsl
  have HM := Box.mk hM
  have HS := Box.mk hS
  have Hs := Box.mk hs
  have Hr := Box.mk hr
  have Hrow := Box.mk hrow
  have Hp := Box.mk hp
  have Hz := Box.mk hz
  have Hs0 := Box.mk hs0
  have hHS := Box.mk (fun j t h => (hS j t h).2.2.1)
  have hA : 0 ≤ x.f1 ∧ x.f1 ≤ 28 := by
    have h2 := hx
    unfold insB at h2
    rw [hop] at h2
    simp [hop] at h2
    omega
  obtain ⟨q, hq⟩ : ∃ q : Int, x.f1 = q := ⟨_, rfl⟩
  rw [hq] at i1 hA
  obtain ⟨hA1, hA2⟩ := hA
  have hF : (stNext (sIns x) i s).foldl (stCome n) ⟨S, td, bad || !stOk (sIns x) s⟩ = ⟨S, td, bad || !(decide (2 ≤ p + 1 ∧ z = x.f1 + 1))⟩ := by
    simp [sIns, hop, stNext, stOk, hp, hz]
  rw [hF]
  clear hF
  rw [hop] at i0
  have b3 := hM.at0.2.2.2
  have f3 := hM.frz 3
  have hBB := hM.base.1
  rw [hq]
  have hin : (i : Int) < (n : Int) := by omega
  have hi8 : i + 1 ≤ 8000 := by omega
  clear hM hM0 hS hs hr hrow hp hz hs0 hI hx hpos hq
  obtain ⟨bo, hbo⟩ : ∃ bo, (bad || !(decide (2 ≤ p + 1 ∧ z = q + 1))) = bo := ⟨_, rfl⟩
  have HG : Box (∀ b', b' = bo → LqGot 56 B kb sb (.slice (some ⟨lb, lo, none⟩) n c) n S R ⟨S, td, bo⟩ w (w.setCell ⟨kb, 3, none⟩ (.bool b'))) := ⟨fun b' e => by
    subst e
    exact ⟨⟨R, tv, HM.out.setBad lkT_ref _, fun _ _ => rfl⟩, (Below.refl B w).setCell (p := ⟨kb, 3, none⟩) hBB _, by simp⟩⟩
  rw [hbo]
  cases bad
  all_goals
    simp only [Bool.false_or, Bool.true_or] at hbo
    have Hbo := Box.mk hbo
    clear hbo
    go_enter Tryd.func23, Tryd.ntmps23
    go_upto_region 1 with fail
    rw [HW.out, Hg.out]
    clear c0 c1 c2 c3 c4 c5 c6 c7 bL bS
    go_wp2_with fail
  all_goals
    go_end0
    refine ⟨rfl, HPre.out _ _ (HG.out _ ?_)⟩
    refine Eq.trans ?_ Hbo.out
    go_light
    clear Hbo HG HM HS Hs Hr Hrow Hp Hz Hs0 hHS HPre HW Hg Hv0 Hv1
    first
    | rfl
    | (simp_all; done)
    | (simp_all; omega)
    | (rw [Bool.eq_iff_iff]; simp_all; done)
    | (rw [Bool.eq_iff_iff]; simp_all; omega)

set_option maxHeartbeats 2000000 in
set_option maxRecDepth 100000 in
theorem step_tail (hM0 : LqM 56 w0 B kb sb (.slice (some ⟨lb, lo, none⟩) n c) n S R td tv bad) (hn : n ≤ 8000) (hB0 : B ≤ w0.heap.size) (htd : td.length ≤ 90000) (hS : SOk n S) {i : Nat} {s : List Int} (hs : S i = some s) (hnc : n ≤ c)
    {x : Ins} (hI : IsI w0 lb (lo + i * 8) x) (hlB : lb < B) (hx : insB n x = true) (hop : x.f0 = 13) :
    Calls Tryd.prog 23 #[.pointer (some ⟨kb, 0, none⟩), .int .i64 i] w0 fun e w' => e = .returned (.tuple #[]) ∧
      LqGot 56 B kb sb (.slice (some ⟨lb, lo, none⟩) n c) n S R ((stNext (sIns x) i s).foldl (stCome n) ⟨S, td, bad || !stOk (sIns x) s⟩) w0 w' := by
  have hin0 : (i : Int) < (n : Int) := by have := (hS i s hs).1; omega
  have bL := hM0.at0.1
  have bS := hM0.at0.2.1
  obtain ⟨c0, c1, c2, c3⟩ := hI.ex
  obtain ⟨DA, dc, c4, c5, c6, c7, -⟩ := hI.dat.ex
  rw [Nat.add_assoc] at c5 c6 c7
  obtain ⟨v0, Hv0⟩ : ∃ v, Box (x.f0 = v) := ⟨_, ⟨rfl⟩⟩
  obtain ⟨v1, Hv1⟩ : ∃ v, Box (x.f1 = v) := ⟨_, ⟨rfl⟩⟩
  rw [Hv0.out] at c0
  rw [Hv1.out] at c1
  generalize x.f2 = v2 at c2
  generalize x.f3 = v3 at c3
  generalize x.f4.f0 = v4 at c4
  generalize x.f4.f1 = v5 at c5
  generalize x.f4.f2 = v6 at c6
  generalize x.f4.f3.length = v8 at c7
  generalize DA = v7 at c7
  generalize dc = v9 at c7
  obtain ⟨w, hw⟩ : ∃ w, w0.alloc (.cells #[.int .i64 v0, .int .i64 v1, .int .i64 v2, .string v3, .int .i64 v4, .int .i64 v5, .string v6, .slice v7 v8 v9] 44) = w := ⟨_, rfl⟩
  have hkW : Below w0.heap.size w0 w := by rw [← hw]; exact (Below.refl _ w0).alloc (Nat.le_refl _) _
  have hblk : w.heap[w0.heap.size]? = some (.cells #[.int .i64 v0, .int .i64 v1, .int .i64 v2, .string v3, .int .i64 v4, .int .i64 v5, .string v6, .slice v7 v8 v9] 44 (0, 0)) := by rw [← hw]; exact heap_alloc_new w0 _
  obtain ⟨gx, hgx⟩ : ∃ g, w0.heap.size = g := ⟨_, rfl⟩
  have hM := hM0.below hkW
  have hB : B ≤ w.heap.size := Nat.le_trans hB0 hkW.size
  have HPre : Box (∀ k w', LqGot 56 B kb sb (.slice (some ⟨lb, lo, none⟩) n c) n S R k w w' → LqGot 56 B kb sb (.slice (some ⟨lb, lo, none⟩) n c) n S R k w0 w') := ⟨fun k w' G => G.pre (Below.mono hkW hB0) hkW.size⟩
  have i0 : w.cell? ⟨gx, 0, none⟩ = some (.int .i64 x.f0) := by rw [Hv0.out, ← hgx, cell_of_heap hblk]; rfl
  have i1 : w.cell? ⟨gx, 1, none⟩ = some (.int .i64 x.f1) := by rw [Hv1.out, ← hgx, cell_of_heap hblk]; rfl
  have HW := Box.mk hw
  have Hg := Box.mk hgx
  clear hw hgx hblk hkW
  obtain ⟨hi, hs0, hsl, hz0, hz1⟩ := hS i s hs
  have a0 := hM.at0.1
  have a1 := hM.at0.2.1
  have hslot := hM.slot hi
  rw [hs] at hslot
  simp only at hslot
  have hrow := hM.rowAt hs
  obtain ⟨r, hr⟩ : ∃ r, R i = r := ⟨_, rfl⟩
  rw [hr] at hrow hslot
  have hpos : 0 < s.length := by cases s with | nil => exact absurd rfl hs0 | cons => simp
  obtain ⟨p, hp⟩ : ∃ p, s.length = p + 1 := ⟨s.length - 1, by omega⟩
  have hcl := ownI_cell hrow (j := p) (by omega)
  rw [stop_getD s p hp] at hcl
  have hcap : p + 1 ≤ r.2 := by
    rcases hrow.2 with ⟨h1, _⟩ | ⟨g', cap', cur, hv, _, _, h2, _⟩
    · cases h1
    · simp only [Value.slice.injEq, Option.some.injEq, Addr.mk.injEq, and_true] at hv
      obtain ⟨rfl, -, rfl⟩ := hv
      omega
  obtain ⟨z, hz⟩ : ∃ z, stop s = z := ⟨_, rfl⟩
  rw [hz] at hcl hz0 hz1
  rw [hp] at hslot hsl
  have HM := Box.mk hM
  have HS := Box.mk hS
  have Hs := Box.mk hs
  have Hr := Box.mk hr
  have Hrow := Box.mk hrow
  have Hp := Box.mk hp
  have Hz := Box.mk hz
  have Hs0 := Box.mk hs0
  have hHS := Box.mk (fun j t h => (hS j t h).2.2.1)
  have hA : 0 ≤ x.f1 ∧ x.f1 ≤ 28 := by
    have h2 := hx
    unfold insB at h2
    rw [hop] at h2
    simp [hop] at h2
    omega
  obtain ⟨q, hq⟩ : ∃ q : Int, x.f1 = q := ⟨_, rfl⟩
  rw [hq] at i1 hA
  obtain ⟨hA1, hA2⟩ := hA
  have hF : (stNext (sIns x) i s).foldl (stCome n) ⟨S, td, bad || !stOk (sIns x) s⟩ = ⟨S, td, bad || !(decide (p + 1 = 1 ∧ z = x.f1 + 1))⟩ := by
    simp [sIns, hop, stNext, stOk, hp, hz]
  rw [hF]
  clear hF
  rw [hop] at i0
  have b3 := hM.at0.2.2.2
  have f3 := hM.frz 3
  have hBB := hM.base.1
  rw [hq]
  have hin : (i : Int) < (n : Int) := by omega
  have hi8 : i + 1 ≤ 8000 := by omega
  clear hM hM0 hS hs hr hrow hp hz hs0 hI hx hpos hq
  obtain ⟨bo, hbo⟩ : ∃ bo, (bad || !(decide (p + 1 = 1 ∧ z = q + 1))) = bo := ⟨_, rfl⟩
  have HG : Box (∀ b', b' = bo → LqGot 56 B kb sb (.slice (some ⟨lb, lo, none⟩) n c) n S R ⟨S, td, bo⟩ w (w.setCell ⟨kb, 3, none⟩ (.bool b'))) := ⟨fun b' e => by
    subst e
    exact ⟨⟨R, tv, HM.out.setBad lkT_ref _, fun _ _ => rfl⟩, (Below.refl B w).setCell (p := ⟨kb, 3, none⟩) hBB _, by simp⟩⟩
  rw [hbo]
  cases bad
  all_goals
    simp only [Bool.false_or, Bool.true_or] at hbo
    have Hbo := Box.mk hbo
    clear hbo
    go_enter Tryd.func23, Tryd.ntmps23
    go_upto_region 1 with fail
    rw [HW.out, Hg.out]
    clear c0 c1 c2 c3 c4 c5 c6 c7 bL bS
    go_wp2_with fail
  all_goals
    go_end0
    refine ⟨rfl, HPre.out _ _ (HG.out _ ?_)⟩
    refine Eq.trans ?_ Hbo.out
    go_light
    clear Hbo HG HM HS Hs Hr Hrow Hp Hz Hs0 hHS HPre HW Hg Hv0 Hv1
    first
    | rfl
    | (simp_all; done)
    | (simp_all; omega)
    | (rw [Bool.eq_iff_iff]; simp_all; done)
    | (rw [Bool.eq_iff_iff]; simp_all; omega)

set_option maxHeartbeats 2000000 in
set_option maxRecDepth 100000 in
theorem step_ret (hM0 : LqM 56 w0 B kb sb (.slice (some ⟨lb, lo, none⟩) n c) n S R td tv bad) (hn : n ≤ 8000) (hB0 : B ≤ w0.heap.size) (htd : td.length ≤ 90000) (hS : SOk n S) {i : Nat} {s : List Int} (hs : S i = some s) (hnc : n ≤ c)
    {x : Ins} (hI : IsI w0 lb (lo + i * 8) x) (hlB : lb < B) (hx : insB n x = true) (hop : x.f0 = 14) :
    Calls Tryd.prog 23 #[.pointer (some ⟨kb, 0, none⟩), .int .i64 i] w0 fun e w' => e = .returned (.tuple #[]) ∧
      LqGot 56 B kb sb (.slice (some ⟨lb, lo, none⟩) n c) n S R ((stNext (sIns x) i s).foldl (stCome n) ⟨S, td, bad || !stOk (sIns x) s⟩) w0 w' := by
  have hin0 : (i : Int) < (n : Int) := by have := (hS i s hs).1; omega
  have bL := hM0.at0.1
  have bS := hM0.at0.2.1
  obtain ⟨c0, c1, c2, c3⟩ := hI.ex
  obtain ⟨DA, dc, c4, c5, c6, c7, -⟩ := hI.dat.ex
  rw [Nat.add_assoc] at c5 c6 c7
  obtain ⟨v0, Hv0⟩ : ∃ v, Box (x.f0 = v) := ⟨_, ⟨rfl⟩⟩
  obtain ⟨v1, Hv1⟩ : ∃ v, Box (x.f1 = v) := ⟨_, ⟨rfl⟩⟩
  rw [Hv0.out] at c0
  rw [Hv1.out] at c1
  generalize x.f2 = v2 at c2
  generalize x.f3 = v3 at c3
  generalize x.f4.f0 = v4 at c4
  generalize x.f4.f1 = v5 at c5
  generalize x.f4.f2 = v6 at c6
  generalize x.f4.f3.length = v8 at c7
  generalize DA = v7 at c7
  generalize dc = v9 at c7
  obtain ⟨w, hw⟩ : ∃ w, w0.alloc (.cells #[.int .i64 v0, .int .i64 v1, .int .i64 v2, .string v3, .int .i64 v4, .int .i64 v5, .string v6, .slice v7 v8 v9] 44) = w := ⟨_, rfl⟩
  have hkW : Below w0.heap.size w0 w := by rw [← hw]; exact (Below.refl _ w0).alloc (Nat.le_refl _) _
  have hblk : w.heap[w0.heap.size]? = some (.cells #[.int .i64 v0, .int .i64 v1, .int .i64 v2, .string v3, .int .i64 v4, .int .i64 v5, .string v6, .slice v7 v8 v9] 44 (0, 0)) := by rw [← hw]; exact heap_alloc_new w0 _
  obtain ⟨gx, hgx⟩ : ∃ g, w0.heap.size = g := ⟨_, rfl⟩
  have hM := hM0.below hkW
  have hB : B ≤ w.heap.size := Nat.le_trans hB0 hkW.size
  have HPre : Box (∀ k w', LqGot 56 B kb sb (.slice (some ⟨lb, lo, none⟩) n c) n S R k w w' → LqGot 56 B kb sb (.slice (some ⟨lb, lo, none⟩) n c) n S R k w0 w') := ⟨fun k w' G => G.pre (Below.mono hkW hB0) hkW.size⟩
  have i0 : w.cell? ⟨gx, 0, none⟩ = some (.int .i64 x.f0) := by rw [Hv0.out, ← hgx, cell_of_heap hblk]; rfl
  have i1 : w.cell? ⟨gx, 1, none⟩ = some (.int .i64 x.f1) := by rw [Hv1.out, ← hgx, cell_of_heap hblk]; rfl
  have HW := Box.mk hw
  have Hg := Box.mk hgx
  clear hw hgx hblk hkW
  obtain ⟨hi, hs0, hsl, hz0, hz1⟩ := hS i s hs
  have a0 := hM.at0.1
  have a1 := hM.at0.2.1
  have hslot := hM.slot hi
  rw [hs] at hslot
  simp only at hslot
  have hrow := hM.rowAt hs
  obtain ⟨r, hr⟩ : ∃ r, R i = r := ⟨_, rfl⟩
  rw [hr] at hrow hslot
  have hpos : 0 < s.length := by cases s with | nil => exact absurd rfl hs0 | cons => simp
  obtain ⟨p, hp⟩ : ∃ p, s.length = p + 1 := ⟨s.length - 1, by omega⟩
  have hcl := ownI_cell hrow (j := p) (by omega)
  rw [stop_getD s p hp] at hcl
  have hcap : p + 1 ≤ r.2 := by
    rcases hrow.2 with ⟨h1, _⟩ | ⟨g', cap', cur, hv, _, _, h2, _⟩
    · cases h1
    · simp only [Value.slice.injEq, Option.some.injEq, Addr.mk.injEq, and_true] at hv
      obtain ⟨rfl, -, rfl⟩ := hv
      omega
  obtain ⟨z, hz⟩ : ∃ z, stop s = z := ⟨_, rfl⟩
  rw [hz] at hcl hz0 hz1
  rw [hp] at hslot hsl
  have HM := Box.mk hM
  have HS := Box.mk hS
  have Hs := Box.mk hs
  have Hr := Box.mk hr
  have Hrow := Box.mk hrow
  have Hp := Box.mk hp
  have Hz := Box.mk hz
  have Hs0 := Box.mk hs0
  have hHS := Box.mk (fun j t h => (hS j t h).2.2.1)
  have hF : (stNext (sIns x) i s).foldl (stCome n) ⟨S, td, bad || !stOk (sIns x) s⟩ = ⟨S, td, bad || !(decide (p + 1 = 1 ∧ z = 0))⟩ := by
    simp [sIns, hop, stNext, stOk, hp, hz]
  rw [hF]
  clear hF
  rw [hop] at i0
  have b3 := hM.at0.2.2.2
  have f3 := hM.frz 3
  have hBB := hM.base.1
  have hin : (i : Int) < (n : Int) := by omega
  have hi8 : i + 1 ≤ 8000 := by omega
  clear hM hM0 hS hs hr hrow hp hz hs0 hI hx hpos
  obtain ⟨bo, hbo⟩ : ∃ bo, (bad || !(decide (p + 1 = 1 ∧ z = 0))) = bo := ⟨_, rfl⟩
  have HG : Box (∀ b', b' = bo → LqGot 56 B kb sb (.slice (some ⟨lb, lo, none⟩) n c) n S R ⟨S, td, bo⟩ w (w.setCell ⟨kb, 3, none⟩ (.bool b'))) := ⟨fun b' e => by
    subst e
    exact ⟨⟨R, tv, HM.out.setBad lkT_ref _, fun _ _ => rfl⟩, (Below.refl B w).setCell (p := ⟨kb, 3, none⟩) hBB _, by simp⟩⟩
  rw [hbo]
  cases bad
  all_goals
    simp only [Bool.false_or, Bool.true_or] at hbo
    have Hbo := Box.mk hbo
    clear hbo
    go_enter Tryd.func23, Tryd.ntmps23
    go_upto_region 1 with fail
    rw [HW.out, Hg.out]
    clear c0 c1 c2 c3 c4 c5 c6 c7 bL bS
    go_wp2_with fail
  all_goals
    go_end0
    refine ⟨rfl, HPre.out _ _ (HG.out _ ?_)⟩
    refine Eq.trans ?_ Hbo.out
    go_light
    clear Hbo HG HM HS Hs Hr Hrow Hp Hz Hs0 hHS HPre HW Hg Hv0 Hv1
    first
    | rfl
    | (simp_all; done)
    | (simp_all; omega)
    | (rw [Bool.eq_iff_iff]; simp_all; done)
    | (rw [Bool.eq_iff_iff]; simp_all; omega)

end
end Go.Proofs.YtiimojpaeccajaaDoor
