/- looker.from by its contract. -/
import Derived.Test.YtiimojpaeccajaaGreatDoorLkC
namespace Go.Proofs.YtiimojpaeccajaaGreatDoor
set_option linter.unusedVariables false
set_option linter.unusedSimpArgs false
open Go.RowKit Go.Proofs.YtiimojpaeccajaaGreatDoorW.PrintWords Go.Proofs.YtiimojpaeccajaaGreatDoorW.PrintLast Go.Proofs.YtiimojpaeccajaaGreatDoorW.PrintMore

theorem stCome_keep {n : Nat} {k : StK} {p : Nat × List Int} {i : Nat} {s : List Int} (h : k.S i = some s) : (stCome n k p).S i = some s := by
  unfold stCome
  split
  · exact h
  · cases hp : k.S p.1 with
    | none =>
      simp only
      have : i ≠ p.1 := fun e => by rw [e, hp] at h; cases h
      rw [if_neg this]; exact h
    | some t =>
      simp only
      split <;> exact h
theorem stCome_todo (n : Nat) (k : StK) (p : Nat × List Int) : (stCome n k p).todo.length ≤ k.todo.length + 1 := by
  unfold stCome
  split
  · simp
  · cases hp : k.S p.1 with
    | none => simp
    | some t => simp only; split <;> simp
/-- Each stack is small. -/
def SOk (n : Nat) (S : Nat → Option (List Int)) : Prop := ∀ i s, S i = some s → i < n ∧ s ≠ [] ∧ s.length ≤ 200 ∧ 0 ≤ stop s ∧ stop s ≤ 29
def PendOk (t : List Int) : Prop := t ≠ [] ∧ 0 ≤ stop t
theorem SOk.come {n : Nat} {k : StK} (h : SOk n k.S) {p : Nat × List Int} (hp : PendOk p.2) : SOk n (stCome n k p).S := by
  unfold stCome
  split
  · exact h
  · rename_i hc
    cases hs : k.S p.1 with
    | none =>
      simp only
      intro i s hi
      dsimp only at hi
      by_cases e : i = p.1
      · rw [if_pos e] at hi
        injection hi with hi
        subst hi
        exact ⟨by omega, hp.1, by omega, hp.2, by omega⟩
      · rw [if_neg e] at hi; exact h i s hi
    | some t => simp only; split <;> exact h
theorem stop_append (s : List Int) (z : Int) : stop (s ++ [z]) = z := by simp [stop]
theorem pendOk_next {x : SIns} {i : Nat} {s : List Int} (hs : s ≠ []) (h0 : 0 ≤ stop s) : ∀ p ∈ stNext x i s, PendOk p.2 := by
  have h1 : PendOk s := ⟨hs, h0⟩
  have h2 : PendOk [0] := ⟨by simp, by decide⟩
  have h3 : PendOk (s ++ [0]) := ⟨by simp, by rw [stop_append]; omega⟩
  have h4 : PendOk (s.dropLast ++ [stop s + 1]) := ⟨by simp, by rw [stop_append]; omega⟩
  intro p hp
  unfold stNext at hp
  split at hp
  · rcases List.mem_cons.1 hp with rfl | hp
    · exact h1
    · rw [List.mem_singleton.1 hp]; exact h1
  split at hp
  · rw [List.mem_singleton.1 hp]; exact h1
  split at hp
  · rcases List.mem_cons.1 hp with rfl | hp
    · exact h2
    · rw [List.mem_singleton.1 hp]; exact h1
  split at hp
  · rcases List.mem_cons.1 hp with rfl | hp
    · exact h1
    · rw [List.mem_singleton.1 hp]; exact h3
  split at hp
  · rw [List.mem_singleton.1 hp]; exact h4
  split at hp
  · cases hp
  · rw [List.mem_singleton.1 hp]; exact h1

/-- An instruction, as the stacks' law has it. -/
def sIns (x : Ins) : SIns := ⟨x.f0, x.f1⟩
theorem LkGot.pre {T : TypeId} {B kb sb n : Nat} {lv : Value} {S : Nat → Option (List Int)} {R : Nat → Nat × Nat} {k : StK} {w W w1 : World} (h : LkGot T B kb sb lv n S R k W w1) (hk : Below B w W) (hz : w.heap.size ≤ W.heap.size) : LkGot T B kb sb lv n S R k w w1 :=
  ⟨h.mem, hk.trans h.keeps, Nat.le_trans hz h.size⟩
theorem set_last (s : List Int) (p : Nat) (z : Int) (h : s.length = p + 1) : (List.map (Value.int .i64) s).set p (.int .i64 z) = rowI (s.dropLast ++ [z]) := by
  unfold rowI
  apply List.ext_getElem?
  intro j
  rw [List.getElem?_set]
  by_cases e : p = j
  · subst e
    rw [if_pos rfl, if_pos (by simp [h])]
    rw [List.getElem?_map, List.getElem?_append_right (by simp [h])]
    simp [h]
  · rw [if_neg e, List.getElem?_map, List.getElem?_map]
    by_cases hj : j < p
    · rw [List.getElem?_append_left (by simp [h]; omega), List.getElem?_dropLast, if_pos (by omega)]
    · rw [List.getElem?_eq_none (by omega), List.getElem?_eq_none (by simp [h]; omega)]
theorem cell_b {w w' : World} {b o B : Nat} {v : Value} (h : w.cell? ⟨b, o, none⟩ = some v) (k : Below B w w') (hb : b < B) : w'.cell? ⟨b, o, none⟩ = some v := by
  rw [World.cell?_of_block (k.block b hb)]; exact h
section
variable {w : World} {B kb sb n : Nat} {lb lo c : Nat} {S : Nat → Option (List Int)} {R : Nat → Nat × Nat} {td : List Nat} {tv : Value} {bad : Bool}
theorem LkM.rowAt {T : TypeId} {lv : Value} (h : LkM T w B kb sb lv n S R td tv bad) {i : Nat} {s : List Int} (hs : S i = some s) : ownI w B (R i).1 (R i).2 s := (h.row i s hs).1
theorem LkM.below' {T : TypeId} {lv : Value} {w' : World} (h : LkM T w B kb sb lv n S R td tv bad) (k : Below w.heap.size w w') : LkM T w' B kb sb lv n S R td tv bad := h.below k

set_option maxHeartbeats 2000000 in
set_option maxRecDepth 100000 in
theorem from_jump (hM : LkM 86 w B kb sb (.slice (some ⟨lb, lo, none⟩) n c) n S R td tv bad) (hn : n ≤ 8000) (hB : B ≤ w.heap.size) (htd : td.length ≤ 90000) (hS : SOk n S) {i : Nat} {s : List Int} (hs : S i = some s) (hnc : n ≤ c)
    {x : Ins} (hI : IsI w lb (lo + i * 8) x) (hlB : lb < B) (hx : insB n x = true) (hop : x.f0 = 8) :
    Calls Tryz.prog 55 #[.pointer (some ⟨kb, 0, none⟩), .int .i64 i] w fun e w' => e = .returned (.tuple #[]) ∧
      LkGot 86 B kb sb (.slice (some ⟨lb, lo, none⟩) n c) n S R ((stNext (sIns x) i s).foldl (stCome n) ⟨S, td, bad || !stOk (sIns x) s⟩) w w' := by
  obtain ⟨hi, hs0, hsl, hz0, hz1⟩ := hS i s hs
  have a0 := hM.at0.1
  have a1 := hM.at0.2.1
  have hslot := hM.slot hi
  rw [hs] at hslot
  simp only at hslot
  have hrow := hM.rowAt hs
  obtain ⟨r, hr⟩ : ∃ r, R i = r := ⟨_, rfl⟩
  rw [hr] at hrow hslot
  have hpos : 0 < s.length := by cases s with | nil => exact absurd rfl hs0 | cons => simp
  obtain ⟨p, hp⟩ : ∃ p, s.length = p + 1 := ⟨s.length - 1, by omega⟩
  have hcl := ownI_cell hrow (j := p) (by omega)
  rw [stop_getD s p hp] at hcl
  have hcap : p + 1 ≤ r.2 := by
    rcases hrow.2 with ⟨h1, _⟩ | ⟨g', cap', cur, hv, _, _, h2, _⟩
    · cases h1
    · simp only [Value.slice.injEq, Option.some.injEq, Addr.mk.injEq, and_true] at hv
      obtain ⟨rfl, -, rfl⟩ := hv
      omega
  obtain ⟨z, hz⟩ : ∃ z, stop s = z := ⟨_, rfl⟩
  rw [hz] at hcl hz0 hz1
  rw [hp] at hslot hsl
  have i0 := hI.ex.1
  have i1 := hI.ex.2.1
  have HM := Box.mk hM
  have HS := Box.mk hS
  have Hs := Box.mk hs
  have Hr := Box.mk hr
  have Hrow := Box.mk hrow
  have Hp := Box.mk hp
  have Hz := Box.mk hz
  have Hs0 := Box.mk hs0
  have hHS := Box.mk (fun j t h => (hS j t h).2.2.1)
  have HI := Box.mk hI
  have hA : 0 ≤ x.f1 ∧ x.f1 < n := by
    have h2 := hx
    unfold insB at h2
    rw [hop] at h2
    simp [hop] at h2
    omega
  obtain ⟨q, hq⟩ : ∃ q : Nat, x.f1 = q := ⟨x.f1.toNat, by omega⟩
  have hq8 : q ≤ 8000 := by omega
  rw [hq] at i1
  have hF : (stNext (sIns x) i s).foldl (stCome n) ⟨S, td, bad || !stOk (sIns x) s⟩ = stCome n ⟨S, td, bad⟩ (q, s) := by
    simp [sIns, hop, stNext, stOk, hq]
  rw [hF]
  clear hF
  rw [hop] at i0
  have hin : (i : Int) < (n : Int) := by omega
  have hi8 : i + 1 ≤ 8000 := by omega
  clear hM hS hs hr hrow hp hz hs0 hI hx hpos hA hq
  have HC := Box.mk (come_is HM.out hn q hq8 Hrow.out Hs0.out (by rw [Hp.out]; omega) hB (by omega) hHS.out)
  rw [Hp.out] at HC
  go_enter Tryz.func55, Tryz.ntmps55
  go_wp2_with fail
  refine HC.out.mono ?_
  rintro e w1 ⟨rfl, G⟩
  go_wp2_with fail
  go_end0
  exact ⟨rfl, G⟩

set_option maxHeartbeats 2000000 in
set_option maxRecDepth 100000 in
theorem from_unless (hM : LkM 86 w B kb sb (.slice (some ⟨lb, lo, none⟩) n c) n S R td tv bad) (hn : n ≤ 8000) (hB : B ≤ w.heap.size) (htd : td.length ≤ 90000) (hS : SOk n S) {i : Nat} {s : List Int} (hs : S i = some s) (hnc : n ≤ c)
    {x : Ins} (hI : IsI w lb (lo + i * 8) x) (hlB : lb < B) (hx : insB n x = true) (hop : x.f0 = 7) :
    Calls Tryz.prog 55 #[.pointer (some ⟨kb, 0, none⟩), .int .i64 i] w fun e w' => e = .returned (.tuple #[]) ∧
      LkGot 86 B kb sb (.slice (some ⟨lb, lo, none⟩) n c) n S R ((stNext (sIns x) i s).foldl (stCome n) ⟨S, td, bad || !stOk (sIns x) s⟩) w w' := by
  obtain ⟨hi, hs0, hsl, hz0, hz1⟩ := hS i s hs
  have a0 := hM.at0.1
  have a1 := hM.at0.2.1
  have hslot := hM.slot hi
  rw [hs] at hslot
  simp only at hslot
  have hrow := hM.rowAt hs
  obtain ⟨r, hr⟩ : ∃ r, R i = r := ⟨_, rfl⟩
  rw [hr] at hrow hslot
  have hpos : 0 < s.length := by cases s with | nil => exact absurd rfl hs0 | cons => simp
  obtain ⟨p, hp⟩ : ∃ p, s.length = p + 1 := ⟨s.length - 1, by omega⟩
  have hcl := ownI_cell hrow (j := p) (by omega)
  rw [stop_getD s p hp] at hcl
  have hcap : p + 1 ≤ r.2 := by
    rcases hrow.2 with ⟨h1, _⟩ | ⟨g', cap', cur, hv, _, _, h2, _⟩
    · cases h1
    · simp only [Value.slice.injEq, Option.some.injEq, Addr.mk.injEq, and_true] at hv
      obtain ⟨rfl, -, rfl⟩ := hv
      omega
  obtain ⟨z, hz⟩ : ∃ z, stop s = z := ⟨_, rfl⟩
  rw [hz] at hcl hz0 hz1
  rw [hp] at hslot hsl
  have i0 := hI.ex.1
  have i1 := hI.ex.2.1
  have HM := Box.mk hM
  have HS := Box.mk hS
  have Hs := Box.mk hs
  have Hr := Box.mk hr
  have Hrow := Box.mk hrow
  have Hp := Box.mk hp
  have Hz := Box.mk hz
  have Hs0 := Box.mk hs0
  have hHS := Box.mk (fun j t h => (hS j t h).2.2.1)
  have HI := Box.mk hI
  have hA : 0 ≤ x.f1 ∧ x.f1 < n := by
    have h2 := hx
    unfold insB at h2
    rw [hop] at h2
    simp [hop] at h2
    omega
  obtain ⟨q, hq⟩ : ∃ q : Nat, x.f1 = q := ⟨x.f1.toNat, by omega⟩
  have hq8 : q ≤ 8000 := by omega
  rw [hq] at i1
  have hF : (stNext (sIns x) i s).foldl (stCome n) ⟨S, td, bad || !stOk (sIns x) s⟩ = stCome n (stCome n ⟨S, td, bad⟩ (q, s)) (i + 1, s) := by
    simp [sIns, hop, stNext, stOk, hq]
  rw [hF]
  clear hF
  rw [hop] at i0
  have hin : (i : Int) < (n : Int) := by omega
  have hi8 : i + 1 ≤ 8000 := by omega
  clear hM hS hs hr hrow hp hz hs0 hI hx hpos hA hq
  have HC := Box.mk (come_is HM.out hn q hq8 Hrow.out Hs0.out (by rw [Hp.out]; omega) hB (by omega) hHS.out)
  rw [Hp.out] at HC
  go_enter Tryz.func55, Tryz.ntmps55
  go_wp2_with fail
  refine HC.out.mono ?_
  rintro e w1 ⟨rfl, G⟩
  obtain ⟨⟨R1, tv1, hM1, hR1⟩, k1, z1⟩ := G
  have HK1 := Box.mk k1
  have HZ1 := Box.mk z1
  have HM1 := Box.mk hM1
  have HR1 := Box.mk hR1
  have hs1 := stCome_keep (n := n) (k := ⟨S, td, bad⟩) (p := (q, s)) Hs.out
  have hrow1 := hM1.rowAt hs1
  rw [hR1 i (by rw [Hs.out]; simp), Hr.out] at hrow1
  have Hrow1 := Box.mk hrow1
  have hS1 : SOk n (stCome n ⟨S, td, bad⟩ (q, s)).S := HS.out.come ⟨Hs0.out, by show 0 ≤ stop s; rw [Hz.out]; exact hz0⟩
  have ht1 := stCome_todo n ⟨S, td, bad⟩ (q, s)
  have hHS1 := Box.mk (fun j t h => (hS1 j t h).2.2.1)
  have HG := Box.mk (fun (k2 : StK) (w2 : World) (G2 : LkGot 86 B kb sb (.slice (some ⟨lb, lo, none⟩) n c) n (stCome n ⟨S, td, bad⟩ (q, s)).S R1 k2 w1 w2) => (show LkGot 86 B kb sb (.slice (some ⟨lb, lo, none⟩) n c) n S R k2 w w2 from by
    obtain ⟨⟨R2, tv2, hM2, hR2⟩, k2', z2⟩ := G2
    exact ⟨⟨R2, tv2, hM2, fun j hj => by
      obtain ⟨t, ht⟩ := Option.ne_none_iff_exists'.1 hj
      rw [hR2 j (by rw [stCome_keep (n := n) (k := ⟨S, td, bad⟩) (p := (q, s)) ht]; simp), HR1.out j hj]⟩, HK1.out.trans k2', Nat.le_trans HZ1.out z2⟩))
  clear hM1 hR1 k1 z1 hs1 hrow1 hS1 HC
  have HC2 := Box.mk (come_is HM1.out hn (i + 1) hi8 Hrow1.out Hs0.out (by rw [Hp.out]; omega) (Nat.le_trans hB HZ1.out) (by have h7 : td.length ≤ 90000 := htd; have h8 : _ ≤ td.length + 1 := ht1; omega) hHS1.out)
  rw [Hp.out] at HC2
  have hpi : ((i + 1 : Nat) : Int) = (i : Int) + 1 := by omega
  rw [hpi] at HC2
  clear ht1
  go_wp2_with fail
  refine HC2.out.mono ?_
  rintro e w2 ⟨rfl, G2⟩
  have HG2 := Box.mk (HG.out _ _ G2)
  clear G2
  go_wp2_with fail
  go_end0
  exact ⟨rfl, HG2.out⟩

set_option maxHeartbeats 2000000 in
set_option maxRecDepth 100000 in
theorem from_closure (hM : LkM 86 w B kb sb (.slice (some ⟨lb, lo, none⟩) n c) n S R td tv bad) (hn : n ≤ 8000) (hB : B ≤ w.heap.size) (htd : td.length ≤ 90000) (hS : SOk n S) {i : Nat} {s : List Int} (hs : S i = some s) (hnc : n ≤ c)
    {x : Ins} (hI : IsI w lb (lo + i * 8) x) (hlB : lb < B) (hx : insB n x = true) (hop : x.f0 = 9) :
    Calls Tryz.prog 55 #[.pointer (some ⟨kb, 0, none⟩), .int .i64 i] w fun e w' => e = .returned (.tuple #[]) ∧
      LkGot 86 B kb sb (.slice (some ⟨lb, lo, none⟩) n c) n S R ((stNext (sIns x) i s).foldl (stCome n) ⟨S, td, bad || !stOk (sIns x) s⟩) w w' := by
  obtain ⟨hi, hs0, hsl, hz0, hz1⟩ := hS i s hs
  have a0 := hM.at0.1
  have a1 := hM.at0.2.1
  have hslot := hM.slot hi
  rw [hs] at hslot
  simp only at hslot
  have hrow := hM.rowAt hs
  obtain ⟨r, hr⟩ : ∃ r, R i = r := ⟨_, rfl⟩
  rw [hr] at hrow hslot
  have hpos : 0 < s.length := by cases s with | nil => exact absurd rfl hs0 | cons => simp
  obtain ⟨p, hp⟩ : ∃ p, s.length = p + 1 := ⟨s.length - 1, by omega⟩
  have hcl := ownI_cell hrow (j := p) (by omega)
  rw [stop_getD s p hp] at hcl
  have hcap : p + 1 ≤ r.2 := by
    rcases hrow.2 with ⟨h1, _⟩ | ⟨g', cap', cur, hv, _, _, h2, _⟩
    · cases h1
    · simp only [Value.slice.injEq, Option.some.injEq, Addr.mk.injEq, and_true] at hv
      obtain ⟨rfl, -, rfl⟩ := hv
      omega
  obtain ⟨z, hz⟩ : ∃ z, stop s = z := ⟨_, rfl⟩
  rw [hz] at hcl hz0 hz1
  rw [hp] at hslot hsl
  have i0 := hI.ex.1
  have i1 := hI.ex.2.1
  have HM := Box.mk hM
  have HS := Box.mk hS
  have Hs := Box.mk hs
  have Hr := Box.mk hr
  have Hrow := Box.mk hrow
  have Hp := Box.mk hp
  have Hz := Box.mk hz
  have Hs0 := Box.mk hs0
  have hHS := Box.mk (fun j t h => (hS j t h).2.2.1)
  have HI := Box.mk hI
  have hA : 0 ≤ x.f1 ∧ x.f1 < n := by
    have h2 := hx
    unfold insB at h2
    rw [hop] at h2
    simp [hop] at h2
    omega
  obtain ⟨q, hq⟩ : ∃ q : Nat, x.f1 = q := ⟨x.f1.toNat, by omega⟩
  have hq8 : q ≤ 8000 := by omega
  rw [hq] at i1
  have hF : (stNext (sIns x) i s).foldl (stCome n) ⟨S, td, bad || !stOk (sIns x) s⟩ = stCome n (stCome n ⟨S, td, bad⟩ (q, [0])) (i + 1, s) := by
    simp [sIns, hop, stNext, stOk, hq]
  rw [hF]
  clear hF
  rw [hop] at i0
  have hin : (i : Int) < (n : Int) := by omega
  have hi8 : i + 1 ≤ 8000 := by omega
  clear hM hS hs hr hrow hp hz hs0 hI hx hpos hA hq
  have hA : Below w.heap.size w (w.alloc (.cells #[.int .i64 0] 3)) := (Below.refl _ w).alloc (Nat.le_refl _) _
  have HA := Box.mk hA
  have hlit : ownI (w.alloc (.cells #[.int .i64 0] 3)) 0 w.heap.size 1 [0] := by
    have := World.ownsRow_lit (base := 0) (e := 3) (size := 1) w #[.int .i64 0] 1 (Nat.zero_le _) (by decide) rfl
    exact this
  have HC := Box.mk (come_is (HM.out.below hA) hn q hq8 hlit (by simp) (by simp) (Nat.le_trans hB hA.size) (by omega) hHS.out)
  clear hlit hA
  go_enter Tryz.func55, Tryz.ntmps55
  go_wp2_with fail
  refine HC.out.mono ?_
  rintro e w1 ⟨rfl, G0⟩
  have G := G0.pre (Below.mono HA.out hB) HA.out.size
  clear G0
  obtain ⟨⟨R1, tv1, hM1, hR1⟩, k1, z1⟩ := G
  have HK1 := Box.mk k1
  have HZ1 := Box.mk z1
  have HM1 := Box.mk hM1
  have HR1 := Box.mk hR1
  have hs1 := stCome_keep (n := n) (k := ⟨S, td, bad⟩) (p := (q, [0])) Hs.out
  have hrow1 := hM1.rowAt hs1
  rw [hR1 i (by rw [Hs.out]; simp), Hr.out] at hrow1
  have Hrow1 := Box.mk hrow1
  have hS1 : SOk n (stCome n ⟨S, td, bad⟩ (q, [0])).S := HS.out.come ⟨by simp, by show (0 : Int) ≤ stop [0]; decide⟩
  have ht1 := stCome_todo n ⟨S, td, bad⟩ (q, [0])
  have hHS1 := Box.mk (fun j t h => (hS1 j t h).2.2.1)
  have HG := Box.mk (fun (k2 : StK) (w2 : World) (G2 : LkGot 86 B kb sb (.slice (some ⟨lb, lo, none⟩) n c) n (stCome n ⟨S, td, bad⟩ (q, [0])).S R1 k2 w1 w2) => (show LkGot 86 B kb sb (.slice (some ⟨lb, lo, none⟩) n c) n S R k2 w w2 from by
    obtain ⟨⟨R2, tv2, hM2, hR2⟩, k2', z2⟩ := G2
    exact ⟨⟨R2, tv2, hM2, fun j hj => by
      obtain ⟨t, ht⟩ := Option.ne_none_iff_exists'.1 hj
      rw [hR2 j (by rw [stCome_keep (n := n) (k := ⟨S, td, bad⟩) (p := (q, [0])) ht]; simp), HR1.out j hj]⟩, HK1.out.trans k2', Nat.le_trans HZ1.out z2⟩))
  clear hM1 hR1 k1 z1 hs1 hrow1 hS1 HC
  have HC2 := Box.mk (come_is HM1.out hn (i + 1) hi8 Hrow1.out Hs0.out (by rw [Hp.out]; omega) (Nat.le_trans hB HZ1.out) (by have h7 : td.length ≤ 90000 := htd; have h8 : _ ≤ td.length + 1 := ht1; omega) hHS1.out)
  rw [Hp.out] at HC2
  have hpi : ((i + 1 : Nat) : Int) = (i : Int) + 1 := by omega
  rw [hpi] at HC2
  clear ht1
  go_wp2_with fail
  refine HC2.out.mono ?_
  rintro e w2 ⟨rfl, G2⟩
  have HG2 := Box.mk (HG.out _ _ G2)
  clear G2
  go_wp2_with fail
  go_end0
  exact ⟨rfl, HG2.out⟩

set_option maxHeartbeats 2000000 in
set_option maxRecDepth 100000 in
theorem from_push (hM : LkM 86 w B kb sb (.slice (some ⟨lb, lo, none⟩) n c) n S R td tv bad) (hn : n ≤ 8000) (hB : B ≤ w.heap.size) (htd : td.length ≤ 90000) (hS : SOk n S) {i : Nat} {s : List Int} (hs : S i = some s) (hnc : n ≤ c)
    {x : Ins} (hI : IsI w lb (lo + i * 8) x) (hlB : lb < B) (hx : insB n x = true) (hop : x.f0 = 11) :
    Calls Tryz.prog 55 #[.pointer (some ⟨kb, 0, none⟩), .int .i64 i] w fun e w' => e = .returned (.tuple #[]) ∧
      LkGot 86 B kb sb (.slice (some ⟨lb, lo, none⟩) n c) n S R ((stNext (sIns x) i s).foldl (stCome n) ⟨S, td, bad || !stOk (sIns x) s⟩) w w' := by
  obtain ⟨hi, hs0, hsl, hz0, hz1⟩ := hS i s hs
  have a0 := hM.at0.1
  have a1 := hM.at0.2.1
  have hslot := hM.slot hi
  rw [hs] at hslot
  simp only at hslot
  have hrow := hM.rowAt hs
  obtain ⟨r, hr⟩ : ∃ r, R i = r := ⟨_, rfl⟩
  rw [hr] at hrow hslot
  have hpos : 0 < s.length := by cases s with | nil => exact absurd rfl hs0 | cons => simp
  obtain ⟨p, hp⟩ : ∃ p, s.length = p + 1 := ⟨s.length - 1, by omega⟩
  have hcl := ownI_cell hrow (j := p) (by omega)
  rw [stop_getD s p hp] at hcl
  have hcap : p + 1 ≤ r.2 := by
    rcases hrow.2 with ⟨h1, _⟩ | ⟨g', cap', cur, hv, _, _, h2, _⟩
    · cases h1
    · simp only [Value.slice.injEq, Option.some.injEq, Addr.mk.injEq, and_true] at hv
      obtain ⟨rfl, -, rfl⟩ := hv
      omega
  obtain ⟨z, hz⟩ : ∃ z, stop s = z := ⟨_, rfl⟩
  rw [hz] at hcl hz0 hz1
  rw [hp] at hslot hsl
  have i0 := hI.ex.1
  have i1 := hI.ex.2.1
  have HM := Box.mk hM
  have HS := Box.mk hS
  have Hs := Box.mk hs
  have Hr := Box.mk hr
  have Hrow := Box.mk hrow
  have Hp := Box.mk hp
  have Hz := Box.mk hz
  have Hs0 := Box.mk hs0
  have hHS := Box.mk (fun j t h => (hS j t h).2.2.1)
  have HI := Box.mk hI
  have hF : (stNext (sIns x) i s).foldl (stCome n) ⟨S, td, bad || !stOk (sIns x) s⟩ = stCome n ⟨S, td, bad⟩ (i + 1, s.dropLast ++ [stop s + 1]) := by
    simp [sIns, hop, stNext, stOk]
  rw [hF]
  clear hF
  rw [hop] at i0
  have hin : (i : Int) < (n : Int) := by omega
  have hi8 : i + 1 ≤ 8000 := by omega
  clear hM hS hs hr hrow hp hz hs0 hI hx hpos
  have HCl := Box.mk (Tryz.slices_Clone_int r.1 0 s.length r.2 s w (Nat.le_refl _) (by rw [Hp.out]; omega) (fun j hj => by rw [Nat.zero_add]; exact ownI_cell Hrow.out hj))
  rw [List.take_length, Hp.out] at HCl
  go_enter Tryz.func55, Tryz.ntmps55
  go_wp2_with fail
  refine HCl.out.mono ?_
  rintro e w1 ⟨v', rfl, hown, -, k1⟩
  obtain ⟨gg, cc, rfl, hgg⟩ := own_form hown
  have hcc : p + 1 ≤ cc := by
    rcases hown.2 with ⟨h1, _⟩ | ⟨g', cap', cur, hv, _, _, h2, _⟩
    · cases h1
    · simp only [Value.slice.injEq, Option.some.injEq, Addr.mk.injEq, and_true] at hv
      obtain ⟨rfl, -, rfl⟩ := hv
      omega
  have K1 := Box.mk k1
  have Hgg := Box.mk hgg
  have hg := World.ownsRow.cellAt hown p (by omega)
  rw [List.getElem?_map, List.getElem?_eq_getElem (by rw [Hp.out]; omega)] at hg
  have hsp : s[p]'(by rw [Hp.out]; omega) = z := by
    rw [← Hz.out, ← stop_getD s p Hp.out, List.getD_eq_getElem?_getD, List.getElem?_eq_getElem (by rw [Hp.out]; omega)]; rfl
  rw [hsp, Option.map_some] at hg
  have hgf := World.ownsRow.frozenAt hown p
  have hst := (World.ownsRow.stored hown p (.int .i64 (z + 1))).1
  have hrows : (List.map (Value.int .i64) s).set p (.int .i64 (z + 1)) = rowI (s.dropLast ++ [stop s + 1]) := by
    rw [Hz.out]; exact set_last s p (z + 1) Hp.out
  rw [hrows] at hst
  have hlen : (s.dropLast ++ [stop s + 1]).length = p + 1 := by simp [Hp.out]
  have hst2 : ownI (w1.setCell ⟨gg, p, none⟩ (.int .i64 (z + 1))) w.heap.size gg cc (s.dropLast ++ [stop s + 1]) := by
    unfold ownI; rw [hlen]; exact hst
  have hkA : Below w.heap.size w (w1.setCell ⟨gg, p, none⟩ (.int .i64 (z + 1))) := k1.setCell (p := ⟨gg, p, none⟩) hgg _
  have HKA := Box.mk hkA
  have HC := Box.mk (come_is (HM.out.below hkA) hn (i + 1) hi8 hst2 (by simp) (by rw [hlen]; omega) (Nat.le_trans hB hkA.size) (by omega) hHS.out)
  rw [hlen] at HC
  have hpi : ((i + 1 : Nat) : Int) = (i : Int) + 1 := by omega
  rw [hpi] at HC
  clear hst hst2 hkA hown k1 hgg hrows hlen HCl
  go_wp2_with fail
  refine HC.out.mono ?_
  rintro e w2 ⟨rfl, G2⟩
  have HG2 := Box.mk (G2.pre (Below.mono HKA.out hB) HKA.out.size)
  clear G2
  go_wp2_with fail
  go_end0
  exact ⟨rfl, HG2.out⟩

set_option maxHeartbeats 2000000 in
set_option maxRecDepth 100000 in
theorem from_frame (hM : LkM 86 w B kb sb (.slice (some ⟨lb, lo, none⟩) n c) n S R td tv bad) (hn : n ≤ 8000) (hB : B ≤ w.heap.size) (htd : td.length ≤ 90000) (hS : SOk n S) {i : Nat} {s : List Int} (hs : S i = some s) (hnc : n ≤ c)
    {x : Ins} (hI : IsI w lb (lo + i * 8) x) (hlB : lb < B) (hx : insB n x = true) (hop : x.f0 = 10) :
    Calls Tryz.prog 55 #[.pointer (some ⟨kb, 0, none⟩), .int .i64 i] w fun e w' => e = .returned (.tuple #[]) ∧
      LkGot 86 B kb sb (.slice (some ⟨lb, lo, none⟩) n c) n S R ((stNext (sIns x) i s).foldl (stCome n) ⟨S, td, bad || !stOk (sIns x) s⟩) w w' := by
  obtain ⟨hi, hs0, hsl, hz0, hz1⟩ := hS i s hs
  have a0 := hM.at0.1
  have a1 := hM.at0.2.1
  have hslot := hM.slot hi
  rw [hs] at hslot
  simp only at hslot
  have hrow := hM.rowAt hs
  obtain ⟨r, hr⟩ : ∃ r, R i = r := ⟨_, rfl⟩
  rw [hr] at hrow hslot
  have hpos : 0 < s.length := by cases s with | nil => exact absurd rfl hs0 | cons => simp
  obtain ⟨p, hp⟩ : ∃ p, s.length = p + 1 := ⟨s.length - 1, by omega⟩
  have hcl := ownI_cell hrow (j := p) (by omega)
  rw [stop_getD s p hp] at hcl
  have hcap : p + 1 ≤ r.2 := by
    rcases hrow.2 with ⟨h1, _⟩ | ⟨g', cap', cur, hv, _, _, h2, _⟩
    · cases h1
    · simp only [Value.slice.injEq, Option.some.injEq, Addr.mk.injEq, and_true] at hv
      obtain ⟨rfl, -, rfl⟩ := hv
      omega
  obtain ⟨z, hz⟩ : ∃ z, stop s = z := ⟨_, rfl⟩
  rw [hz] at hcl hz0 hz1
  rw [hp] at hslot hsl
  have i0 := hI.ex.1
  have i1 := hI.ex.2.1
  have HM := Box.mk hM
  have HS := Box.mk hS
  have Hs := Box.mk hs
  have Hr := Box.mk hr
  have Hrow := Box.mk hrow
  have Hp := Box.mk hp
  have Hz := Box.mk hz
  have Hs0 := Box.mk hs0
  have hHS := Box.mk (fun j t h => (hS j t h).2.2.1)
  have HI := Box.mk hI
  have hA : 0 ≤ x.f1 ∧ x.f1 < n := by
    have h2 := hx
    unfold insB at h2
    rw [hop] at h2
    simp [hop] at h2
    omega
  obtain ⟨q, hq⟩ : ∃ q : Nat, x.f1 = q := ⟨x.f1.toNat, by omega⟩
  have hq8 : q ≤ 8000 := by omega
  rw [hq] at i1
  have hF : (stNext (sIns x) i s).foldl (stCome n) ⟨S, td, bad || !stOk (sIns x) s⟩ = stCome n (stCome n ⟨S, td, bad⟩ (q, s)) (i + 1, s ++ [0]) := by
    simp [sIns, hop, stNext, stOk, hq]
  rw [hF]
  clear hF
  rw [hop] at i0
  have hin : (i : Int) < (n : Int) := by omega
  have hi8 : i + 1 ≤ 8000 := by omega
  clear hM hS hs hr hrow hp hz hs0 hI hx hpos hA hq
  have HC := Box.mk (come_is HM.out hn q hq8 Hrow.out Hs0.out (by rw [Hp.out]; omega) hB (by omega) hHS.out)
  rw [Hp.out] at HC
  go_enter Tryz.func55, Tryz.ntmps55
  go_wp2_with fail
  refine HC.out.mono ?_
  rintro e w1 ⟨rfl, G⟩
  obtain ⟨⟨R1, tv1, hM1, hR1⟩, k1, z1⟩ := G
  have HK1 := Box.mk k1
  have HZ1 := Box.mk z1
  have HM1 := Box.mk hM1
  have HR1 := Box.mk hR1
  have hs1 := stCome_keep (n := n) (k := ⟨S, td, bad⟩) (p := (q, s)) Hs.out
  have hrow1 := hM1.rowAt hs1
  rw [hR1 i (by rw [Hs.out]; simp), Hr.out] at hrow1
  have Hrow1 := Box.mk hrow1
  have hS1 : SOk n (stCome n ⟨S, td, bad⟩ (q, s)).S := HS.out.come ⟨Hs0.out, by show 0 ≤ stop s; rw [Hz.out]; exact hz0⟩
  have ht1 := stCome_todo n ⟨S, td, bad⟩ (q, s)
  have hHS1 := Box.mk (fun j t h => (hS1 j t h).2.2.1)
  have HG := Box.mk (fun (k2 : StK) (w2 : World) (G2 : LkGot 86 B kb sb (.slice (some ⟨lb, lo, none⟩) n c) n (stCome n ⟨S, td, bad⟩ (q, s)).S R1 k2 w1 w2) => (show LkGot 86 B kb sb (.slice (some ⟨lb, lo, none⟩) n c) n S R k2 w w2 from by
    obtain ⟨⟨R2, tv2, hM2, hR2⟩, k2', z2⟩ := G2
    exact ⟨⟨R2, tv2, hM2, fun j hj => by
      obtain ⟨t, ht⟩ := Option.ne_none_iff_exists'.1 hj
      rw [hR2 j (by rw [stCome_keep (n := n) (k := ⟨S, td, bad⟩) (p := (q, s)) ht]; simp), HR1.out j hj]⟩, HK1.out.trans k2', Nat.le_trans HZ1.out z2⟩))
  clear hM1 hR1 k1 z1 hs1 hrow1 hS1 HC
  have HCl := Box.mk (Tryz.slices_Clone_int r.1 0 s.length r.2 s w1 (Nat.le_refl _) (by rw [Hp.out]; omega) (fun j hj => by rw [Nat.zero_add]; exact ownI_cell Hrow1.out hj))
  rw [List.take_length, Hp.out] at HCl
  go_wp2_with fail
  refine HCl.out.mono ?_
  rintro e w2 ⟨v', rfl, hown, -, k2⟩
  have K2 := Box.mk k2
  have Ho2 := Box.mk hown
  obtain ⟨i0', hi0, hz0', hz1', hz2'⟩ := info_parts infoInt
  have Hi := Box.mk (And.intro hi0 (And.intro hz0' (And.intro hz1' hz2')))
  clear hi0 hz0' hz1' hz2' HCl k2 hown
  go_wp2_with (at_builtin; refine wpList_append_lies _ rfl _ _ 31 rfl w1.heap.size 3 i0' (.int .i64 0) 1 8 Tryz.underlying31 Hi.out.1 Hi.out.2.1 Hi.out.2.2.1 Hi.out.2.2.2 rfl (by decide) _ _ _ rfl (Ho2.out.alloc _) ⟨w2.heap.size, 0, none⟩ 1 1 [.int .i64 0] rfl rfl ?c1 ?c2 (by decide) ?c3 ?c4 ?c5 _ rfl ?_)
  case c1 => exact World.news_of_block (cs := #[.int .i64 0]) (t := 3) (fr := (0, 0)) (heap_alloc_new _ _)
  case c2 => intro u hu; simp at hu; subst hu; rfl
  case c3 => unfold maxLen; omega
  case c4 => omega
  case c5 => have := K2.out.size; simp; omega
  intro g5 cap5 w5 hown5 hgrow hat hlt5
  have hkA : Below w1.heap.size w1 w5 := (K2.out.alloc K2.out.size _).grown hgrow (Nat.le_trans K2.out.size (by simp)) (fun k hk => (Ho2.out.lt k hk).1)
  have HKA := Box.mk hkA
  have hlen : (s ++ [0]).length = p + 1 + 1 := by simp [Hp.out]
  have hst2 : ownI w5 w1.heap.size g5 cap5 (s ++ [0]) := by
    unfold ownI; rw [hlen]
    have : rowI (s ++ [0]) = List.map (Value.int .i64) s ++ [.int .i64 0] := by simp [rowI]
    rw [this]; exact hown5
  have HC2 := Box.mk (come_is (HM1.out.below hkA) hn (i + 1) hi8 hst2 (by simp) (by rw [hlen]; omega) (Nat.le_trans hB (Nat.le_trans HZ1.out hkA.size)) (by have h7 : td.length ≤ 90000 := htd; have h8 : _ ≤ td.length + 1 := ht1; omega) hHS1.out)
  rw [hlen] at HC2
  have hpi : ((i + 1 : Nat) : Int) = (i : Int) + 1 := by omega
  rw [hpi] at HC2
  clear ht1 hst2 hkA hown5 hgrow hat hlen Ho2
  go_wp2_with fail
  refine HC2.out.mono ?_
  rintro e w6 ⟨rfl, G2⟩
  have HG2 := Box.mk (HG.out _ _ (G2.pre (Below.mono HKA.out (Nat.le_trans hB HZ1.out)) HKA.out.size))
  clear G2
  go_wp2_with fail
  go_end0
  exact ⟨rfl, HG2.out⟩

set_option maxHeartbeats 2000000 in
set_option maxRecDepth 100000 in
theorem from_on1 (hM : LkM 86 w B kb sb (.slice (some ⟨lb, lo, none⟩) n c) n S R td tv bad) (hn : n ≤ 8000) (hB : B ≤ w.heap.size) (htd : td.length ≤ 90000) (hS : SOk n S) {i : Nat} {s : List Int} (hs : S i = some s) (hnc : n ≤ c)
    {x : Ins} (hI : IsI w lb (lo + i * 8) x) (hlB : lb < B) (hx : insB n x = true) (hop : x.f0 = 1) :
    Calls Tryz.prog 55 #[.pointer (some ⟨kb, 0, none⟩), .int .i64 i] w fun e w' => e = .returned (.tuple #[]) ∧
      LkGot 86 B kb sb (.slice (some ⟨lb, lo, none⟩) n c) n S R ((stNext (sIns x) i s).foldl (stCome n) ⟨S, td, bad || !stOk (sIns x) s⟩) w w' := by
  obtain ⟨hi, hs0, hsl, hz0, hz1⟩ := hS i s hs
  have a0 := hM.at0.1
  have a1 := hM.at0.2.1
  have hslot := hM.slot hi
  rw [hs] at hslot
  simp only at hslot
  have hrow := hM.rowAt hs
  obtain ⟨r, hr⟩ : ∃ r, R i = r := ⟨_, rfl⟩
  rw [hr] at hrow hslot
  have hpos : 0 < s.length := by cases s with | nil => exact absurd rfl hs0 | cons => simp
  obtain ⟨p, hp⟩ : ∃ p, s.length = p + 1 := ⟨s.length - 1, by omega⟩
  have hcl := ownI_cell hrow (j := p) (by omega)
  rw [stop_getD s p hp] at hcl
  have hcap : p + 1 ≤ r.2 := by
    rcases hrow.2 with ⟨h1, _⟩ | ⟨g', cap', cur, hv, _, _, h2, _⟩
    · cases h1
    · simp only [Value.slice.injEq, Option.some.injEq, Addr.mk.injEq, and_true] at hv
      obtain ⟨rfl, -, rfl⟩ := hv
      omega
  obtain ⟨z, hz⟩ : ∃ z, stop s = z := ⟨_, rfl⟩
  rw [hz] at hcl hz0 hz1
  rw [hp] at hslot hsl
  have i0 := hI.ex.1
  have i1 := hI.ex.2.1
  have HM := Box.mk hM
  have HS := Box.mk hS
  have Hs := Box.mk hs
  have Hr := Box.mk hr
  have Hrow := Box.mk hrow
  have Hp := Box.mk hp
  have Hz := Box.mk hz
  have Hs0 := Box.mk hs0
  have hHS := Box.mk (fun j t h => (hS j t h).2.2.1)
  have HI := Box.mk hI
  have hF : (stNext (sIns x) i s).foldl (stCome n) ⟨S, td, bad || !stOk (sIns x) s⟩ = stCome n ⟨S, td, bad⟩ (i + 1, s) := by
    simp [sIns, hop, stNext, stOk]
  rw [hF]
  clear hF
  rw [hop] at i0
  have hin : (i : Int) < (n : Int) := by omega
  have hi8 : i + 1 ≤ 8000 := by omega
  clear hM hS hs hr hrow hp hz hs0 hI hx hpos
  have HC := Box.mk (come_is HM.out hn (i + 1) hi8 Hrow.out Hs0.out (by rw [Hp.out]; omega) hB (by omega) hHS.out)
  rw [Hp.out] at HC
  have hpi : ((i + 1 : Nat) : Int) = (i : Int) + 1 := by omega
  rw [hpi] at HC
  go_enter Tryz.func55, Tryz.ntmps55
  go_wp2_with fail
  refine HC.out.mono ?_
  rintro e w1 ⟨rfl, G⟩
  go_wp2_with fail
  go_end0
  exact ⟨rfl, G⟩

set_option maxHeartbeats 2000000 in
set_option maxRecDepth 100000 in
theorem from_on2 (hM : LkM 86 w B kb sb (.slice (some ⟨lb, lo, none⟩) n c) n S R td tv bad) (hn : n ≤ 8000) (hB : B ≤ w.heap.size) (htd : td.length ≤ 90000) (hS : SOk n S) {i : Nat} {s : List Int} (hs : S i = some s) (hnc : n ≤ c)
    {x : Ins} (hI : IsI w lb (lo + i * 8) x) (hlB : lb < B) (hx : insB n x = true) (hop : x.f0 = 2) :
    Calls Tryz.prog 55 #[.pointer (some ⟨kb, 0, none⟩), .int .i64 i] w fun e w' => e = .returned (.tuple #[]) ∧
      LkGot 86 B kb sb (.slice (some ⟨lb, lo, none⟩) n c) n S R ((stNext (sIns x) i s).foldl (stCome n) ⟨S, td, bad || !stOk (sIns x) s⟩) w w' := by
  obtain ⟨hi, hs0, hsl, hz0, hz1⟩ := hS i s hs
  have a0 := hM.at0.1
  have a1 := hM.at0.2.1
  have hslot := hM.slot hi
  rw [hs] at hslot
  simp only at hslot
  have hrow := hM.rowAt hs
  obtain ⟨r, hr⟩ : ∃ r, R i = r := ⟨_, rfl⟩
  rw [hr] at hrow hslot
  have hpos : 0 < s.length := by cases s with | nil => exact absurd rfl hs0 | cons => simp
  obtain ⟨p, hp⟩ : ∃ p, s.length = p + 1 := ⟨s.length - 1, by omega⟩
  have hcl := ownI_cell hrow (j := p) (by omega)
  rw [stop_getD s p hp] at hcl
  have hcap : p + 1 ≤ r.2 := by
    rcases hrow.2 with ⟨h1, _⟩ | ⟨g', cap', cur, hv, _, _, h2, _⟩
    · cases h1
    · simp only [Value.slice.injEq, Option.some.injEq, Addr.mk.injEq, and_true] at hv
      obtain ⟨rfl, -, rfl⟩ := hv
      omega
  obtain ⟨z, hz⟩ : ∃ z, stop s = z := ⟨_, rfl⟩
  rw [hz] at hcl hz0 hz1
  rw [hp] at hslot hsl
  have i0 := hI.ex.1
  have i1 := hI.ex.2.1
  have HM := Box.mk hM
  have HS := Box.mk hS
  have Hs := Box.mk hs
  have Hr := Box.mk hr
  have Hrow := Box.mk hrow
  have Hp := Box.mk hp
  have Hz := Box.mk hz
  have Hs0 := Box.mk hs0
  have hHS := Box.mk (fun j t h => (hS j t h).2.2.1)
  have HI := Box.mk hI
  have hF : (stNext (sIns x) i s).foldl (stCome n) ⟨S, td, bad || !stOk (sIns x) s⟩ = stCome n ⟨S, td, bad⟩ (i + 1, s) := by
    simp [sIns, hop, stNext, stOk]
  rw [hF]
  clear hF
  rw [hop] at i0
  have hin : (i : Int) < (n : Int) := by omega
  have hi8 : i + 1 ≤ 8000 := by omega
  clear hM hS hs hr hrow hp hz hs0 hI hx hpos
  have HC := Box.mk (come_is HM.out hn (i + 1) hi8 Hrow.out Hs0.out (by rw [Hp.out]; omega) hB (by omega) hHS.out)
  rw [Hp.out] at HC
  have hpi : ((i + 1 : Nat) : Int) = (i : Int) + 1 := by omega
  rw [hpi] at HC
  go_enter Tryz.func55, Tryz.ntmps55
  go_wp2_with fail
  refine HC.out.mono ?_
  rintro e w1 ⟨rfl, G⟩
  go_wp2_with fail
  go_end0
  exact ⟨rfl, G⟩

set_option maxHeartbeats 2000000 in
set_option maxRecDepth 100000 in
theorem from_on3 (hM : LkM 86 w B kb sb (.slice (some ⟨lb, lo, none⟩) n c) n S R td tv bad) (hn : n ≤ 8000) (hB : B ≤ w.heap.size) (htd : td.length ≤ 90000) (hS : SOk n S) {i : Nat} {s : List Int} (hs : S i = some s) (hnc : n ≤ c)
    {x : Ins} (hI : IsI w lb (lo + i * 8) x) (hlB : lb < B) (hx : insB n x = true) (hop : x.f0 = 3) :
    Calls Tryz.prog 55 #[.pointer (some ⟨kb, 0, none⟩), .int .i64 i] w fun e w' => e = .returned (.tuple #[]) ∧
      LkGot 86 B kb sb (.slice (some ⟨lb, lo, none⟩) n c) n S R ((stNext (sIns x) i s).foldl (stCome n) ⟨S, td, bad || !stOk (sIns x) s⟩) w w' := by
  obtain ⟨hi, hs0, hsl, hz0, hz1⟩ := hS i s hs
  have a0 := hM.at0.1
  have a1 := hM.at0.2.1
  have hslot := hM.slot hi
  rw [hs] at hslot
  simp only at hslot
  have hrow := hM.rowAt hs
  obtain ⟨r, hr⟩ : ∃ r, R i = r := ⟨_, rfl⟩
  rw [hr] at hrow hslot
  have hpos : 0 < s.length := by cases s with | nil => exact absurd rfl hs0 | cons => simp
  obtain ⟨p, hp⟩ : ∃ p, s.length = p + 1 := ⟨s.length - 1, by omega⟩
  have hcl := ownI_cell hrow (j := p) (by omega)
  rw [stop_getD s p hp] at hcl
  have hcap : p + 1 ≤ r.2 := by
    rcases hrow.2 with ⟨h1, _⟩ | ⟨g', cap', cur, hv, _, _, h2, _⟩
    · cases h1
    · simp only [Value.slice.injEq, Option.some.injEq, Addr.mk.injEq, and_true] at hv
      obtain ⟨rfl, -, rfl⟩ := hv
      omega
  obtain ⟨z, hz⟩ : ∃ z, stop s = z := ⟨_, rfl⟩
  rw [hz] at hcl hz0 hz1
  rw [hp] at hslot hsl
  have i0 := hI.ex.1
  have i1 := hI.ex.2.1
  have HM := Box.mk hM
  have HS := Box.mk hS
  have Hs := Box.mk hs
  have Hr := Box.mk hr
  have Hrow := Box.mk hrow
  have Hp := Box.mk hp
  have Hz := Box.mk hz
  have Hs0 := Box.mk hs0
  have hHS := Box.mk (fun j t h => (hS j t h).2.2.1)
  have HI := Box.mk hI
  have hF : (stNext (sIns x) i s).foldl (stCome n) ⟨S, td, bad || !stOk (sIns x) s⟩ = stCome n ⟨S, td, bad⟩ (i + 1, s) := by
    simp [sIns, hop, stNext, stOk]
  rw [hF]
  clear hF
  rw [hop] at i0
  have hin : (i : Int) < (n : Int) := by omega
  have hi8 : i + 1 ≤ 8000 := by omega
  clear hM hS hs hr hrow hp hz hs0 hI hx hpos
  have HC := Box.mk (come_is HM.out hn (i + 1) hi8 Hrow.out Hs0.out (by rw [Hp.out]; omega) hB (by omega) hHS.out)
  rw [Hp.out] at HC
  have hpi : ((i + 1 : Nat) : Int) = (i : Int) + 1 := by omega
  rw [hpi] at HC
  go_enter Tryz.func55, Tryz.ntmps55
  go_wp2_with fail
  refine HC.out.mono ?_
  rintro e w1 ⟨rfl, G⟩
  go_wp2_with fail
  go_end0
  exact ⟨rfl, G⟩

set_option maxHeartbeats 2000000 in
set_option maxRecDepth 100000 in
theorem from_on4 (hM : LkM 86 w B kb sb (.slice (some ⟨lb, lo, none⟩) n c) n S R td tv bad) (hn : n ≤ 8000) (hB : B ≤ w.heap.size) (htd : td.length ≤ 90000) (hS : SOk n S) {i : Nat} {s : List Int} (hs : S i = some s) (hnc : n ≤ c)
    {x : Ins} (hI : IsI w lb (lo + i * 8) x) (hlB : lb < B) (hx : insB n x = true) (hop : x.f0 = 4) :
    Calls Tryz.prog 55 #[.pointer (some ⟨kb, 0, none⟩), .int .i64 i] w fun e w' => e = .returned (.tuple #[]) ∧
      LkGot 86 B kb sb (.slice (some ⟨lb, lo, none⟩) n c) n S R ((stNext (sIns x) i s).foldl (stCome n) ⟨S, td, bad || !stOk (sIns x) s⟩) w w' := by
  obtain ⟨hi, hs0, hsl, hz0, hz1⟩ := hS i s hs
  have a0 := hM.at0.1
  have a1 := hM.at0.2.1
  have hslot := hM.slot hi
  rw [hs] at hslot
  simp only at hslot
  have hrow := hM.rowAt hs
  obtain ⟨r, hr⟩ : ∃ r, R i = r := ⟨_, rfl⟩
  rw [hr] at hrow hslot
  have hpos : 0 < s.length := by cases s with | nil => exact absurd rfl hs0 | cons => simp
  obtain ⟨p, hp⟩ : ∃ p, s.length = p + 1 := ⟨s.length - 1, by omega⟩
  have hcl := ownI_cell hrow (j := p) (by omega)
  rw [stop_getD s p hp] at hcl
  have hcap : p + 1 ≤ r.2 := by
    rcases hrow.2 with ⟨h1, _⟩ | ⟨g', cap', cur, hv, _, _, h2, _⟩
    · cases h1
    · simp only [Value.slice.injEq, Option.some.injEq, Addr.mk.injEq, and_true] at hv
      obtain ⟨rfl, -, rfl⟩ := hv
      omega
  obtain ⟨z, hz⟩ : ∃ z, stop s = z := ⟨_, rfl⟩
  rw [hz] at hcl hz0 hz1
  rw [hp] at hslot hsl
  have i0 := hI.ex.1
  have i1 := hI.ex.2.1
  have HM := Box.mk hM
  have HS := Box.mk hS
  have Hs := Box.mk hs
  have Hr := Box.mk hr
  have Hrow := Box.mk hrow
  have Hp := Box.mk hp
  have Hz := Box.mk hz
  have Hs0 := Box.mk hs0
  have hHS := Box.mk (fun j t h => (hS j t h).2.2.1)
  have HI := Box.mk hI
  have hF : (stNext (sIns x) i s).foldl (stCome n) ⟨S, td, bad || !stOk (sIns x) s⟩ = stCome n ⟨S, td, bad⟩ (i + 1, s) := by
    simp [sIns, hop, stNext, stOk]
  rw [hF]
  clear hF
  rw [hop] at i0
  have hin : (i : Int) < (n : Int) := by omega
  have hi8 : i + 1 ≤ 8000 := by omega
  clear hM hS hs hr hrow hp hz hs0 hI hx hpos
  have HC := Box.mk (come_is HM.out hn (i + 1) hi8 Hrow.out Hs0.out (by rw [Hp.out]; omega) hB (by omega) hHS.out)
  rw [Hp.out] at HC
  have hpi : ((i + 1 : Nat) : Int) = (i : Int) + 1 := by omega
  rw [hpi] at HC
  go_enter Tryz.func55, Tryz.ntmps55
  go_wp2_with fail
  refine HC.out.mono ?_
  rintro e w1 ⟨rfl, G⟩
  go_wp2_with fail
  go_end0
  exact ⟨rfl, G⟩

set_option maxHeartbeats 2000000 in
set_option maxRecDepth 100000 in
theorem from_on5 (hM : LkM 86 w B kb sb (.slice (some ⟨lb, lo, none⟩) n c) n S R td tv bad) (hn : n ≤ 8000) (hB : B ≤ w.heap.size) (htd : td.length ≤ 90000) (hS : SOk n S) {i : Nat} {s : List Int} (hs : S i = some s) (hnc : n ≤ c)
    {x : Ins} (hI : IsI w lb (lo + i * 8) x) (hlB : lb < B) (hx : insB n x = true) (hop : x.f0 = 5) :
    Calls Tryz.prog 55 #[.pointer (some ⟨kb, 0, none⟩), .int .i64 i] w fun e w' => e = .returned (.tuple #[]) ∧
      LkGot 86 B kb sb (.slice (some ⟨lb, lo, none⟩) n c) n S R ((stNext (sIns x) i s).foldl (stCome n) ⟨S, td, bad || !stOk (sIns x) s⟩) w w' := by
  obtain ⟨hi, hs0, hsl, hz0, hz1⟩ := hS i s hs
  have a0 := hM.at0.1
  have a1 := hM.at0.2.1
  have hslot := hM.slot hi
  rw [hs] at hslot
  simp only at hslot
  have hrow := hM.rowAt hs
  obtain ⟨r, hr⟩ : ∃ r, R i = r := ⟨_, rfl⟩
  rw [hr] at hrow hslot
  have hpos : 0 < s.length := by cases s with | nil => exact absurd rfl hs0 | cons => simp
  obtain ⟨p, hp⟩ : ∃ p, s.length = p + 1 := ⟨s.length - 1, by omega⟩
  have hcl := ownI_cell hrow (j := p) (by omega)
  rw [stop_getD s p hp] at hcl
  have hcap : p + 1 ≤ r.2 := by
    rcases hrow.2 with ⟨h1, _⟩ | ⟨g', cap', cur, hv, _, _, h2, _⟩
    · cases h1
    · simp only [Value.slice.injEq, Option.some.injEq, Addr.mk.injEq, and_true] at hv
      obtain ⟨rfl, -, rfl⟩ := hv
      omega
  obtain ⟨z, hz⟩ : ∃ z, stop s = z := ⟨_, rfl⟩
  rw [hz] at hcl hz0 hz1
  rw [hp] at hslot hsl
  have i0 := hI.ex.1
  have i1 := hI.ex.2.1
  have HM := Box.mk hM
  have HS := Box.mk hS
  have Hs := Box.mk hs
  have Hr := Box.mk hr
  have Hrow := Box.mk hrow
  have Hp := Box.mk hp
  have Hz := Box.mk hz
  have Hs0 := Box.mk hs0
  have hHS := Box.mk (fun j t h => (hS j t h).2.2.1)
  have HI := Box.mk hI
  have hF : (stNext (sIns x) i s).foldl (stCome n) ⟨S, td, bad || !stOk (sIns x) s⟩ = stCome n ⟨S, td, bad⟩ (i + 1, s) := by
    simp [sIns, hop, stNext, stOk]
  rw [hF]
  clear hF
  rw [hop] at i0
  have hin : (i : Int) < (n : Int) := by omega
  have hi8 : i + 1 ≤ 8000 := by omega
  clear hM hS hs hr hrow hp hz hs0 hI hx hpos
  have HC := Box.mk (come_is HM.out hn (i + 1) hi8 Hrow.out Hs0.out (by rw [Hp.out]; omega) hB (by omega) hHS.out)
  rw [Hp.out] at HC
  have hpi : ((i + 1 : Nat) : Int) = (i : Int) + 1 := by omega
  rw [hpi] at HC
  go_enter Tryz.func55, Tryz.ntmps55
  go_wp2_with fail
  refine HC.out.mono ?_
  rintro e w1 ⟨rfl, G⟩
  go_wp2_with fail
  go_end0
  exact ⟨rfl, G⟩

set_option maxHeartbeats 2000000 in
set_option maxRecDepth 100000 in
theorem from_on6 (hM : LkM 86 w B kb sb (.slice (some ⟨lb, lo, none⟩) n c) n S R td tv bad) (hn : n ≤ 8000) (hB : B ≤ w.heap.size) (htd : td.length ≤ 90000) (hS : SOk n S) {i : Nat} {s : List Int} (hs : S i = some s) (hnc : n ≤ c)
    {x : Ins} (hI : IsI w lb (lo + i * 8) x) (hlB : lb < B) (hx : insB n x = true) (hop : x.f0 = 6) :
    Calls Tryz.prog 55 #[.pointer (some ⟨kb, 0, none⟩), .int .i64 i] w fun e w' => e = .returned (.tuple #[]) ∧
      LkGot 86 B kb sb (.slice (some ⟨lb, lo, none⟩) n c) n S R ((stNext (sIns x) i s).foldl (stCome n) ⟨S, td, bad || !stOk (sIns x) s⟩) w w' := by
  obtain ⟨hi, hs0, hsl, hz0, hz1⟩ := hS i s hs
  have a0 := hM.at0.1
  have a1 := hM.at0.2.1
  have hslot := hM.slot hi
  rw [hs] at hslot
  simp only at hslot
  have hrow := hM.rowAt hs
  obtain ⟨r, hr⟩ : ∃ r, R i = r := ⟨_, rfl⟩
  rw [hr] at hrow hslot
  have hpos : 0 < s.length := by cases s with | nil => exact absurd rfl hs0 | cons => simp
  obtain ⟨p, hp⟩ : ∃ p, s.length = p + 1 := ⟨s.length - 1, by omega⟩
  have hcl := ownI_cell hrow (j := p) (by omega)
  rw [stop_getD s p hp] at hcl
  have hcap : p + 1 ≤ r.2 := by
    rcases hrow.2 with ⟨h1, _⟩ | ⟨g', cap', cur, hv, _, _, h2, _⟩
    · cases h1
    · simp only [Value.slice.injEq, Option.some.injEq, Addr.mk.injEq, and_true] at hv
      obtain ⟨rfl, -, rfl⟩ := hv
      omega
  obtain ⟨z, hz⟩ : ∃ z, stop s = z := ⟨_, rfl⟩
  rw [hz] at hcl hz0 hz1
  rw [hp] at hslot hsl
  have i0 := hI.ex.1
  have i1 := hI.ex.2.1
  have HM := Box.mk hM
  have HS := Box.mk hS
  have Hs := Box.mk hs
  have Hr := Box.mk hr
  have Hrow := Box.mk hrow
  have Hp := Box.mk hp
  have Hz := Box.mk hz
  have Hs0 := Box.mk hs0
  have hHS := Box.mk (fun j t h => (hS j t h).2.2.1)
  have HI := Box.mk hI
  have hF : (stNext (sIns x) i s).foldl (stCome n) ⟨S, td, bad || !stOk (sIns x) s⟩ = stCome n ⟨S, td, bad⟩ (i + 1, s) := by
    simp [sIns, hop, stNext, stOk]
  rw [hF]
  clear hF
  rw [hop] at i0
  have hin : (i : Int) < (n : Int) := by omega
  have hi8 : i + 1 ≤ 8000 := by omega
  clear hM hS hs hr hrow hp hz hs0 hI hx hpos
  have HC := Box.mk (come_is HM.out hn (i + 1) hi8 Hrow.out Hs0.out (by rw [Hp.out]; omega) hB (by omega) hHS.out)
  rw [Hp.out] at HC
  have hpi : ((i + 1 : Nat) : Int) = (i : Int) + 1 := by omega
  rw [hpi] at HC
  go_enter Tryz.func55, Tryz.ntmps55
  go_wp2_with fail
  refine HC.out.mono ?_
  rintro e w1 ⟨rfl, G⟩
  go_wp2_with fail
  go_end0
  exact ⟨rfl, G⟩

set_option maxHeartbeats 2000000 in
set_option maxRecDepth 100000 in
theorem from_call (hM : LkM 86 w B kb sb (.slice (some ⟨lb, lo, none⟩) n c) n S R td tv bad) (hn : n ≤ 8000) (hB : B ≤ w.heap.size) (htd : td.length ≤ 90000) (hS : SOk n S) {i : Nat} {s : List Int} (hs : S i = some s) (hnc : n ≤ c)
    {x : Ins} (hI : IsI w lb (lo + i * 8) x) (hlB : lb < B) (hx : insB n x = true) (hop : x.f0 = 12) :
    Calls Tryz.prog 55 #[.pointer (some ⟨kb, 0, none⟩), .int .i64 i] w fun e w' => e = .returned (.tuple #[]) ∧
      LkGot 86 B kb sb (.slice (some ⟨lb, lo, none⟩) n c) n S R ((stNext (sIns x) i s).foldl (stCome n) ⟨S, td, bad || !stOk (sIns x) s⟩) w w' := by
  obtain ⟨hi, hs0, hsl, hz0, hz1⟩ := hS i s hs
  have a0 := hM.at0.1
  have a1 := hM.at0.2.1
  have hslot := hM.slot hi
  rw [hs] at hslot
  simp only at hslot
  have hrow := hM.rowAt hs
  obtain ⟨r, hr⟩ : ∃ r, R i = r := ⟨_, rfl⟩
  rw [hr] at hrow hslot
  have hpos : 0 < s.length := by cases s with | nil => exact absurd rfl hs0 | cons => simp
  obtain ⟨p, hp⟩ : ∃ p, s.length = p + 1 := ⟨s.length - 1, by omega⟩
  have hcl := ownI_cell hrow (j := p) (by omega)
  rw [stop_getD s p hp] at hcl
  have hcap : p + 1 ≤ r.2 := by
    rcases hrow.2 with ⟨h1, _⟩ | ⟨g', cap', cur, hv, _, _, h2, _⟩
    · cases h1
    · simp only [Value.slice.injEq, Option.some.injEq, Addr.mk.injEq, and_true] at hv
      obtain ⟨rfl, -, rfl⟩ := hv
      omega
  obtain ⟨z, hz⟩ : ∃ z, stop s = z := ⟨_, rfl⟩
  rw [hz] at hcl hz0 hz1
  rw [hp] at hslot hsl
  have i0 := hI.ex.1
  have i1 := hI.ex.2.1
  have HM := Box.mk hM
  have HS := Box.mk hS
  have Hs := Box.mk hs
  have Hr := Box.mk hr
  have Hrow := Box.mk hrow
  have Hp := Box.mk hp
  have Hz := Box.mk hz
  have Hs0 := Box.mk hs0
  have hHS := Box.mk (fun j t h => (hS j t h).2.2.1)
  have HI := Box.mk hI
  have hA : 0 ≤ x.f1 ∧ x.f1 ≤ 28 := by
    have h2 := hx
    unfold insB at h2
    rw [hop] at h2
    simp [hop] at h2
    omega
  obtain ⟨q, hq⟩ : ∃ q : Int, x.f1 = q := ⟨_, rfl⟩
  rw [hq] at i1 hA
  obtain ⟨hA1, hA2⟩ := hA
  have hF : (stNext (sIns x) i s).foldl (stCome n) ⟨S, td, bad || !stOk (sIns x) s⟩ = ⟨S, td, bad || !(decide (2 ≤ p + 1 ∧ z = x.f1 + 1))⟩ := by
    simp [sIns, hop, stNext, stOk, hp, hz]
  rw [hF]
  clear hF
  rw [hop] at i0
  have b3 := hM.at0.2.2.2
  have f3 := hM.frz 3
  have hBB := hM.base.1
  rw [hq]
  have hin : (i : Int) < (n : Int) := by omega
  have hi8 : i + 1 ≤ 8000 := by omega
  clear hM hS hs hr hrow hp hz hs0 hI hx hpos hq
  obtain ⟨bo, hbo⟩ : ∃ bo, (bad || !(decide (2 ≤ p + 1 ∧ z = q + 1))) = bo := ⟨_, rfl⟩
  have HG : Box (∀ b', b' = bo → LkGot 86 B kb sb (.slice (some ⟨lb, lo, none⟩) n c) n S R ⟨S, td, bo⟩ w (w.setCell ⟨kb, 3, none⟩ (.bool b'))) := ⟨fun b' e => by
    subst e
    exact ⟨⟨R, tv, HM.out.setBad lkT_code _, fun _ _ => rfl⟩, (Below.refl B w).setCell (p := ⟨kb, 3, none⟩) hBB _, by simp⟩⟩
  rw [hbo]
  cases bad
  all_goals
    simp only [Bool.false_or, Bool.true_or] at hbo
    have Hbo := Box.mk hbo
    clear hbo
    go_enter Tryz.func55, Tryz.ntmps55
    go_wp2_with fail
  all_goals
    go_end0
    refine ⟨rfl, HG.out _ ?_⟩
    refine Eq.trans ?_ Hbo.out
    go_light
    clear Hbo HG HM HS Hs Hr Hrow Hp Hz Hs0 hHS HI
    first
    | rfl
    | (simp_all; done)
    | (simp_all; omega)
    | (rw [Bool.eq_iff_iff]; simp_all; done)
    | (rw [Bool.eq_iff_iff]; simp_all; omega)

set_option maxHeartbeats 2000000 in
set_option maxRecDepth 100000 in
theorem from_tail (hM : LkM 86 w B kb sb (.slice (some ⟨lb, lo, none⟩) n c) n S R td tv bad) (hn : n ≤ 8000) (hB : B ≤ w.heap.size) (htd : td.length ≤ 90000) (hS : SOk n S) {i : Nat} {s : List Int} (hs : S i = some s) (hnc : n ≤ c)
    {x : Ins} (hI : IsI w lb (lo + i * 8) x) (hlB : lb < B) (hx : insB n x = true) (hop : x.f0 = 13) :
    Calls Tryz.prog 55 #[.pointer (some ⟨kb, 0, none⟩), .int .i64 i] w fun e w' => e = .returned (.tuple #[]) ∧
      LkGot 86 B kb sb (.slice (some ⟨lb, lo, none⟩) n c) n S R ((stNext (sIns x) i s).foldl (stCome n) ⟨S, td, bad || !stOk (sIns x) s⟩) w w' := by
  obtain ⟨hi, hs0, hsl, hz0, hz1⟩ := hS i s hs
  have a0 := hM.at0.1
  have a1 := hM.at0.2.1
  have hslot := hM.slot hi
  rw [hs] at hslot
  simp only at hslot
  have hrow := hM.rowAt hs
  obtain ⟨r, hr⟩ : ∃ r, R i = r := ⟨_, rfl⟩
  rw [hr] at hrow hslot
  have hpos : 0 < s.length := by cases s with | nil => exact absurd rfl hs0 | cons => simp
  obtain ⟨p, hp⟩ : ∃ p, s.length = p + 1 := ⟨s.length - 1, by omega⟩
  have hcl := ownI_cell hrow (j := p) (by omega)
  rw [stop_getD s p hp] at hcl
  have hcap : p + 1 ≤ r.2 := by
    rcases hrow.2 with ⟨h1, _⟩ | ⟨g', cap', cur, hv, _, _, h2, _⟩
    · cases h1
    · simp only [Value.slice.injEq, Option.some.injEq, Addr.mk.injEq, and_true] at hv
      obtain ⟨rfl, -, rfl⟩ := hv
      omega
  obtain ⟨z, hz⟩ : ∃ z, stop s = z := ⟨_, rfl⟩
  rw [hz] at hcl hz0 hz1
  rw [hp] at hslot hsl
  have i0 := hI.ex.1
  have i1 := hI.ex.2.1
  have HM := Box.mk hM
  have HS := Box.mk hS
  have Hs := Box.mk hs
  have Hr := Box.mk hr
  have Hrow := Box.mk hrow
  have Hp := Box.mk hp
  have Hz := Box.mk hz
  have Hs0 := Box.mk hs0
  have hHS := Box.mk (fun j t h => (hS j t h).2.2.1)
  have HI := Box.mk hI
  have hA : 0 ≤ x.f1 ∧ x.f1 ≤ 28 := by
    have h2 := hx
    unfold insB at h2
    rw [hop] at h2
    simp [hop] at h2
    omega
  obtain ⟨q, hq⟩ : ∃ q : Int, x.f1 = q := ⟨_, rfl⟩
  rw [hq] at i1 hA
  obtain ⟨hA1, hA2⟩ := hA
  have hF : (stNext (sIns x) i s).foldl (stCome n) ⟨S, td, bad || !stOk (sIns x) s⟩ = ⟨S, td, bad || !(decide (p + 1 = 1 ∧ z = x.f1 + 1))⟩ := by
    simp [sIns, hop, stNext, stOk, hp, hz]
  rw [hF]
  clear hF
  rw [hop] at i0
  have b3 := hM.at0.2.2.2
  have f3 := hM.frz 3
  have hBB := hM.base.1
  rw [hq]
  have hin : (i : Int) < (n : Int) := by omega
  have hi8 : i + 1 ≤ 8000 := by omega
  clear hM hS hs hr hrow hp hz hs0 hI hx hpos hq
  obtain ⟨bo, hbo⟩ : ∃ bo, (bad || !(decide (p + 1 = 1 ∧ z = q + 1))) = bo := ⟨_, rfl⟩
  have HG : Box (∀ b', b' = bo → LkGot 86 B kb sb (.slice (some ⟨lb, lo, none⟩) n c) n S R ⟨S, td, bo⟩ w (w.setCell ⟨kb, 3, none⟩ (.bool b'))) := ⟨fun b' e => by
    subst e
    exact ⟨⟨R, tv, HM.out.setBad lkT_code _, fun _ _ => rfl⟩, (Below.refl B w).setCell (p := ⟨kb, 3, none⟩) hBB _, by simp⟩⟩
  rw [hbo]
  cases bad
  all_goals
    simp only [Bool.false_or, Bool.true_or] at hbo
    have Hbo := Box.mk hbo
    clear hbo
    go_enter Tryz.func55, Tryz.ntmps55
    go_wp2_with fail
  all_goals
    go_end0
    refine ⟨rfl, HG.out _ ?_⟩
    refine Eq.trans ?_ Hbo.out
    go_light
    clear Hbo HG HM HS Hs Hr Hrow Hp Hz Hs0 hHS HI
    first
    | rfl
    | (simp_all; done)
    | (simp_all; omega)
    | (rw [Bool.eq_iff_iff]; simp_all; done)
    | (rw [Bool.eq_iff_iff]; simp_all; omega)

set_option maxHeartbeats 2000000 in
set_option maxRecDepth 100000 in
theorem from_ret (hM : LkM 86 w B kb sb (.slice (some ⟨lb, lo, none⟩) n c) n S R td tv bad) (hn : n ≤ 8000) (hB : B ≤ w.heap.size) (htd : td.length ≤ 90000) (hS : SOk n S) {i : Nat} {s : List Int} (hs : S i = some s) (hnc : n ≤ c)
    {x : Ins} (hI : IsI w lb (lo + i * 8) x) (hlB : lb < B) (hx : insB n x = true) (hop : x.f0 = 14) :
    Calls Tryz.prog 55 #[.pointer (some ⟨kb, 0, none⟩), .int .i64 i] w fun e w' => e = .returned (.tuple #[]) ∧
      LkGot 86 B kb sb (.slice (some ⟨lb, lo, none⟩) n c) n S R ((stNext (sIns x) i s).foldl (stCome n) ⟨S, td, bad || !stOk (sIns x) s⟩) w w' := by
  obtain ⟨hi, hs0, hsl, hz0, hz1⟩ := hS i s hs
  have a0 := hM.at0.1
  have a1 := hM.at0.2.1
  have hslot := hM.slot hi
  rw [hs] at hslot
  simp only at hslot
  have hrow := hM.rowAt hs
  obtain ⟨r, hr⟩ : ∃ r, R i = r := ⟨_, rfl⟩
  rw [hr] at hrow hslot
  have hpos : 0 < s.length := by cases s with | nil => exact absurd rfl hs0 | cons => simp
  obtain ⟨p, hp⟩ : ∃ p, s.length = p + 1 := ⟨s.length - 1, by omega⟩
  have hcl := ownI_cell hrow (j := p) (by omega)
  rw [stop_getD s p hp] at hcl
  have hcap : p + 1 ≤ r.2 := by
    rcases hrow.2 with ⟨h1, _⟩ | ⟨g', cap', cur, hv, _, _, h2, _⟩
    · cases h1
    · simp only [Value.slice.injEq, Option.some.injEq, Addr.mk.injEq, and_true] at hv
      obtain ⟨rfl, -, rfl⟩ := hv
      omega
  obtain ⟨z, hz⟩ : ∃ z, stop s = z := ⟨_, rfl⟩
  rw [hz] at hcl hz0 hz1
  rw [hp] at hslot hsl
  have i0 := hI.ex.1
  have i1 := hI.ex.2.1
  have HM := Box.mk hM
  have HS := Box.mk hS
  have Hs := Box.mk hs
  have Hr := Box.mk hr
  have Hrow := Box.mk hrow
  have Hp := Box.mk hp
  have Hz := Box.mk hz
  have Hs0 := Box.mk hs0
  have hHS := Box.mk (fun j t h => (hS j t h).2.2.1)
  have HI := Box.mk hI
  have hF : (stNext (sIns x) i s).foldl (stCome n) ⟨S, td, bad || !stOk (sIns x) s⟩ = ⟨S, td, bad || !(decide (p + 1 = 1 ∧ z = 0))⟩ := by
    simp [sIns, hop, stNext, stOk, hp, hz]
  rw [hF]
  clear hF
  rw [hop] at i0
  have b3 := hM.at0.2.2.2
  have f3 := hM.frz 3
  have hBB := hM.base.1
  have hin : (i : Int) < (n : Int) := by omega
  have hi8 : i + 1 ≤ 8000 := by omega
  clear hM hS hs hr hrow hp hz hs0 hI hx hpos
  obtain ⟨bo, hbo⟩ : ∃ bo, (bad || !(decide (p + 1 = 1 ∧ z = 0))) = bo := ⟨_, rfl⟩
  have HG : Box (∀ b', b' = bo → LkGot 86 B kb sb (.slice (some ⟨lb, lo, none⟩) n c) n S R ⟨S, td, bo⟩ w (w.setCell ⟨kb, 3, none⟩ (.bool b'))) := ⟨fun b' e => by
    subst e
    exact ⟨⟨R, tv, HM.out.setBad lkT_code _, fun _ _ => rfl⟩, (Below.refl B w).setCell (p := ⟨kb, 3, none⟩) hBB _, by simp⟩⟩
  rw [hbo]
  cases bad
  all_goals
    simp only [Bool.false_or, Bool.true_or] at hbo
    have Hbo := Box.mk hbo
    clear hbo
    go_enter Tryz.func55, Tryz.ntmps55
    go_wp2_with fail
  all_goals
    go_end0
    refine ⟨rfl, HG.out _ ?_⟩
    refine Eq.trans ?_ Hbo.out
    go_light
    clear Hbo HG HM HS Hs Hr Hrow Hp Hz Hs0 hHS HI
    first
    | rfl
    | (simp_all; done)
    | (simp_all; omega)
    | (rw [Bool.eq_iff_iff]; simp_all; done)
    | (rw [Bool.eq_iff_iff]; simp_all; omega)

end
end Go.Proofs.YtiimojpaeccajaaGreatDoor
