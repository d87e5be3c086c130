/- Fill by its contract. -/
import Derived.Test.YtbjlapfcnldpoaaText
namespace Go.Proofs.Ytbjlapfcnldpoaa
set_option linter.unusedVariables false
set_option linter.unusedSimpArgs false
open Go.RowKit

/-- Make refuses. -/
theorem make_no {p : Addr} (tag : Int) (a : Option Addr) (n cap : Nat) (w : World) (h : tag < 1 ∨ tag = 2 ∨ 12 < tag ∨ 120 < (n : Int)) :
    Calls Try.prog 42 #[.pointer (some p), .int .i64 tag, .slice a n cap] w fun e w' => e = .returned (.tuple #[.int .u64 0, .iface 97 (.int .i64 2)]) ∧ w' = w := by
  have H := Box.mk h
  clear h
  go_enter Try.func42, Try.ntmps42
  go_wp2_with fail
  refine (makes_no _ _ _ H.out).mono ?_
  rintro e w' ⟨rfl, rfl⟩
  go_wp2_with fail
  go_ret2
  exact ⟨rfl, rfl⟩

theorem fill_long {p : Addr} (tag n x : Int) (w : World) (h : n < 0 ∨ 120 < n) :
    Calls Try.prog 54 #[.pointer (some p), .int .i64 tag, .int .i64 n, .int .u64 x] w fun e w' => e = .returned (.tuple #[.int .u64 0, .iface 97 (.int .i64 14)]) ∧ w' = w := by
  by_cases h0 : n < 0
  · clear h
    go_enter Try.func54, Try.ntmps54
    go_wp2_with fail
    go_ret2
    exact ⟨rfl, rfl⟩
  · have h2 : 120 < n := by omega
    clear h
    go_enter Try.func54, Try.ntmps54
    go_wp2_with fail
    go_ret2
    exact ⟨rfl, rfl⟩

/-- A row of words of which the first j are x. -/
structure IsU (w : World) (g len j x : Nat) : Prop where
  h : ∃ cs : Array Value, w.heap[g]? = some (.cells cs 30 (0, 0)) ∧ cs.size = len ∧ (∀ i, i < len → ∃ v : Nat, cs[i]? = some (.int .u64 (v : Nat))) ∧ ∀ i, i < j → cs[i]? = some (.int .u64 (x : Nat))
theorem IsU.cell {w : World} {g len j x : Nat} (h : IsU w g len j x) {i : Nat} (hi : i < len) : ∃ v : Nat, w.cell? ⟨g, i, none⟩ = some (.int .u64 (v : Nat)) ∧ w.frozen? ⟨g, i, none⟩ = false := by
  obtain ⟨cs, h1, h2, h3, h4⟩ := h.h
  obtain ⟨v, hv⟩ := h3 i hi
  exact ⟨v, by rw [cell_of_heap h1]; exact hv, frozen_of_heap h1 i⟩
theorem IsU.cellj {w : World} {g len j x : Nat} (h : IsU w g len j x) {i : Nat} (hi : i < j) : w.cell? ⟨g, i, none⟩ = some (.int .u64 (x : Nat)) := by
  obtain ⟨cs, h1, h2, h3, h4⟩ := h.h
  rw [cell_of_heap h1]; exact h4 i hi
theorem IsU.set {w : World} {g len j x : Nat} (h : IsU w g len j x) (hj : j < len) : IsU (w.setCell ⟨g, j, none⟩ (.int .u64 (x : Nat))) g len (j + 1) x := by
  obtain ⟨cs, h1, h2, h3, h4⟩ := h.h
  refine ⟨_, heap_setCell_at h1 j _, by simp [h2], fun i hi => ?_, fun i hi => ?_⟩
  · by_cases e : i = j
    · exact ⟨x, by subst e; simp [h2, hj]⟩
    · obtain ⟨v, hv⟩ := h3 i hi
      exact ⟨v, by rw [← hv]; simp [Array.getElem?_setIfInBounds, Ne.symm e]⟩
  · by_cases e : i = j
    · subst e; simp [h2, hj]
    · rw [← h4 i (by omega)]; simp [Array.getElem?_setIfInBounds, Ne.symm e]
theorem IsU.keeps {w w' : World} {g len j x : Nat} (h : IsU w g len j x) {S : Nat → Prop} (k : Keeps S w w') (hg : ¬ S g) : IsU w' g len j x := by
  obtain ⟨cs, h1, h2, h3, h4⟩ := h.h
  exact ⟨cs, k.heap h1 hg, h2, h3, h4⟩
theorem isU_new (w : World) (len x : Nat) : IsU (w.alloc (.cells (madeCells #[.int .u64 0] len) 30)) w.heap.size len 0 x := by
  refine ⟨_, heap_alloc_new w _, by simp [size_madeCells], fun i hi => ⟨0, ?_⟩, fun i hi => absurd hi (Nat.not_lt_zero _)⟩
  rw [← Array.getElem?_toList, toList_madeCells_one]
  simp [hi]
theorem IsU.lt {w : World} {g len j x : Nat} (h : IsU w g len j x) : g < w.heap.size := by
  obtain ⟨cs, h1, -⟩ := h.h
  exact lt_of_heap h1

set_option maxRecDepth 100000 in
set_option maxHeartbeats 4000000 in
theorem fill_to {P : Ending → World → Prop} {hb b g : Nat} {s : TH} {w : World} {tag : Int} {n x : Nat} (hI : IsTH w hb b g s) (hn : n ≤ 120) (hx : x < 18446744073709551616) (hv : tvalue s x = true)
    (hP : ∀ w1 gb, IsTH w1 hb b g s → Keeps (fun _ => False) w w1 → w.heap.size ≤ gb → IsU w1 gb n n x → Calls Try.prog 42 #[.pointer (some ⟨hb, 0, none⟩), .int .i64 tag, .slice (some ⟨gb, 0, none⟩) n n] w1 fun e w' => (∃ y er, e = .returned (.tuple #[.int .u64 y, er])) ∧ P e w') :
    Calls Try.prog 54 #[.pointer (some ⟨hb, 0, none⟩), .int .i64 tag, .int .i64 n, .int .u64 x] w P := by
  obtain ⟨i0, hi, hz0, hz1, hz2⟩ := info_parts info_u64
  have hmk := fun (w : World) => run_make (P := Try.prog) w 22 30 i0 (.int .u64 0) Try.underlying22 hi hz0 .i64 .i64 n n (by omega) (by omega) (by rw [hz2]; omega) (by omega)
  simp only [hz1, Nat.mul_one, Int.toNat_natCast, Value.cells] at hmk
  clear hi hz0 hz1 hz2
  have H2 := Box.mk (hI.keeps0 ((Keeps.refl _ w).alloc (.cells (madeCells #[.int .u64 0] n) 30)))
  have K2 := Box.mk ((Keeps.refl (fun _ => False) w).alloc (.cells (madeCells #[.int .u64 0] n) 30))
  have B2 := Box.mk (isU_new w n x)
  have Hx := Box.mk (And.intro hx hv)
  have HP := Box.mk hP
  have Hlt := Box.mk hI.lt
  clear hP hI hx hv
  go_enter Try.func54, Try.ntmps54
  have hmx : max (n : Int) 0 = n := by omega
  go_wp2_with fail
  obtain ⟨gb, hgb⟩ : ∃ gb, w.heap.size = gb := ⟨_, rfl⟩
  rw [hgb] at B2 Hlt HP
  rw [hgb]
  go_loopw [28] (fun i wr => ∃ (j : Nat), j ≤ n ∧ i = .int .i64 j ∧ Box (IsTH wr hb b g s) ∧ Box (IsU wr gb n j x) ∧ Box (Keeps (fun _ => False) w wr)) (fun i _ => n - (intOf i).toNat)
  case atStart => exact ⟨0, Nat.zero_le _, rfl, H2, B2, K2⟩
  case round =>
    clear H2 B2 K2
    obtain ⟨j, hj, rfl, H, B, K⟩ := hrel
    by_cases hjn : j < n
    · have hj0 : (0 : Int) ≤ (j : Int) := by omega
      obtain ⟨c0, hc0, hf0⟩ := B.out.cell hjn
      have HB6 := Box.mk (B.out.set hjn)
      have K6 := Box.mk ((Keeps.refl (fun z => z = gb) wr).setCell (p := ⟨gb, j, none⟩) (fun _ => rfl) (.int .u64 (x : Nat)))
      have H6 := Box.mk (H.out.keeps K6.out (by have := Hlt.out; omega) (by have := Hlt.out; omega) (by have := Hlt.out; omega))
      have KK6 : Box (Keeps (fun _ => False) w (wr.setCell ⟨gb, j, none⟩ (.int .u64 (x : Nat)))) := ⟨K.out.setCell (p := ⟨gb, j, none⟩) (fun h => absurd h (by show ¬ gb < _; omega)) _⟩
      go_wp2_with fail
      go_roundw
      case rel => exact ⟨j + 1, by omega, by go_num, H6, HB6, KK6⟩
      case measure => simp [intOf]; omega
    · have hje : ¬ ((j : Int) < (n : Int)) := by omega
      have HJ : Box (j = n) := ⟨by omega⟩
      by_cases hn0 : n = 0
      · have hb0 : ((n : Int) == 0) = true := by rw [beq_iff_eq]; omega
        clear hn0
        go_wp2_with fail
        refine (value_is H.out Hx.out.1).mono ?_
        rw [Hx.out.2]
        rintro e w5 ⟨rfl, kv⟩
        have H5 := Box.mk (H.out.keeps0 kv)
        have K5 := Box.mk (K.out.trans kv)
        have B5 := Box.mk (B.out.keeps kv (fun h => h))
        clear kv H K B
        go_wp2_with fail
        refine (HP.out _ gb H5.out K5.out (Nat.le_refl _) (HJ.out ▸ B5.out)).mono ?_
        rintro e w6 ⟨⟨y, er, rfl⟩, hp⟩
        have Hp := Box.mk hp
        clear hp
        go_wp2_with fail
        exact Hp.out
      · have hb0 : ((n : Int) == 0) = false := by rw [beq_eq_false_iff_ne]; omega
        clear hn0
        go_wp2_with fail
        refine (HP.out _ gb H.out K.out (Nat.le_refl _) (HJ.out ▸ B.out)).mono ?_
        rintro e w6 ⟨⟨y, er, rfl⟩, hp⟩
        have Hp := Box.mk hp
        clear hp
        go_wp2_with fail
        exact Hp.out

theorem fill_no {hb b g : Nat} {s : TH} {w : World} {tag : Int} {n x : Nat} (hI : IsTH w hb b g s) (hn : n ≤ 120) (hx : x < 18446744073709551616) (hv : tvalue s x = true) (ht : tag < 1 ∨ tag = 2 ∨ 12 < tag) :
    Calls Try.prog 54 #[.pointer (some ⟨hb, 0, none⟩), .int .i64 tag, .int .i64 n, .int .u64 x] w fun e w' => e = .returned (.tuple #[.int .u64 0, .iface 97 (.int .i64 2)]) ∧ Keeps (fun _ => False) w w' := by
  refine fill_to hI hn hx hv (fun w1 gb h1 k1 hg hu => (make_no tag _ n n w1 (by omega)).mono ?_)
  rintro e w2 ⟨rfl, rfl⟩
  exact ⟨⟨0, _, rfl⟩, rfl, k1⟩
theorem fill_ok {hb b g : Nat} {s : TH} {L : Nat → Nat → List Nat} {w : World} {n tag x : Nat} (hI : IsTH w hb b g s) (hs : St s L) (hk : s.k ≤ 64) (hcy : s.cycles + s.k ≤ 1000000) (ht1 : 1 ≤ tag) (ht2 : tag ≤ 12) (ht3 : tag ≠ 2) (hn : n ≤ 120) (hx : GoodW s x) (hf : 0 < lget s (tcls n) 0) :
    Calls Try.prog 54 #[.pointer (some ⟨hb, 0, none⟩), .int .i64 tag, .int .i64 n, .int .u64 x] w fun e w' => MadeSaid hb b g s L 1 tag n (fun _ => x) w e w' := by
  refine fill_to hI hn hx.1 (hx.value hs) (fun w1 gb h1 k1 hg hu => (make_ok h1 hs hk hcy ht1 ht2 ht3 hn (ws := fun _ => x) ?_ (fun _ _ => hx) hf).mono ?_)
  · have hlt := hI.lt
    exact fun i hi => ⟨gb, 0, rfl, by unfold foot3; omega, hu.lt, by rw [Nat.zero_add]; exact hu.cellj hi⟩
  · rintro e w2 ⟨⟨s', L', u, rfl, a, c⟩, k⟩
    exact ⟨⟨_, _, rfl⟩, ⟨⟨s', L', u, rfl, a, c⟩, (k1.mono (fun _ _ h => h.elim)).trans k⟩⟩

end Go.Proofs.Ytbjlapfcnldpoaa
