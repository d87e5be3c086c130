/- Text by its contract. -/
import Derived.Test.YtbjlapfcnldpoaaStr
import Derived.Laws.IdiomStrings
namespace Go.Proofs.Ytbjlapfcnldpoaa
set_option linter.unusedVariables false
set_option linter.unusedSimpArgs false
open Go.RowKit

theorem info_u8 : (Try.prog.info? 5).map (fun i => (i.zero, i.size, i.bytes)) = some (some (.int .u8 0), 1, 1) := by kernel_rfl
theorem pkw_byte (s : ByteArray) (q : Nat) : ∀ M m, m < M → pkw s q M / 256 ^ m % 256 = sby s (8 * q + m)
  | 0, m, h => by omega
  | M + 1, m, h => by
    rw [pkw]
    by_cases e : m = M
    · subst e
      rw [Nat.add_mul_div_right _ _ (Nat.pow_pos (by decide)), Nat.div_eq_of_lt (pkw_lt s q m), Nat.zero_add, Nat.mod_eq_of_lt (sby_lt s _)]
    · have ih := pkw_byte s q M m (by omega)
      obtain ⟨d, hd⟩ : ∃ d, M = m + 1 + d := ⟨M - (m + 1), by omega⟩
      rw [show sby s (8 * q + M) * 256 ^ M = (sby s (8 * q + M) * 256 ^ d * 256) * 256 ^ m from by rw [hd, Nat.pow_add, Nat.pow_succ]; simp [Nat.mul_comm, Nat.mul_left_comm, Nat.mul_assoc], Nat.add_mul_div_right _ _ (Nat.pow_pos (by decide)), Nat.add_mul_mod_self_right]
      exact ih
theorem strW_byte (s : ByteArray) (j : Nat) (h : j < s.size) : strW s (1 + j / 8) / 256 ^ (j % 8) % 256 = sby s j := by
  unfold strW
  rw [if_neg (by omega), show 1 + j / 8 - 1 = j / 8 from by omega, pkw_byte _ _ _ _ (by omega), show 8 * (j / 8) + j % 8 = j from by omega]

/-- A row of bytes of which the first j are the string's. -/
structure IsB (w : World) (g len j : Nat) (str : ByteArray) : Prop where
  h : ∃ cs : Array Value, w.heap[g]? = some (.cells cs 5 (0, 0)) ∧ cs.size = len ∧ (∀ i, i < len → ∃ v : Nat, cs[i]? = some (.int .u8 (v : Nat))) ∧ ∀ i, i < j → cs[i]? = some (.int .u8 (sby str i : Nat))
theorem IsB.cell {w : World} {g len j : Nat} {str : ByteArray} (h : IsB w g len j str) {i : Nat} (hi : i < len) : ∃ v : Nat, w.cell? ⟨g, i, none⟩ = some (.int .u8 (v : Nat)) ∧ w.frozen? ⟨g, i, none⟩ = false := by
  obtain ⟨cs, h1, h2, h3, h4⟩ := h.h
  obtain ⟨v, hv⟩ := h3 i hi
  exact ⟨v, by rw [cell_of_heap h1]; exact hv, frozen_of_heap h1 i⟩
theorem IsB.cellj {w : World} {g len j : Nat} {str : ByteArray} (h : IsB w g len j str) {i : Nat} (hi : i < j) : w.cell? ⟨g, i, none⟩ = some (.int .u8 (sby str i : Nat)) := by
  obtain ⟨cs, h1, h2, h3, h4⟩ := h.h
  rw [cell_of_heap h1]; exact h4 i hi
theorem IsB.keeps {w w' : World} {g len j : Nat} {str : ByteArray} (h : IsB w g len j str) {S : Nat → Prop} (k : Keeps S w w') (hg : ¬ S g) : IsB w' g len j str := by
  obtain ⟨cs, h1, h2, h3, h4⟩ := h.h
  exact ⟨cs, k.heap h1 hg, h2, h3, h4⟩
theorem IsB.set {w : World} {g len j : Nat} {str : ByteArray} (h : IsB w g len j str) (hj : j < len) : IsB (w.setCell ⟨g, j, none⟩ (.int .u8 (sby str j : Nat))) g len (j + 1) str := by
  obtain ⟨cs, h1, h2, h3, h4⟩ := h.h
  refine ⟨_, heap_setCell_at h1 j _, by simp [h2], fun i hi => ?_, fun i hi => ?_⟩
  · by_cases e : i = j
    · exact ⟨sby str j, by subst e; simp [h2, hj]⟩
    · obtain ⟨v, hv⟩ := h3 i hi
      exact ⟨v, by rw [← hv]; simp [Array.getElem?_setIfInBounds, Ne.symm e]⟩
  · by_cases e : i = j
    · subst e; simp [h2, hj]
    · rw [← h4 i (by omega)]; simp [Array.getElem?_setIfInBounds, Ne.symm e]
theorem isB_new (w : World) (len : Nat) (str : ByteArray) : IsB (w.alloc (.cells (madeCells #[.int .u8 0] len) 5)) w.heap.size len 0 str := by
  refine ⟨_, heap_alloc_new w _, by simp [size_madeCells], fun i hi => ⟨0, ?_⟩, fun i hi => absurd hi (Nat.not_lt_zero _)⟩
  rw [← Array.getElem?_toList, toList_madeCells_one]
  simp [hi]

theorem back_ok {w : World} {gb len : Nat} {str : ByteArray} (h : IsB w gb len len str) (hlen : str.size = len) :
    (convert 125 9 (.slice (some ⟨gb, 0, none⟩) len len)).run Try.prog w = .ok (.string str) w := by
  have hl : str.data.toList.length = len := by rw [← hlen]; simp
  have h1 := run_convert_bytes_back (P := Try.prog) w 125 9 5 ⟨gb, 0, none⟩ len str.data.toList Try.underlying125 Try.underlying5 Try.underlying9 (fun j hj => by
    have := h.cellj (i := j) (by omega)
    unfold sby at this
    have e : str.data.toList.getD j 0 = str.data.toList[j] := by simp [List.getD, List.getElem?_eq_getElem hj]
    rw [e] at this
    have e2 : (⟨gb, 0, none⟩ : Addr).add j = ⟨gb, j, none⟩ := by
      cases j <;> simp [Addr.add]
    rw [e2]; exact this)
  rw [hl] at h1
  simpa using h1

set_option maxRecDepth 100000 in
set_option maxHeartbeats 4000000 in
theorem text_ok {hb b g : Nat} {s : TH} {L : Nat → Nat → List Nat} {w : World} {str : ByteArray} {n u : Nat} (hI : IsTH w hb b g s) (hs : St s L) (ho : IsObj s L u 2 2 n (strW str)) (hn : str.size ≤ 500) (hnn : 1 + (str.size + 7) / 8 = n) :
    Calls Try.prog 50 #[.pointer (some ⟨hb, 0, none⟩), .int .u64 ((8 * u + 1 : Nat) : Int)] w fun e w' => e = .returned (.tuple #[.string str, .nilIface]) ∧ IsTH w' hb b g s ∧ Keeps (foot3 hb b g) w w' := by
  obtain ⟨i0, hi, hz0, hz1, hz2⟩ := info_parts info_u8
  obtain ⟨len, hlen⟩ : ∃ len : Nat, str.size = len := ⟨_, rfl⟩
  have hmk := fun (w : World) => run_make (P := Try.prog) w 125 5 i0 (.int .u8 0) Try.underlying125 hi hz0 .u64 .u64 len len (by omega) (by omega) (by rw [hz2]; omega) (by omega)
  simp only [hz1, Nat.mul_one, Int.toNat_natCast, Value.cells] at hmk
  clear hi hz0 hz1 hz2
  have Hlen := Box.mk hlen
  rw [hlen] at hn
  have Hnn : Box (1 + (len + 7) / 8 = n) := ⟨by rw [← hlen]; exact hnn⟩
  have HS := Box.mk (oshape hI hs ho)
  have HG := Box.mk (fun (W : World) (hW : IsTH W hb b g s) (i : Nat) (hi : i < n) => get_is hW (ho.small hs).2.1 (ho.place hs) (ho.rdh hs) (by rw [ho.num]; exact hi) (by have := (ho.small hs).1; omega) (by rw [ho.f]; decide) ((ho.small hs).2.2 i hi) (ho.fld i hi))
  have hw0 : strW str 0 = len := by rw [strW, if_pos rfl, hlen]
  clear hI hs ho hnn hlen
  go_enter Try.func50, Try.ntmps50
  go_wp2_with fail
  refine HS.out.mono ?_
  rintro e w1 ⟨rfl, hI1, k1⟩
  have H1 := Box.mk hI1
  have K1 := Box.mk k1
  clear HS hI1 k1
  go_wp2_with fail
  have hg0 := HG.out w1 H1.out 0 (by have := Hnn.out; omega)
  rw [hw0] at hg0
  refine hg0.mono ?_
  rintro e w2 ⟨rfl, hI2, k2⟩
  have H2 := Box.mk hI2
  have K2 := Box.mk (K1.out.trans k2)
  clear H1 K1 hI2 k2 hg0 hw0
  go_wp2_with fail
  have H3 := Box.mk (H2.out.keeps0 ((Keeps.refl _ w2).alloc (.cells (madeCells #[.int .u8 0] len) 5)))
  have K3 := Box.mk (K2.out.trans ((Keeps.refl (foot3 hb b g) w2).alloc (.cells (madeCells #[.int .u8 0] len) 5)))
  have B3 := Box.mk (isB_new w2 len str)
  have Hlt := Box.mk H2.out.lt
  have Hwb := Box.mk K2.out.size
  obtain ⟨gb, hgb⟩ : ∃ gb, w2.heap.size = gb := ⟨_, rfl⟩
  rw [hgb] at B3 Hlt Hwb
  rw [hgb]
  go_loopw [13, 49] (fun v i wr => ∃ (j x : Nat), j ≤ len ∧ i = .int .i64 j ∧ v = .int .u64 x ∧ Box (j % 8 ≠ 0 → x = strW str (1 + j / 8)) ∧ Box (IsTH wr hb b g s) ∧ Box (IsB wr gb len j str) ∧ Box (Keeps (foot3 hb b g) w wr)) (fun _ i _ => len - (intOf i).toNat)
  case atStart => exact ⟨0, 0, Nat.zero_le _, rfl, rfl, ⟨fun h => absurd rfl h⟩, H3, B3, K3⟩
  case round =>
    clear H2 K2 H3 K3 B3
    obtain ⟨j, x, hj, rfl, rfl, Hx, H, B, K⟩ := hrel
    by_cases hjn : j < len
    · have hj0 : (0 : Int) ≤ (j : Int) := by omega
      have hmj : j % 8 < 8 := Nat.mod_lt _ (by decide)
      by_cases h8 : j % 8 = 0
      · have hb8 : ((j : Int) % 8 == 0) = true := by rw [beq_iff_eq]; omega
        have hgj := HG.out wr H.out (1 + j / 8) (by have := Hnn.out; omega)
        rw [show ((1 + j / 8 : Nat) : Int) = 1 + (j : Int) / 8 from by omega] at hgj
        obtain ⟨y, hy⟩ : ∃ y, strW str (1 + j / 8) = y := ⟨_, rfl⟩
        rw [hy] at hgj
        go_wp2_with fail
        refine hgj.mono ?_
        rintro e w5 ⟨rfl, hI5, k5⟩
        have H5 := Box.mk hI5
        have K5 := Box.mk (K.out.trans k5)
        have B5 := Box.mk (B.out.keeps k5 (by have := Hlt.out; unfold foot3; omega))
        obtain ⟨c0, hc0, hf0⟩ := B5.out.cell hjn
        clear hI5 k5 hgj H K B
        go_wp2_with fail
        have hv : (y : Int) % 256 = ((sby str j : Nat) : Int) := by
          have := strW_byte str j (by rw [Hlen.out]; exact hjn)
          rw [hy, h8, Nat.pow_zero, Nat.div_one] at this
          omega
        rw [hv]
        have HB6 := Box.mk (B5.out.set hjn)
        have K6 := Box.mk ((Keeps.refl (fun z => z = gb) w5).setCell (p := ⟨gb, j, none⟩) (fun _ => rfl) (.int .u8 (sby str j : Nat)))
        have H6 := Box.mk (H5.out.keeps K6.out (by have := Hlt.out; omega) (by have := Hlt.out; omega) (by have := Hlt.out; omega))
        have KK6 : Box (Keeps (foot3 hb b g) w (w5.setCell ⟨gb, j, none⟩ (.int .u8 (sby str j : Nat)))) := ⟨K5.out.setCell (p := ⟨gb, j, none⟩) (fun h => absurd h (by have := Hwb.out; show ¬ gb < _; omega)) _⟩
        go_roundw
        case rel => exact ⟨j + 1, y, by omega, by go_num, rfl, ⟨fun h => by rw [show (j + 1) / 8 = j / 8 from by omega]; exact hy.symm⟩, H6, HB6, KK6⟩
        case measure => simp [intOf]; omega
      · have hb8 : ((j : Int) % 8 == 0) = false := by rw [beq_eq_false_iff_ne]; omega
        obtain ⟨c0, hc0, hf0⟩ := B.out.cell hjn
        go_wp2_with fail
        have hv : (x : Int) / 2 ^ (8 * (j % 8)) % 256 = ((sby str j : Nat) : Int) := by
          have := strW_byte str j (by rw [Hlen.out]; exact hjn)
          rw [← Hx.out h8, show (256 : Nat) ^ (j % 8) = 2 ^ (8 * (j % 8)) from by rw [show (256 : Nat) = 2 ^ 8 from rfl, ← Nat.pow_mul]] at this
          rw [← this]; push_cast; rfl
        rw [hv]
        have HB6 := Box.mk (B.out.set hjn)
        have K6 := Box.mk ((Keeps.refl (fun z => z = gb) wr).setCell (p := ⟨gb, j, none⟩) (fun _ => rfl) (.int .u8 (sby str j : Nat)))
        have H6 := Box.mk (H.out.keeps K6.out (by have := Hlt.out; omega) (by have := Hlt.out; omega) (by have := Hlt.out; omega))
        have KK6 : Box (Keeps (foot3 hb b g) w (wr.setCell ⟨gb, j, none⟩ (.int .u8 (sby str j : Nat)))) := ⟨K.out.setCell (p := ⟨gb, j, none⟩) (fun h => absurd h (by have := Hwb.out; show ¬ gb < _; omega)) _⟩
        go_roundw
        case rel => exact ⟨j + 1, x, by omega, by go_num, rfl, ⟨fun h => by rw [show (j + 1) / 8 = j / 8 from by omega]; exact Hx.out h8⟩, H6, HB6, KK6⟩
        case measure => simp [intOf]; omega
    · have hje : ¬ ((j : Int) < (len : Int)) := by omega
      have HJ : Box (j = len) := ⟨by omega⟩
      have hback := back_ok (HJ.out ▸ B.out : IsB wr gb len len str) Hlen.out
      go_wp2_with fail
      go_ret2
      exact ⟨rfl, H.out, K.out⟩

end Go.Proofs.Ytbjlapfcnldpoaa
