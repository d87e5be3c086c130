/- The document's Words by its contract. -/
import Derived.Test.YtbjlapfcnldpoaaPlain
namespace Go.Proofs.Ytbjlapfcnldpoaa
set_option linter.unusedVariables false
set_option linter.unusedSimpArgs false
open Go.RowKit

/-- A string's fields when j bytes are in. -/
def strP (s : ByteArray) (j i : Nat) : Nat := if i = 0 then s.size else pkw s (i - 1) (min 8 (j - 8 * (i - 1)))
theorem strP_all (s : ByteArray) (i : Nat) : strP s s.size i = strW s i := rfl
def xsW (s : ByteArray) (K j : Nat) : List Value := (List.range K).map (fun i => Value.int .u64 (strP s j i : Nat))
theorem xsW_len (s : ByteArray) (K j : Nat) : (xsW s K j).length = K := by simp [xsW]
theorem xsW_get (s : ByteArray) {K j i : Nat} (h : i < K) : (xsW s K j)[i]? = some (.int .u64 (strP s j i : Nat)) := by simp [xsW, h]
theorem xsW_app (s : ByteArray) (j : Nat) (h : j % 8 = 0) : xsW s (1 + (j + 7) / 8) j ++ [Value.int .u64 0] = xsW s (1 + j / 8 + 1) j := by
  have e : 1 + (j + 7) / 8 = 1 + j / 8 := by omega
  rw [e]
  unfold xsW
  rw [List.range_succ, List.map_append]
  congr 1
  simp only [List.map_cons, List.map_nil]
  congr 2
  unfold strP
  rw [if_neg (by omega), show 1 + j / 8 - 1 = j / 8 from by omega, show min 8 (j - 8 * (j / 8)) = 0 from by omega, pkw]
  rfl
theorem strP_last (s : ByteArray) (j : Nat) : strP s j (1 + j / 8) = pkw s (j / 8) (j % 8) := by
  unfold strP
  rw [if_neg (by omega), show 1 + j / 8 - 1 = j / 8 from by omega, show min 8 (j - 8 * (j / 8)) = j % 8 from by omega]
theorem strP_old (s : ByteArray) (j i : Nat) (h : i < 1 + j / 8) : strP s (j + 1) i = strP s j i := by
  unfold strP
  by_cases e : i = 0
  · rw [if_pos e, if_pos e]
  · rw [if_neg e, if_neg e, show min 8 (j + 1 - 8 * (i - 1)) = min 8 (j - 8 * (i - 1)) from by omega]
theorem strP_new (s : ByteArray) (j : Nat) : strP s (j + 1) (1 + j / 8) = pkw s (j / 8) (j % 8 + 1) := by
  unfold strP
  rw [if_neg (by omega), show 1 + j / 8 - 1 = j / 8 from by omega, show min 8 (j + 1 - 8 * (j / 8)) = j % 8 + 1 from by omega]
theorem xsW_set (s : ByteArray) (j x : Nat) (h : x = pkw s (j / 8) (j % 8 + 1)) : (xsW s (1 + j / 8 + 1) j).set (1 + j / 8) (.int .u64 (x : Nat)) = xsW s (1 + (j + 1 + 7) / 8) (j + 1) := by
  have e : 1 + (j + 1 + 7) / 8 = 1 + j / 8 + 1 := by omega
  rw [e]
  apply List.ext_getElem?
  intro i
  by_cases hi : i = 1 + j / 8
  · subst hi
    rw [xsW_get s (by omega), List.getElem?_set_self (by rw [xsW_len]; omega), strP_new, h]
  · rw [List.getElem?_set_ne (by omega)]
    by_cases hl : i < 1 + j / 8 + 1
    · rw [xsW_get s hl, xsW_get s hl, strP_old _ _ _ (by omega)]
    · rw [List.getElem?_eq_none (by rw [xsW_len]; omega), List.getElem?_eq_none (by rw [xsW_len]; omega)]

/-- What Words leaves. -/
structure WordsSaid (str : ByteArray) (w : World) (e : Ending) (w' : World) : Prop where
  said : ∃ g cap, e = .returned (.slice (some ⟨g, 0, none⟩) (1 + (str.size + 7) / 8) cap) ∧ w.heap.size ≤ g ∧ ∀ i, i < 1 + (str.size + 7) / 8 → w'.cell? ⟨g, i, none⟩ = some (.int .u64 (strW str i : Nat)) 
  keeps : Keeps (fun _ => False) w w'

set_option maxRecDepth 100000 in
set_option maxHeartbeats 4000000 in
theorem words_is {str : ByteArray} {w : World} (hn : str.size ≤ 500) :
    Calls Try.prog 51 #[.string str] w (WordsSaid str w) := by
  obtain ⟨len, hlen⟩ : ∃ len : Nat, str.size = len := ⟨_, rfl⟩
  have Hlen := Box.mk hlen
  rw [hlen] at hn
  have Hi := Box.mk (info_parts info_u64)
  have hown0 := World.ownsRow_lit (e := 30) (size := 1) (base := w.heap.size) w #[.int .u64 (len : Nat)] 1 (Nat.le_refl _) (by unfold maxLen; omega) rfl
  have HO : Box ((w.alloc (.cells #[.int .u64 (len : Nat)] 30)).ownsRow w.heap.size 30 1 (.slice (some ⟨w.heap.size, 0, none⟩) 1 1) (1 + (0 + 7) / 8) (xsW str (1 + (0 + 7) / 8) 0)) := ⟨by
    have e : xsW str (1 + (0 + 7) / 8) 0 = [Value.int .u64 (len : Nat)] := by
      show [Value.int .u64 (str.size : Nat)] = _
      rw [hlen]
    rw [e]; exact hown0⟩
  have HK := Box.mk ((Keeps.refl (fun _ => False) w).alloc (.cells #[.int .u64 (len : Nat)] 30))
  clear hown0
  go_enter Try.func51, Try.ntmps51
  go_wp2_with fail
  go_loopw [3, 4] (fun v i wr => ∃ (j : Nat), j ≤ len ∧ i = .int .i64 j ∧ Box (wr.ownsRow w.heap.size 30 1 v (1 + (j + 7) / 8) (xsW str (1 + (j + 7) / 8) j)) ∧ Box (Keeps (fun _ => False) w wr)) (fun _ i _ => len - (intOf i).toNat)
  case atStart => exact ⟨0, Nat.zero_le _, rfl, HO, HK⟩
  case round =>
    clear HO HK
    obtain ⟨j, hj, rfl, O, K⟩ := hrel
    obtain ⟨g, cap, rfl, hgb, hgl⟩ := O.out.form (by omega)
    by_cases hjn : j < len
    · have hj0 : (0 : Int) ≤ (j : Int) := by omega
      by_cases h8 : j % 8 = 0
      · have hb8 : ((j : Int) % 8 == 0) = true := by rw [beq_iff_eq]; omega
        obtain ⟨q, hq⟩ : ∃ q, 1 + j / 8 = q := ⟨_, rfl⟩
        have O' := O.out
        rw [show 1 + (j + 7) / 8 = q from by omega] at O'
        rw [show 1 + (j + 7) / 8 = q from by omega]
        have Oq := Box.mk O'
        have Hq := Box.mk hq
        have Hj := Box.mk (And.intro hj h8)
        clear O O' h8
        obtain ⟨i0, hi0, hz0, hz1, hz2⟩ := Hi.out
        have Hi2 := Box.mk (And.intro hi0 (And.intro hz0 (And.intro hz1 hz2)))
        clear hi0 hz0 hz1 hz2
        have hql : q ≤ 64 := by omega
        have hws := K.out.size
        clear hq
        go_wp2_with (at_builtin; refine wpList_append_own _ rfl _ _ 22 rfl w.heap.size 30 i0 _ 1 8 Try.underlying22 Hi2.out.1 Hi2.out.2.1 Hi2.out.2.2.1 Hi2.out.2.2.2 rfl (by decide) (.slice (some ⟨g, 0, none⟩) q cap) q _ rfl (Oq.out.alloc _) ⟨wr.heap.size, 0, none⟩ 1 1 [.int .u64 0] rfl rfl ?c1 ?c2 ?c3 ?c4 ?c5 ?c6)
        case c1 => exact World.news_of_block (cs := #[.int .u64 0]) (t := 30) (fr := (0, 0)) (heap_alloc_new _ _)
        case c2 => intro u hu; simp at hu; subst hu; rfl
        case c3 => unfold maxLen; omega
        case c4 => omega
        case c5 => simp; omega
        case c6 =>
          intro v' w6 hown6 hgrow _
          obtain ⟨g6, cap6, rfl, hgb6, hgl6⟩ := hown6.form (by omega)
          have k6 : Keeps (fun _ => False) w w6 := ((K.out.alloc (.cells #[.int .u64 0] 30)).grown hgrow (fun k hk hlt => by simp [Value.ownBlock] at hk; omega))
          have K6 := Box.mk k6
          have O6 : Box (w6.ownsRow w.heap.size 30 1 (.slice (some ⟨g6, 0, none⟩) (q + 1) cap6) (q + 1) (xsW str (q + 1) j)) := ⟨by
            have h := xsW_app str j Hj.out.2
            rw [show 1 + (j + 7) / 8 = q from by have := Hq.out; have := Hj.out; omega, show 1 + j / 8 + 1 = q + 1 from by have := Hq.out; omega] at h
            rw [← h]; exact hown6⟩
          clear hown6 hgrow k6 Oq K hgb hgl
          go_wp2_with fail
          have hql2 : q ≤ 64 := by omega
          have hcl := O6.out.cellAt q (by omega)
          have hfz := O6.out.frozenAt q
          rw [xsW_get str (Nat.lt_succ_self q)] at hcl
          obtain ⟨a, ha⟩ : ∃ a, strP str j q = a := ⟨_, rfl⟩
          rw [ha] at hcl
          have hap : a = pkw str (j / 8) (j % 8) := by rw [← ha, ← Hq.out, strP_last]
          have hab : a < 256 ^ (j % 8) := by rw [hap]; exact pkw_lt _ _ _
          have Hap := Box.mk (And.intro hap hab)
          obtain ⟨c, hc⟩ : ∃ c, sby str j = c := ⟨_, rfl⟩
          have hcb : c < 256 := by rw [← hc]; exact sby_lt _ _
          have Hc := Box.mk (And.intro hc hcb)
          have hsj : IntKind.u64.wrap ((str[j]'(by rw [hlen]; exact hjn)).toNat : Int) = (c : Int) := by
            have e : (str[j]'(by rw [hlen]; exact hjn)).toNat = c := by
              rw [← hc, sby]
              have : j < str.data.toList.length := by
                have := Hlen.out
                simp only [Array.length_toList]
                exact (this ▸ hjn : j < str.size)
              simp [List.getD, List.getElem?_eq_getElem this]
              rfl
            rw [e]
            simp only [IntKind.wrap]; simp [IntKind.bits, IntKind.signed]; omega
          rw [hsj]
          have Hqe := Box.mk Hq.out
          clear hap hab ha hc hcb hsj
          go_loopw [5, 6] (fun v i wi => ∃ (k y : Nat), k ≤ j % 8 ∧ i = .int .i64 k ∧ v = .int .u64 y ∧ Box (y = c * 256 ^ k) ∧ wi = w6) (fun _ i _ => j % 8 - (intOf i).toNat)
          case atStart => exact ⟨0, c, Nat.zero_le _, rfl, rfl, ⟨by rw [Nat.pow_zero, Nat.mul_one]⟩, rfl⟩
          case round =>
            obtain ⟨k, y, hk, rfl, rfl, Hy, rfl⟩ := hrel
            by_cases hkm : k < j % 8
            · have hk0 : (0 : Int) ≤ (k : Int) := by omega
              have hyb : y * 256 < 18446744073709551616 := by
                rw [Hy.out, Nat.mul_assoc, ← Nat.pow_succ]
                have h1 : 256 ^ (k + 1) ≤ 256 ^ 7 := Nat.pow_le_pow_right (by decide) (by omega)
                have h2 : c * 256 ^ (k + 1) ≤ 255 * 256 ^ (k + 1) := Nat.mul_le_mul_right _ (by have := Hc.out.2; omega)
                exact Nat.lt_of_le_of_lt h2 (by omega)
              go_wp2_with fail
              go_roundw
              case rel => exact ⟨k + 1, y * 256, by omega, by go_num, by go_num, ⟨by rw [Hy.out, Nat.mul_assoc, ← Nat.pow_succ]⟩, by trivial⟩
              case measure => simp [intOf]; omega
            · have hkm2 : ¬ ((k : Int) < (j : Int) % 8) := by omega
              have hyc : y = c * 256 ^ (j % 8) := by rw [Hy.out, show k = j % 8 from by omega]
              have hsum : a + y = pkw str (j / 8) (j % 8 + 1) := by
                rw [Hap.out.1, hyc, pkw, show 8 * (j / 8) + j % 8 = j from by omega, Hc.out.1]
              have hsb : a + y < 18446744073709551616 := by
                rw [hsum]
                have h1 := pkw_lt str (j / 8) (j % 8 + 1)
                have h2 : 256 ^ (j % 8 + 1) ≤ 256 ^ 8 := Nat.pow_le_pow_right (by decide) (by omega)
                omega
              have O7 : Box (World.ownsRow (wr.setCell ⟨g6, q, none⟩ (.int .u64 ((a + y : Nat) : Int))) w.heap.size 30 1 (.slice (some ⟨g6, 0, none⟩) (q + 1) cap6) (1 + (j + 1 + 7) / 8) (xsW str (1 + (j + 1 + 7) / 8) (j + 1))) := ⟨by
                have h := (O6.out.stored q (.int .u64 ((a + y : Nat) : Int))).1
                have h2 := xsW_set str j (a + y) hsum
                rw [show 1 + j / 8 = q from Hqe.out] at h2
                rw [h2] at h
                have h3 : 1 + (j + 1 + 7) / 8 = q + 1 := by have := Hqe.out; omega
                rw [h3] at h ⊢
                exact h⟩
              have K7 := Box.mk (K6.out.setCell (p := ⟨g6, q, none⟩) (fun h => absurd h (by show ¬ g6 < _; omega)) (.int .u64 ((a + y : Nat) : Int)))
              clear hyc hsum
              go_wp2_with fail
              go_roundw
              case rel => exact ⟨j + 1, by omega, by go_num, O7, K7⟩
              case measure => simp [intOf]; omega
      · have hb8 : ((j : Int) % 8 == 0) = false := by rw [beq_eq_false_iff_ne]; omega
        obtain ⟨q, hq⟩ : ∃ q, 1 + j / 8 = q := ⟨_, rfl⟩
        rw [show 1 + (j + 7) / 8 = q + 1 from by omega] at O
        rw [show 1 + (j + 7) / 8 = q + 1 from by omega]
        go_wp2_with fail
        have hql2 : q ≤ 64 := by omega
        have hcl := O.out.cellAt q (by omega)
        have hfz := O.out.frozenAt q
        rw [xsW_get str (Nat.lt_succ_self q)] at hcl
        obtain ⟨a, ha⟩ : ∃ a, strP str j q = a := ⟨_, rfl⟩
        rw [ha] at hcl
        have hap : a = pkw str (j / 8) (j % 8) := by rw [← ha, ← hq, strP_last]
        have hab : a < 256 ^ (j % 8) := by rw [hap]; exact pkw_lt _ _ _
        have Hap := Box.mk (And.intro hap hab)
        obtain ⟨c, hc⟩ : ∃ c, sby str j = c := ⟨_, rfl⟩
        have hcb : c < 256 := by rw [← hc]; exact sby_lt _ _
        have Hc := Box.mk (And.intro hc hcb)
        have hsj : IntKind.u64.wrap ((str[j]'(by rw [hlen]; exact hjn)).toNat : Int) = (c : Int) := by
          have e : (str[j]'(by rw [hlen]; exact hjn)).toNat = c := by
            rw [← hc, sby]
            have : j < str.data.toList.length := by
              have := Hlen.out
              simp only [Array.length_toList]
              exact (this ▸ hjn : j < str.size)
            simp [List.getD, List.getElem?_eq_getElem this]
            rfl
          rw [e]
          simp only [IntKind.wrap]; simp [IntKind.bits, IntKind.signed]; omega
        rw [hsj]
        have Hqe := Box.mk hq
        clear hap hab ha hc hcb hsj
        go_loopw [5, 6] (fun v i wi => ∃ (k y : Nat), k ≤ j % 8 ∧ i = .int .i64 k ∧ v = .int .u64 y ∧ Box (y = c * 256 ^ k) ∧ wi = wr) (fun _ i _ => j % 8 - (intOf i).toNat)
        case atStart => exact ⟨0, c, Nat.zero_le _, rfl, rfl, ⟨by rw [Nat.pow_zero, Nat.mul_one]⟩, rfl⟩
        case round =>
          obtain ⟨k, y, hk, rfl, rfl, Hy, rfl⟩ := hrel
          by_cases hkm : k < j % 8
          · have hk0 : (0 : Int) ≤ (k : Int) := by omega
            have hyb : y * 256 < 18446744073709551616 := by
              rw [Hy.out, Nat.mul_assoc, ← Nat.pow_succ]
              have h1 : 256 ^ (k + 1) ≤ 256 ^ 7 := Nat.pow_le_pow_right (by decide) (by omega)
              have h2 : c * 256 ^ (k + 1) ≤ 255 * 256 ^ (k + 1) := Nat.mul_le_mul_right _ (by have := Hc.out.2; omega)
              exact Nat.lt_of_le_of_lt h2 (by omega)
            go_wp2_with fail
            go_roundw
            case rel => exact ⟨k + 1, y * 256, by omega, by go_num, by go_num, ⟨by rw [Hy.out, Nat.mul_assoc, ← Nat.pow_succ]⟩, by trivial⟩
            case measure => simp [intOf]; omega
          · have hkm2 : ¬ ((k : Int) < (j : Int) % 8) := by omega
            have hyc : y = c * 256 ^ (j % 8) := by rw [Hy.out, show k = j % 8 from by omega]
            have hsum : a + y = pkw str (j / 8) (j % 8 + 1) := by
              rw [Hap.out.1, hyc, pkw, show 8 * (j / 8) + j % 8 = j from by omega, Hc.out.1]
            have hsb : a + y < 18446744073709551616 := by
              rw [hsum]
              have h1 := pkw_lt str (j / 8) (j % 8 + 1)
              have h2 : 256 ^ (j % 8 + 1) ≤ 256 ^ 8 := Nat.pow_le_pow_right (by decide) (by omega)
              omega
            have O7 : Box (World.ownsRow (wr.setCell ⟨g, q, none⟩ (.int .u64 ((a + y : Nat) : Int))) w.heap.size 30 1 (.slice (some ⟨g, 0, none⟩) (q + 1) cap) (1 + (j + 1 + 7) / 8) (xsW str (1 + (j + 1 + 7) / 8) (j + 1))) := ⟨by
              have h := (O.out.stored q (.int .u64 ((a + y : Nat) : Int))).1
              have h2 := xsW_set str j (a + y) hsum
              rw [show 1 + j / 8 = q from Hqe.out] at h2
              rw [h2] at h
              have h3 : 1 + (j + 1 + 7) / 8 = q + 1 := by have := Hqe.out; omega
              rw [h3] at h ⊢
              exact h⟩
            have K7 := Box.mk (K.out.setCell (p := ⟨g, q, none⟩) (fun h => absurd h (by show ¬ g < _; omega)) (.int .u64 ((a + y : Nat) : Int)))
            clear hyc hsum
            go_wp2_with fail
            go_roundw
            case rel => exact ⟨j + 1, by omega, by go_num, O7, K7⟩
            case measure => simp [intOf]; omega
    · have hjn2 : ¬ ((j : Int) < (len : Int)) := by omega
      have HJ : Box (j = len) := ⟨by omega⟩
      have hall : ∀ i, i < 1 + (str.size + 7) / 8 → wr.cell? ⟨g, i, none⟩ = some (.int .u64 (strW str i : Nat)) := by
        have h := O.out
        rw [HJ.out, ← Hlen.out] at h
        intro i hi
        rw [h.cellAt i (by omega), xsW_get str hi, strP_all]
      have Hall := Box.mk hall
      clear hall
      have He : Box (1 + (j + 7) / 8 = 1 + (str.size + 7) / 8) := ⟨by rw [HJ.out, Hlen.out]⟩
      go_wp2_with fail
      go_ret
      exact ⟨⟨g, cap, by rw [← He.out]; rfl, hgb, Hall.out⟩, K.out⟩

end Go.Proofs.Ytbjlapfcnldpoaa
