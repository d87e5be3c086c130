/- An act's bytes: the two-byte act, the text, the others. -/
import Derived.Test.YtljmfiegkefpoaaScript7
namespace Go.Proofs.Ytljmfiegkefpoaa
set_option linter.unusedVariables false
set_option linter.unusedSimpArgs false
open Go.RowKit

theorem u8_mod (n : Int) (h0 : 0 ≤ n) : IntKind.u8.wrap n = ((UInt8.ofNat (n.toNat % 256)).toNat : Int) := by
  rw [UInt8.toNat_ofNat']
  simp only [IntKind.wrap]
  simp [IntKind.bits, IntKind.signed]
  omega
theorem u8_div (n : Int) (h0 : 0 ≤ n) : n / 256 % 256 = ((UInt8.ofNat (n.toNat / 256)).toNat : Int) := by
  rw [UInt8.toNat_ofNat']
  omega

set_option maxRecDepth 100000 in
set_option maxHeartbeats 4000000 in
theorem bytes_run (n : Int) (t : ByteArray) (w : World) :
    Calls Try.prog 38 #[.agg #[.int .i64 4, .int .i64 n, .string t]] w fun e w' => BytesSaid w (4, n, t) e w' := by
  have Ht := Box.mk (toList_nil t)
  obtain ⟨tb, htb⟩ : ∃ tb, (t.toList == ([] : List UInt8)) = tb := ⟨_, rfl⟩
  rw [htb] at Ht
  obtain ⟨i0, hi0, hz0, hz1, hz2⟩ := info_parts info_u8
  have Hi := Box.mk (And.intro hi0 (And.intro hz0 (And.intro hz1 hz2)))
  clear hi0 hz0 hz1 hz2
  go_enter Try.func38, Try.ntmps38
  go_wp2_with fail
  obtain ⟨x, hx⟩ : ∃ x, IntKind.u8.wrap n = x := ⟨_, rfl⟩
  obtain ⟨y, hy⟩ : ∃ y, n / 256 % 256 = y := ⟨_, rfl⟩

  go_region
  have H1 : Box ((((w.alloc (.cells #[.int .i64 4, .int .i64 n, .string t] 72)).alloc (.cells #[.int .u8 4] 5)).drew).ownsRow w.heap.size 5 1 (.slice (some ⟨w.heap.size + 1, 0, none⟩) 1 1) 1 [.int .u8 4]) := ⟨by have := own_new (w.alloc (.cells #[.int .i64 4, .int .i64 n, .string t] 72)) w.heap.size 5 [.int .u8 4] (by simp) (by decide); simp at this; exact this⟩
  have hB := heap_alloc_new w (.cells #[.int .i64 4, .int .i64 n, .string t] 72)
  go_wp2_with (at_builtin; refine wpList_append_own _ rfl _ _ 79 rfl w.heap.size 5 i0 _ 1 1 Try.underlying79 Hi.out.1 Hi.out.2.1 Hi.out.2.2.1 Hi.out.2.2.2 rfl (by decide) (.slice (some ⟨w.heap.size + 1, 0, none⟩) 1 1) 1 _ rfl (H1.out.alloc _) ⟨w.heap.size + 2, 0, none⟩ 2 2 [.int .u8 x, .int .u8 y] rfl rfl ?c1 ?c2 ?c3 ?c4 ?c5 ?c6)
  case c1 => exact World.news_of_block (cs := #[.int .u8 x, .int .u8 y]) (t := 5) (fr := (0, 0)) (by have := heap_alloc_new (((w.alloc (.cells #[.int .i64 4, .int .i64 n, .string t] 72)).alloc (.cells #[.int .u8 4] 5)).drew) (.cells #[.int .u8 x, .int .u8 y] 5); rw [show (((w.alloc (.cells #[.int .i64 4, .int .i64 n, .string t] 72)).alloc (.cells #[.int .u8 4] 5)).drew).heap.size = w.heap.size + 2 by simp] at this; exact this)
  case c2 => intro u hu; simp at hu; rcases hu with rfl | rfl <;> rfl
  case c3 => decide
  case c4 => decide
  case c5 => simp; omega
  case c6 =>
    intro v' w6 hown6 hgrow _
    have k6 : Keeps (fun z => z = w.heap.size + 1) (w.alloc (.cells #[.int .i64 4, .int .i64 n, .string t] 72)) w6 := ((((Keeps.refl (fun z => z = w.heap.size + 1) (w.alloc (.cells #[.int .i64 4, .int .i64 n, .string t] 72))).alloc _).drew).alloc _).grown hgrow (fun k hk _ => by simpa [Value.ownBlock] using hk.symm)
    have hB6 := k6.heap hB (by omega)
    have a0 := cell_of_heap hB6 0
    have a1 := cell_of_heap hB6 1
    have a2 := cell_of_heap hB6 2
    simp only [List.getElem?_toArray, List.getElem?_cons_zero, List.getElem?_cons_succ] at a0 a1 a2
    have K6 := Box.mk (((Keeps.refl (fun _ => False) w).alloc (.cells #[.int .i64 4, .int .i64 n, .string t] 72)).trans' k6 (by intro i hi h; omega))
    have Hown6 := Box.mk hown6
    clear hown6 hgrow k6 hB hB6 H1
    obtain ⟨va, vn, vc, rfl⟩ : ∃ va vn vc, v' = .slice va vn vc := by
      rcases Hown6.out.2 with ⟨h, _⟩ | ⟨g, cap, cur, h, _⟩
      · exact ⟨_, _, _, h⟩
      · exact ⟨_, _, _, h⟩
    go_wp2_with fail
    by_cases h0 : n < 0
    · have h00 : ¬ (0 ≤ n) := by omega
      go_quiet (fail)
      go_wp2_with fail
      exact bodyPost_ret (v := .tuple #[.slice va vn vc, .bool false]) (by simp [results, Try.results38, go_sem]) rfl (saidNo (by rw [enc4 n t, if_neg (by omega)]) (K6.out.drewN _))
    · have h00 : 0 ≤ n := by omega
      by_cases h1 : 65535 < n
      · have h11 : ¬ (n ≤ 65535) := by omega
        go_quiet (fail)
        go_wp2_with fail
        exact bodyPost_ret (v := .tuple #[.slice va vn vc, .bool false]) (by simp [results, Try.results38, go_sem]) rfl (saidNo (by rw [enc4 n t, if_neg (by omega)]) (K6.out.drewN _))
      · have h11 : n ≤ 65535 := by omega
        cases tb with
        | false =>
          have h22 : ¬ t.size = 0 := by have h := Ht.out; intro h'; rw [h'] at h; simp at h
          go_quiet (fail)
          go_wp2_with fail
          exact bodyPost_ret (v := .tuple #[.slice va vn vc, .bool false]) (by simp [results, Try.results38, go_sem]) rfl (saidNo (by rw [enc4 n t, if_neg (by omega)]) (K6.out.drewN _))
        | true =>
          have h22 : t.size = 0 := by have h := Ht.out; simpa using h.symm
          go_quiet (fail)
          go_wp2_with fail
          exact bodyPost_ret (v := .tuple #[.slice va vn vc, .bool true]) (by simp [results, Try.results38, go_sem]) rfl (saidYes (b := ⟨#[4, UInt8.ofNat (n.toNat % 256), UInt8.ofNat (n.toNat / 256)]⟩) (by rw [enc4 n t, if_pos (by omega)]) (by have h := Hown6.out; rw [← hx, ← hy, u8_mod n h00, u8_div n h00] at h; exact h) (K6.out.drewN _))

set_option maxRecDepth 100000 in
set_option maxHeartbeats 4000000 in
theorem bytes_text1 (n : Int) (hn : ¬ n = 0) (t : ByteArray) (w : World) (ht : t.size ≤ 9223372036854775807) :
    Calls Try.prog 38 #[.agg #[.int .i64 1, .int .i64 n, .string t]] w fun e w' => BytesSaid w (1, n, t) e w' := by
  have hn1 : (n != 0) = true := by simpa using hn
  go_enter Try.func38, Try.ntmps38
  go_wp2_with fail
  go_region
  go_wp2_with fail
  exact bodyPost_ret (v := .tuple #[.slice none 0 0, .bool false]) (by simp [results, Try.results38, go_sem]) rfl (saidNo (by rw [enc1, if_neg (by omega)]) ((((Keeps.refl _ _).alloc _).alloc _).drew))

set_option maxRecDepth 100000 in
set_option maxHeartbeats 4000000 in
theorem bytes_text2 (n : Int) (hn : n = 0) (t : ByteArray) (w : World) (h2 : 255 < t.size) (ht : t.size ≤ 9223372036854775807) :
    Calls Try.prog 38 #[.agg #[.int .i64 1, .int .i64 n, .string t]] w fun e w' => BytesSaid w (1, n, t) e w' := by
  subst hn
  go_enter Try.func38, Try.ntmps38
  go_wp2_with fail
  go_region
  go_wp2_with fail
  exact bodyPost_ret (v := .tuple #[.slice none 0 0, .bool false]) (by simp [results, Try.results38, go_sem]) rfl (saidNo (by rw [enc1, if_neg (by omega)]) ((((Keeps.refl _ _).alloc _).alloc _).drew))

set_option maxRecDepth 100000 in
set_option maxHeartbeats 4000000 in
theorem bytes_other (k n : Int) (hk : k < 1 ∨ 6 < k) (t : ByteArray) (w : World) (ht : t.size ≤ 9223372036854775807) :
    Calls Try.prog 38 #[.agg #[.int .i64 k, .int .i64 n, .string t]] w fun e w' => BytesSaid w (k, n, t) e w' := by
  have e1 : (k == 1) = false := by rw [beq_eq_false_iff_ne]; omega
  have e2 : (k == 2) = false := by rw [beq_eq_false_iff_ne]; omega
  have e3 : (k == 3) = false := by rw [beq_eq_false_iff_ne]; omega
  have e4 : (k == 4) = false := by rw [beq_eq_false_iff_ne]; omega
  have e5 : (k == 5) = false := by rw [beq_eq_false_iff_ne]; omega
  have e6 : (k == 6) = false := by rw [beq_eq_false_iff_ne]; omega
  go_enter Try.func38, Try.ntmps38
  go_wp2_with fail
  go_region
  go_wp2_with fail
  exact bodyPost_ret (v := .tuple #[.slice none 0 0, .bool false]) (by simp [results, Try.results38, go_sem]) rfl (saidNo (by rw [enc_other k n t hk]) ((((Keeps.refl _ _).alloc _).alloc _).drew))

end Go.Proofs.Ytljmfiegkefpoaa
