/- The script's tape: take, num. -/
import Derived.Test.YtljmfiegkefpoaaQueue
namespace Go.Proofs.Ytljmfiegkefpoaa
set_option linter.unusedVariables false
set_option linter.unusedSimpArgs false
open Go.RowKit

/-- The block b is a tape on which r is left. -/
structure IsTape (w : World) (b : Nat) (r : ByteArray) : Prop where
  head : w.heap[b]? = some (.cells #[.string r] 75 (0, 0))
  len : r.size ≤ 16384

theorem IsTape.lt {w : World} {b : Nat} {r : ByteArray} (h : IsTape w b r) : b < w.heap.size := (Array.getElem?_eq_some_iff.1 h.head).1
theorem IsTape.keeps {w w' : World} {b : Nat} {r : ByteArray} (h : IsTape w b r) {S : Nat → Prop} (k : Keeps S w w') (hb : ¬ S b) : IsTape w' b r := ⟨k.heap h.head hb, h.len⟩
theorem IsTape.keeps0 {w w' : World} {b : Nat} {r : ByteArray} (h : IsTape w b r) (k : Keeps (fun _ => False) w w') : IsTape w' b r := h.keeps k (fun h => h)

set_option maxRecDepth 100000 in
theorem take_ok {b n : Nat} {r : ByteArray} {w : World} (ht : IsTape w b r) (hn : n ≤ r.size) :
    Calls Try.prog 41 #[.pointer (some ⟨b, 0, none⟩), .int .i64 n] w fun e w' => e = .returned (.tuple #[.string (r.extract 0 n), .bool true]) ∧ IsTape w' b (r.extract n r.size) ∧ Keeps (fun j => j = b) w w' := by
  have h0 := cell_of_heap ht.head 0
  have hf0 := frozen_of_heap ht.head 0
  simp only [List.getElem?_toArray, List.getElem?_cons_zero] at h0
  have HT : Box (IsTape (w.setCell ⟨b, 0, none⟩ (.string (r.extract n r.size))) b (r.extract n r.size)) := ⟨⟨by have := heap_setCell_at ht.head 0 (.string (r.extract n r.size)); simpa using this, by have := ht.len; simp; omega⟩⟩
  have HK := Box.mk ((Keeps.refl (fun j => j = b) w).setCell (p := ⟨b, 0, none⟩) (fun _ => rfl) (.string (r.extract n r.size)))
  have hr := ht.len
  clear ht
  go_enter Try.func41, Try.ntmps41
  go_wp2
  exact bodyPost_ret (v := .tuple #[.string (r.extract 0 n), .bool true]) (by simp [results, Try.results41, go_sem]) rfl ⟨rfl, HT.out, HK.out⟩

set_option maxRecDepth 100000 in
theorem take_no {b n : Nat} {r : ByteArray} {w : World} (ht : IsTape w b r) (hn : r.size < n) (hm : n ≤ 70000) :
    Calls Try.prog 41 #[.pointer (some ⟨b, 0, none⟩), .int .i64 n] w fun e w' => e = .returned (.tuple #[.string ByteArray.empty, .bool false]) ∧ w' = w := by
  have h0 := cell_of_heap ht.head 0
  simp only [List.getElem?_toArray, List.getElem?_cons_zero] at h0
  have hr := ht.len
  clear ht
  go_enter Try.func41, Try.ntmps41
  go_wp2
  exact bodyPost_ret (v := .tuple #[.string ⟨#[]⟩, .bool false]) (by simp [results, Try.results41, go_sem]) rfl ⟨rfl, rfl⟩

/-- The byte at i; 0 behind the end. -/
def byt (r : ByteArray) (i : Nat) : Nat := (r[i]?.map UInt8.toNat).getD 0

theorem byt_lt (r : ByteArray) (i : Nat) : byt r i < 256 := by
  unfold byt
  cases r[i]? with
  | none => simp
  | some x => simpa using x.toNat_lt

theorem byt_extract (r : ByteArray) (a n i : Nat) (h : i < n) (hn : a + n ≤ r.size) : byt (r.extract a (a + n)) i = byt r (a + i) := by
  unfold byt
  have h1 : i < (r.extract a (a + n)).size := by simp; omega
  have h2 : a + i < r.size := by omega
  rw [ByteArray.getElem?_lt' _ _ h1, ByteArray.getElem?_lt' _ _ h2, ByteArray.getElem_extract]

theorem bits_or_i64_nat (a b : Nat) (ha : a < 4294967296) (hb : b < 4294967296) : bits .or .i64 (a : Int) (b : Int) = ((a ||| b : Nat) : Int) := by
  have hx : a ||| b < 2 ^ 32 := Nat.or_lt_two_pow (by omega) (by omega)
  have h1 : (BitVec.ofInt 64 (a : Int)).toNat = a := by
    rw [BitVec.ofInt_natCast, BitVec.toNat_ofNat]; exact Nat.mod_eq_of_lt (by omega)
  have h2 : (BitVec.ofInt 64 (b : Int)).toNat = b := by
    rw [BitVec.ofInt_natCast, BitVec.toNat_ofNat]; exact Nat.mod_eq_of_lt (by omega)
  show IntKind.i64.wrap ((BitVec.ofInt 64 (a : Int) ||| BitVec.ofInt 64 (b : Int)).toNat : Int) = _
  rw [BitVec.toNat_or, h1, h2]
  generalize a ||| b = x at hx
  simp only [IntKind.wrap]
  simp [IntKind.bits, IntKind.signed]
  omega

theorem or_first (q : Nat) (h : q < 256) : bits .or .i64 0 (q : Int) = q := by
  have := bits_or_i64_nat 0 q (by omega) (by omega)
  rw [Nat.zero_or] at this
  exact this

/-- The string that take hands back, by its bytes. -/
theorem take_u {b n : Nat} {r : ByteArray} {w : World} (ht : IsTape w b r) (hn : n ≤ r.size) :
    Calls Try.prog 41 #[.pointer (some ⟨b, 0, none⟩), .int .i64 n] w fun e w' => ∃ u : ByteArray, e = .returned (.tuple #[.string u, .bool true]) ∧ u.size = n ∧ (∀ i (h : i < u.size), (u[i]'h).toNat = byt r i) ∧
      IsTape w' b (r.extract n r.size) ∧ Keeps (fun j => j = b) w w' := by
  refine (take_ok ht hn).mono ?_
  rintro e w' ⟨rfl, h, k⟩
  refine ⟨_, rfl, by simp; omega, fun i hi => ?_, h, k⟩
  have hi' : i < n := by simp at hi; omega
  have := byt_extract r 0 n i hi' (by omega)
  rw [Nat.zero_add, Nat.zero_add] at this
  rw [← this]
  unfold byt
  rw [ByteArray.getElem?_lt' _ _ hi]
  rfl

set_option maxRecDepth 100000 in
theorem num_no {b n : Nat} {r : ByteArray} {w : World} (ht : IsTape w b r) (hn : r.size < n) (hm : n ≤ 2) :
    Calls Try.prog 40 #[.pointer (some ⟨b, 0, none⟩), .int .i64 n] w fun e w' => e = .returned (.tuple #[.int .i64 0, .bool false]) ∧ w' = w := by
  have HT := Box.mk ht
  clear ht
  go_enter Try.func40, Try.ntmps40
  go_wp2_with fail
  refine (take_no HT.out hn (by omega)).mono ?_
  rintro e w' ⟨rfl, rfl⟩
  go_wp2_with fail
  refine wp_loop_rounds 1 ?_
  rw [rounds_succ]
  go_wp2
  exact bodyPost_ret (v := .tuple #[.int .i64 0, .bool false]) (by simp [results, Try.results40, go_sem]) rfl ⟨rfl, rfl⟩

set_option maxRecDepth 100000 in
theorem num1_ok {b : Nat} {r : ByteArray} {w : World} (ht : IsTape w b r) (hn : 1 ≤ r.size) :
    Calls Try.prog 40 #[.pointer (some ⟨b, 0, none⟩), .int .i64 1] w fun e w' => e = .returned (.tuple #[.int .i64 (byt r 0), .bool true]) ∧ IsTape w' b (r.extract 1 r.size) ∧ Keeps (fun j => j = b) w w' := by
  have HT := Box.mk ht
  clear ht
  have hlt := byt_lt r 0
  obtain ⟨q, hq⟩ : ∃ q, byt r 0 = q := ⟨_, rfl⟩
  rw [hq] at hlt ⊢
  go_enter Try.func40, Try.ntmps40
  go_wp2_with fail
  refine (take_u (n := 1) HT.out hn).mono ?_
  rintro e w' ⟨u, rfl, hu, hbu, h, k⟩
  have h0 : 0 < u.size := by omega
  have hb0 := hbu 0 h0
  rw [hq] at hb0
  clear hq
  have H := Box.mk h
  have K := Box.mk k
  clear hbu h k
  go_wp2_with fail
  refine wp_loop_rounds 2 ?_
  rw [rounds_succ]
  have ho := or_first q hlt
  go_wp2
  rw [rounds_succ]
  go_wp2
  exact bodyPost_ret (v := .tuple #[.int .i64 q, .bool true]) (by simp [results, Try.results40, go_sem]) rfl ⟨rfl, H.out, K.out⟩

theorem or_second (q t : Nat) (h : q < 256) (ht : t < 256) : bits .or .i64 (q : Int) ((t : Int) * 256) = ((q + 256 * t : Nat) : Int) := by
  have := bits_or_i64_nat q (t * 256) (by omega) (by omega)
  rw [show ((t * 256 : Nat) : Int) = (t : Int) * 256 by omega] at this
  rw [this]
  congr 1
  have h2 := Nat.two_pow_add_eq_or_of_lt (i := 8) (b := q) (by omega) t
  rw [Nat.or_comm, show t * 256 = 2 ^ 8 * t by omega, ← h2]
  omega

set_option maxRecDepth 100000 in
theorem num2_ok {b : Nat} {r : ByteArray} {w : World} (ht : IsTape w b r) (hn : 2 ≤ r.size) :
    Calls Try.prog 40 #[.pointer (some ⟨b, 0, none⟩), .int .i64 2] w fun e w' => e = .returned (.tuple #[.int .i64 ((byt r 0 + 256 * byt r 1 : Nat) : Int), .bool true]) ∧ IsTape w' b (r.extract 2 r.size) ∧ Keeps (fun j => j = b) w w' := by
  have HT := Box.mk ht
  clear ht
  have hlt := byt_lt r 0
  have hlt1 := byt_lt r 1
  obtain ⟨q, hq⟩ : ∃ q, byt r 0 = q := ⟨_, rfl⟩
  obtain ⟨t, htt⟩ : ∃ t, byt r 1 = t := ⟨_, rfl⟩
  rw [hq] at hlt ⊢
  rw [htt] at hlt1 ⊢
  go_enter Try.func40, Try.ntmps40
  go_wp2_with fail
  refine (take_u (n := 2) HT.out hn).mono ?_
  rintro e w' ⟨u, rfl, hu, hbu, h, k⟩
  have h0 : 0 < u.size := by omega
  have h1 : 1 < u.size := by omega
  have hb0 := hbu 0 h0
  have hb1 := hbu 1 h1
  rw [hq] at hb0
  rw [htt] at hb1
  clear hq htt
  have H := Box.mk h
  have K := Box.mk k
  clear hbu h k
  go_wp2_with fail
  refine wp_loop_rounds 3 ?_
  rw [rounds_succ]
  have ho := or_first q hlt
  have ho2 := or_second q t hlt hlt1
  go_wp2
  rw [rounds_succ]
  go_wp2
  rw [rounds_succ]
  go_wp2
  exact bodyPost_ret (v := .tuple #[.int .i64 ((q + 256 * t : Nat) : Int), .bool true]) (by simp [results, Try.results40, go_sem]) rfl ⟨rfl, H.out, K.out⟩

end Go.Proofs.Ytljmfiegkefpoaa
