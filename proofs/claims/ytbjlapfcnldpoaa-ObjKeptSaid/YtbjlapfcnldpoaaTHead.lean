/- The heap's small functions by contracts: sizes, head, word, opened, class, place, at. -/
import Derived.Test.YtbjlapfcnldpoaaTHeap
import Derived.Test.YtbjlapfcnldpoaaTWord
import Derived.Laws.Bits64b
import Derived.Laws.BitsAllLaws
namespace Go.Proofs.Ytbjlapfcnldpoaa
set_option linter.unusedVariables false
set_option linter.unusedSimpArgs false
open Go.RowKit

theorem bits_or_small (a b : Nat) (ha : a < 4294967296) (hb : b < 4294967296) : bits .or .i64 (a : Int) (b : Int) = ((a ||| b : Nat) : Int) := by
  have hx : a ||| b < 2 ^ 32 := Nat.or_lt_two_pow (by omega) (by omega)
  have h1 : (BitVec.ofInt 64 (a : Int)).toNat = a := by
    rw [BitVec.ofInt_natCast, BitVec.toNat_ofNat]; exact Nat.mod_eq_of_lt (by omega)
  have h2 : (BitVec.ofInt 64 (b : Int)).toNat = b := by
    rw [BitVec.ofInt_natCast, BitVec.toNat_ofNat]; exact Nat.mod_eq_of_lt (by omega)
  show IntKind.i64.wrap ((BitVec.ofInt 64 (a : Int) ||| BitVec.ofInt 64 (b : Int)).toNat : Int) = _
  rw [BitVec.toNat_or, h1, h2]
  generalize a ||| b = x at hx
  simp only [IntKind.wrap]
  simp [IntKind.bits, IntKind.signed]
  omega
theorem or_add (x y k : Nat) (hx : x < 2 ^ k) : x ||| (y * 2 ^ k) = x + y * 2 ^ k := by
  rw [Nat.or_comm, nat_join k _ _ (by simp) hx, Nat.add_comm]

/-- A header, as a value. -/
def hval (f t m n : Nat) : Value := .agg #[.int .i64 (f : Int), .int .i64 (t : Int), .int .i64 (m : Int), .int .i64 (n : Int)]

theorem sizes_is (w : World) : Calls Try.prog 55 #[] w fun e w' => e = .returned (.agg #[.int .i64 3, .int .i64 7, .int .i64 31, .int .i64 127]) ∧ Keeps (fun _ => False) w w' := by
  go_enter Try.func55, Try.ntmps55
  go_wp2
  exact bodyPost_ret (v := .agg #[.int .i64 3, .int .i64 7, .int .i64 31, .int .i64 127]) (by simp [results, Try.results55, go_sem]) rfl ⟨rfl, (Keeps.refl _ _).alloc _⟩

set_option maxRecDepth 100000 in
theorem head_is (c l : Nat) (w : World) (hc : c ≤ 100) (hl : l ≤ 100) : Calls Try.prog 70 #[.int .i64 c, .int .i64 l] w fun e w' => e = .returned (.int .i64 (thead c l : Nat)) ∧ w' = w := by
  obtain ⟨h, hh⟩ : ∃ h, thead c l = h := ⟨_, rfl⟩
  rw [hh]
  unfold thead at hh
  have h1 : 3 * (4 * (c : Int) + (l : Int)) = (h : Int) := by omega
  clear hh
  go_enter Try.func70, Try.ntmps70
  go_wp2
  go_ret
  exact ⟨rfl, rfl⟩

set_option maxRecDepth 100000 in
theorem hword_is (f t m n : Nat) (w : World) (hf : f < 4) (ht : t < 16) (hm : m < 4) (hn : n < 256) :
    Calls Try.prog 74 #[hval f t m n] w fun e w' => e = .returned (.int .u64 (hdr f t m n : Nat)) ∧ Keeps (fun _ => False) w w' := by
  have e1 : bits .or .i64 (t : Int) ((f : Int) * 16) = ((t + f * 16 : Nat) : Int) := by
    have := bits_or_small t (f * 16) (by omega) (by omega)
    rw [or_add t f 4 (by omega)] at this
    rw [← this]
    congr 1
  have e2 : bits .or .i64 ((t + f * 16 : Nat) : Int) ((m : Int) * 64) = ((t + f * 16 + m * 64 : Nat) : Int) := by
    have := bits_or_small (t + f * 16) (m * 64) (by omega) (by omega)
    rw [or_add (t + f * 16) m 6 (by omega)] at this
    rw [← this]
    congr 1
  have e3 : bits .or .i64 ((t + f * 16 + m * 64 : Nat) : Int) ((n : Int) * 256) = ((hdr f t m n : Nat) : Int) := by
    have := bits_or_small (t + f * 16 + m * 64) (n * 256) (by omega) (by omega)
    rw [or_add (t + f * 16 + m * 64) n 8 (by omega)] at this
    have e : hdr f t m n = t + f * 16 + m * 64 + n * 256 := by unfold hdr; omega
    rw [e]
    rw [← this]
    congr 1
  have hb : hdr f t m n < 65536 := by unfold hdr; omega
  generalize hdr f t m n = h at *
  generalize t + f * 16 + m * 64 = x2 at *
  generalize t + f * 16 = x1 at *
  unfold hval
  go_enter Try.func74, Try.ntmps74
  go_wp2
  go_ret
  exact ⟨rfl, (Keeps.refl _ _).alloc _⟩

set_option maxRecDepth 100000 in
theorem opened_is (h : Nat) (w : World) (hh : h < 65536) :
    Calls Try.prog 102 #[.int .u64 h] w fun e w' => e = .returned (hval (hform h) (htag h) (hmark h) (hn h)) ∧ Keeps (fun _ => False) w w' := by
  have a1 : bits .and .u64 ((h : Int) / 16) 3 = (hform h : Int) := by
    have := bits_and_u64_nat (h / 16) 3 (by omega) (by omega)
    rw [nat_mask2] at this
    unfold hform
    rw [← this]
    congr 1
  have a2 : bits .and .u64 (h : Int) 15 = (htag h : Int) := by
    have := bits_and_u64_nat h 15 (by omega) (by omega)
    rw [show h &&& 15 = h % 16 from Nat.and_two_pow_sub_one_eq_mod h 4] at this
    unfold htag
    rw [← this]
    congr 1
  have a3 : bits .and .u64 ((h : Int) / 64) 3 = (hmark h : Int) := by
    have := bits_and_u64_nat (h / 64) 3 (by omega) (by omega)
    rw [nat_mask2] at this
    unfold hmark
    rw [← this]
    congr 1
  have a4 : bits .and .u64 ((h : Int) / 256) 255 = (hn h : Int) := by
    have := bits_and_u64_nat (h / 256) 255 (by omega) (by omega)
    rw [show h / 256 &&& 255 = h / 256 % 256 from Nat.and_two_pow_sub_one_eq_mod (h / 256) 8] at this
    unfold hn
    rw [← this]
    congr 1
  have b1 : hform h < 4 := by unfold hform; omega
  have b2 : htag h < 16 := by unfold htag; omega
  have b3 : hmark h < 4 := by unfold hmark; omega
  have b4 : hn h < 256 := by unfold hn; omega
  generalize hform h = f at *
  generalize htag h = t at *
  generalize hmark h = m at *
  generalize hn h = n at *
  unfold hval
  go_enter Try.func102, Try.ntmps102
  go_wp2
  exact bodyPost_ret (v := .agg #[.int .i64 (f : Int), .int .i64 (t : Int), .int .i64 (m : Int), .int .i64 (n : Int)]) (by simp [results, Try.results102, go_sem]) rfl ⟨rfl, (Keeps.refl _ _).alloc _⟩

end Go.Proofs.Ytbjlapfcnldpoaa
