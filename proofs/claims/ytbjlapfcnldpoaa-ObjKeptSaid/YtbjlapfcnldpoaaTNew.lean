/- A new heap, by contract. -/
import Derived.Test.YtbjlapfcnldpoaaTLay
namespace Go.Proofs.Ytbjlapfcnldpoaa
set_option linter.unusedVariables false
set_option linter.unusedSimpArgs false
open Go.RowKit

/-- A heap's cells before it has a store. -/
def hcellsP (p : Value) (s : TH) : List Value := p :: (hcells 0 s).tail
structure IsRaw (w : World) (hb : Nat) (p : Value) (s : TH) : Prop where
  head : w.heap[hb]? = some (.cells (hcellsP p s).toArray 95 (0, 0))
  ls : THlen s
theorem hP_get (p : Value) (s : TH) (i : Nat) : (hcellsP p s)[1 + i]? = (hcells 0 s)[1 + i]? := by
  rw [Nat.add_comm]; rfl
theorem hP_set {p v : Value} {s s' : TH} {i : Nat} (h : (hcells 0 s).set (1 + i) v = hcells 0 s') : (hcellsP p s).set (1 + i) v = hcellsP p s' := by
  unfold hcellsP
  rw [← h, Nat.add_comm]
  rfl
theorem hs_start (b : Nat) {s : TH} (h : THlen s) {i : Nat} (hi : i < 5) (x : Nat) : (hcells b s).set (1 + i) (nI x) = hcells b { s with start := s.start.set i x } := by
  have := set_seg (A := [.pointer (some ⟨b, 0, none⟩)]) (l := s.start) (C := s.count.map nI ++ (s.lists.map nI ++ (s.roots.map nU ++ [nI s.k, nI s.now, .bool s.marking, nI s.cycles, nI s.wait, nI s.tries]))) (f := nI) 1 i x rfl (by rw [h.a]; exact hi)
  simpa [hcells] using this
section
variable {w w' : World} {hb : Nat} {p : Value} {s : TH}
theorem IsRaw.cell (h : IsRaw w hb p s) (i : Nat) : w.cell? ⟨hb, i, none⟩ = (hcellsP p s)[i]? := by
  rw [cell_of_heap h.head]
  simp
theorem IsRaw.frozen (h : IsRaw w hb p s) (i : Nat) : w.frozen? ⟨hb, i, none⟩ = false := frozen_of_heap h.head i
theorem IsRaw.keeps (h : IsRaw w hb p s) {S : Nat → Prop} (k : Keeps S w w') (h1 : ¬ S hb) : IsRaw w' hb p s := ⟨k.heap h.head h1, h.ls⟩
theorem IsRaw.start (h : IsRaw w hb p s) {i : Nat} (hi : i < 5) : w.cell? ⟨hb, 1 + i, none⟩ = some (.int .i64 (s.start.getD i 0 : Nat)) := by rw [h.cell, hP_get, hc_start 0 h.ls hi]; rfl
theorem IsRaw.roots (h : IsRaw w hb p s) {i : Nat} (hi : i < 12) : w.cell? ⟨hb, 26 + i, none⟩ = some (.int .u64 (s.roots.getD i 0 : Nat)) := by
  rw [show 26 + i = 1 + (25 + i) by omega, h.cell, hP_get, show 1 + (25 + i) = 26 + i by omega, hc_roots 0 h.ls hi]; rfl
theorem IsRaw.putStart (h : IsRaw w hb p s) {i : Nat} (hi : i < 5) (x : Nat) : IsRaw (w.setCell ⟨hb, 1 + i, none⟩ (.int .i64 x)) hb p { s with start := s.start.set i x } := by
  refine ⟨?_, ⟨by simpa using h.ls.a, h.ls.b, h.ls.c, h.ls.d⟩⟩
  rw [heap_setCell_at h.head, ← hP_set (hs_start 0 h.ls hi x)]
  simp [nI]
theorem IsRaw.fill (h : IsRaw w hb p s) {b g : Nat} {W : List Nat} (hw : IsW w b g W) (h1 : hb ≠ b) (h2 : hb ≠ g) : IsTH (w.setCell ⟨hb, 0, none⟩ (.pointer (some ⟨b, 0, none⟩))) hb b g { s with W := W } := by
  have k : Keeps (fun z => z = hb) w (w.setCell ⟨hb, 0, none⟩ (.pointer (some ⟨b, 0, none⟩))) := (Keeps.refl (fun z => z = hb) w).setCell (p := ⟨hb, 0, none⟩) (fun _ => rfl) _
  refine ⟨?_, hw.keeps k (fun e => h1 e.symm) (fun e => h2 e.symm), ⟨h.ls.a, h.ls.b, h.ls.c, h.ls.d⟩, h1, h2⟩
  rw [heap_setCell_at h.head]
  simp [hcellsP, hcells]
end

/-- Before the store is there. -/
def raw0 (c0 c1 c2 c3 k : Nat) : TH := ⟨[0, 0, 0, 0, 0], [c0, c1, c2, c3], [0, 0, 0, 0, 0, 0, 0, 0, 0, 0, 0, 0, 0, 0, 0, 0], [0, 0, 0, 0, 0, 0, 0, 0, 0, 0, 0, 0], k, 0, false, 0, 0, 0, []⟩
def starting (c0 c1 c2 c3 k : Nat) : List Nat := (starts [c0, c1, c2, c3]).take k ++ List.replicate (5 - k) 0
theorem starting_set (c0 c1 c2 c3 k : Nat) (hk : k < 5) : (starting c0 c1 c2 c3 k).set k ((starts [c0, c1, c2, c3]).getD k 0) = starting c0 c1 c2 c3 (k + 1) := by
  have : k = 0 ∨ k = 1 ∨ k = 2 ∨ k = 3 ∨ k = 4 := by omega
  rcases this with rfl | rfl | rfl | rfl | rfl <;> rfl
theorem starts_step (c0 c1 c2 c3 k : Nat) (hk : k < 4) : (starts [c0, c1, c2, c3]).getD (k + 1) 0 = (starts [c0, c1, c2, c3]).getD k 0 + [c0, c1, c2, c3].getD k 0 * (3 + szs k) := by
  have : k = 0 ∨ k = 1 ∨ k = 2 ∨ k = 3 := by omega
  rcases this with rfl | rfl | rfl | rfl <;> simp [starts, szs]
theorem starts_le (c0 c1 c2 c3 k : Nat) (h0 : c0 ≤ 4000) (h1 : c1 ≤ 4000) (h2 : c2 ≤ 4000) (h3 : c3 ≤ 4000) : (starts [c0, c1, c2, c3]).getD k 0 ≤ 720051 := by
  match k with
  | 0 => simp [starts]
  | 1 => simp [starts]; omega
  | 2 => simp [starts]; omega
  | 3 => simp [starts]; omega
  | 4 => simp [starts]; omega
  | n + 5 => simp [starts]
theorem starting_len (c0 c1 c2 c3 k : Nat) (hk : k ≤ 5) : (starting c0 c1 c2 c3 k).length = 5 := by
  unfold starting
  simp [starts]
  omega
theorem get4_le (c0 c1 c2 c3 k : Nat) (h0 : c0 ≤ 4000) (h1 : c1 ≤ 4000) (h2 : c2 ≤ 4000) (h3 : c3 ≤ 4000) : [c0, c1, c2, c3].getD k 0 ≤ 4000 := by
  match k with
  | 0 => exact h0
  | 1 => exact h1
  | 2 => exact h2
  | 3 => exact h3
  | n + 4 => simp

/-- The counts' block. -/
structure IsCounts (w : World) (cb c0 c1 c2 c3 : Nat) : Prop where
  head : w.heap[cb]? = some (.cells #[.int .i64 (c0 : Int), .int .i64 (c1 : Int), .int .i64 (c2 : Int), .int .i64 (c3 : Int)] 28 (0, 0))
theorem IsCounts.keeps {w w' : World} {cb c0 c1 c2 c3 : Nat} (h : IsCounts w cb c0 c1 c2 c3) {S : Nat → Prop} (k : Keeps S w w') (h1 : ¬ S cb) : IsCounts w' cb c0 c1 c2 c3 := ⟨k.heap h.head h1⟩
theorem IsCounts.cell {w : World} {cb c0 c1 c2 c3 : Nat} (h : IsCounts w cb c0 c1 c2 c3) {k : Nat} (hk : k < 4) : w.cell? ⟨cb, k, none⟩ = some (.int .i64 ([c0, c1, c2, c3].getD k 0 : Nat)) := by
  rw [cell_of_heap h.head]
  have : k = 0 ∨ k = 1 ∨ k = 2 ∨ k = 3 := by omega
  rcases this with rfl | rfl | rfl | rfl <;> rfl

/-- The state before lay. -/
def pre (c0 c1 c2 c3 k : Nat) : TH := ⟨starts [c0, c1, c2, c3], [c0, c1, c2, c3], [0, 0, 0, 0, 0, 0, 0, 0, 0, 0, 0, 0, 0, 0, 0, 0], List.replicate 12 12, k, 0, false, 0, 0, 0, List.replicate ((starts [c0, c1, c2, c3]).getD 4 0) 0⟩
def rooting (k : Nat) : List Nat := List.replicate k 12 ++ List.replicate (12 - k) 0
theorem rooting_set (k : Nat) (hk : k < 12) : (rooting k).set k 12 = rooting (k + 1) := by
  have : k = 0 ∨ k = 1 ∨ k = 2 ∨ k = 3 ∨ k = 4 ∨ k = 5 ∨ k = 6 ∨ k = 7 ∨ k = 8 ∨ k = 9 ∨ k = 10 ∨ k = 11 := by omega
  rcases this with rfl | rfl | rfl | rfl | rfl | rfl | rfl | rfl | rfl | rfl | rfl | rfl <;> rfl

set_option maxRecDepth 100000 in
set_option maxHeartbeats 4000000 in
theorem tnew_is {c0 c1 c2 c3 k : Nat} {s : TH} {w : World} (h0 : c0 ≤ 4000) (h1 : c1 ≤ 4000) (h2 : c2 ≤ 4000) (h3 : c3 ≤ 4000) (hk1 : 1 ≤ k) (hk2 : k ≤ 64) (hs : tlay (pre c0 c1 c2 c3 k) = some s) :
    Calls Try.prog 14 #[.agg #[.int .i64 (c0 : Int), .int .i64 (c1 : Int), .int .i64 (c2 : Int), .int .i64 (c3 : Int)], .int .i64 k] w fun e w' => ∃ hb b g, e = .returned (.tuple #[.pointer (some ⟨hb, 0, none⟩), .nilIface]) ∧ IsTH w' hb b g s ∧
      Keeps (fun _ => False) w w' ∧ w.heap.size ≤ hb ∧ w.heap.size ≤ b ∧ w.heap.size ≤ g := by
  have Hs := Box.mk hs
  have Hc := Box.mk (And.intro h0 (And.intro h1 (And.intro h2 h3)))
  clear hs
  go_enter Try.func14, Try.ntmps14
  go_wp2_with fail
  have HC0 : IsCounts ((w.alloc (.cells #[.int .i64 (c0 : Int), .int .i64 (c1 : Int), .int .i64 (c2 : Int), .int .i64 (c3 : Int)] 28)).alloc (.cells #[.pointer none, .int .i64 0, .int .i64 0, .int .i64 0, .int .i64 0, .int .i64 0, .int .i64 (c0 : Int), .int .i64 (c1 : Int), .int .i64 (c2 : Int), .int .i64 (c3 : Int), .int .i64 0, .int .i64 0, .int .i64 0, .int .i64 0, .int .i64 0, .int .i64 0, .int .i64 0, .int .i64 0, .int .i64 0, .int .i64 0, .int .i64 0, .int .i64 0, .int .i64 0, .int .i64 0, .int .i64 0, .int .i64 0, .int .u64 0, .int .u64 0, .int .u64 0, .int .u64 0, .int .u64 0, .int .u64 0, .int .u64 0, .int .u64 0, .int .u64 0, .int .u64 0, .int .u64 0, .int .u64 0, .int .i64 (k : Int), .int .i64 0, .bool false, .int .i64 0, .int .i64 0, .int .i64 0] 95)) w.heap.size c0 c1 c2 c3 :=
    ⟨Keeps.heap ((Keeps.refl (fun _ => False) _).alloc _) (heap_alloc_new w _) (fun h => h)⟩
  have HR0 : IsRaw ((w.alloc (.cells #[.int .i64 (c0 : Int), .int .i64 (c1 : Int), .int .i64 (c2 : Int), .int .i64 (c3 : Int)] 28)).alloc (.cells #[.pointer none, .int .i64 0, .int .i64 0, .int .i64 0, .int .i64 0, .int .i64 0, .int .i64 (c0 : Int), .int .i64 (c1 : Int), .int .i64 (c2 : Int), .int .i64 (c3 : Int), .int .i64 0, .int .i64 0, .int .i64 0, .int .i64 0, .int .i64 0, .int .i64 0, .int .i64 0, .int .i64 0, .int .i64 0, .int .i64 0, .int .i64 0, .int .i64 0, .int .i64 0, .int .i64 0, .int .i64 0, .int .i64 0, .int .u64 0, .int .u64 0, .int .u64 0, .int .u64 0, .int .u64 0, .int .u64 0, .int .u64 0, .int .u64 0, .int .u64 0, .int .u64 0, .int .u64 0, .int .u64 0, .int .i64 (k : Int), .int .i64 0, .bool false, .int .i64 0, .int .i64 0, .int .i64 0] 95)) (w.heap.size + 1) (.pointer none) (raw0 c0 c1 c2 c3 k) := by
    refine ⟨?_, ⟨rfl, rfl, rfl, rfl⟩⟩
    have := heap_alloc_new (w.alloc (.cells #[.int .i64 (c0 : Int), .int .i64 (c1 : Int), .int .i64 (c2 : Int), .int .i64 (c3 : Int)] 28)) (.cells #[.pointer none, .int .i64 0, .int .i64 0, .int .i64 0, .int .i64 0, .int .i64 0, .int .i64 (c0 : Int), .int .i64 (c1 : Int), .int .i64 (c2 : Int), .int .i64 (c3 : Int), .int .i64 0, .int .i64 0, .int .i64 0, .int .i64 0, .int .i64 0, .int .i64 0, .int .i64 0, .int .i64 0, .int .i64 0, .int .i64 0, .int .i64 0, .int .i64 0, .int .i64 0, .int .i64 0, .int .i64 0, .int .i64 0, .int .u64 0, .int .u64 0, .int .u64 0, .int .u64 0, .int .u64 0, .int .u64 0, .int .u64 0, .int .u64 0, .int .u64 0, .int .u64 0, .int .u64 0, .int .u64 0, .int .i64 (k : Int), .int .i64 0, .bool false, .int .i64 0, .int .i64 0, .int .i64 0] 95)
    rw [show (w.alloc (.cells #[.int .i64 (c0 : Int), .int .i64 (c1 : Int), .int .i64 (c2 : Int), .int .i64 (c3 : Int)] 28)).heap.size = w.heap.size + 1 by simp] at this
    exact this
  have K0 : Keeps (fun _ => False) w ((w.alloc (.cells #[.int .i64 (c0 : Int), .int .i64 (c1 : Int), .int .i64 (c2 : Int), .int .i64 (c3 : Int)] 28)).alloc (.cells #[.pointer none, .int .i64 0, .int .i64 0, .int .i64 0, .int .i64 0, .int .i64 0, .int .i64 (c0 : Int), .int .i64 (c1 : Int), .int .i64 (c2 : Int), .int .i64 (c3 : Int), .int .i64 0, .int .i64 0, .int .i64 0, .int .i64 0, .int .i64 0, .int .i64 0, .int .i64 0, .int .i64 0, .int .i64 0, .int .i64 0, .int .i64 0, .int .i64 0, .int .i64 0, .int .i64 0, .int .i64 0, .int .i64 0, .int .u64 0, .int .u64 0, .int .u64 0, .int .u64 0, .int .u64 0, .int .u64 0, .int .u64 0, .int .u64 0, .int .u64 0, .int .u64 0, .int .u64 0, .int .u64 0, .int .i64 (k : Int), .int .i64 0, .bool false, .int .i64 0, .int .i64 0, .int .i64 0] 95)) := ((Keeps.refl _ w).alloc _).alloc _
  generalize ((w.alloc (.cells #[.int .i64 (c0 : Int), .int .i64 (c1 : Int), .int .i64 (c2 : Int), .int .i64 (c3 : Int)] 28)).alloc (.cells #[.pointer none, .int .i64 0, .int .i64 0, .int .i64 0, .int .i64 0, .int .i64 0, .int .i64 (c0 : Int), .int .i64 (c1 : Int), .int .i64 (c2 : Int), .int .i64 (c3 : Int), .int .i64 0, .int .i64 0, .int .i64 0, .int .i64 0, .int .i64 0, .int .i64 0, .int .i64 0, .int .i64 0, .int .i64 0, .int .i64 0, .int .i64 0, .int .i64 0, .int .i64 0, .int .i64 0, .int .i64 0, .int .i64 0, .int .u64 0, .int .u64 0, .int .u64 0, .int .u64 0, .int .u64 0, .int .u64 0, .int .u64 0, .int .u64 0, .int .u64 0, .int .u64 0, .int .u64 0, .int .u64 0, .int .i64 (k : Int), .int .i64 0, .bool false, .int .i64 0, .int .i64 0, .int .i64 0] 95)) = w1 at *
  obtain ⟨cb, hcb⟩ : ∃ cb, w.heap.size = cb := ⟨_, rfl⟩
  have Hcb := Box.mk hcb
  rw [hcb] at HC0 HR0 ⊢
  clear hcb
  have HC := Box.mk HC0
  have HR := Box.mk HR0
  have K := Box.mk K0
  clear HC0 HR0 K0
  refine (sizes_is _).mono ?_
  rintro e w2 ⟨rfl, k2⟩
  have HC2 := Box.mk (HC.out.keeps k2 (fun h => h))
  have HR2 := Box.mk (HR.out.keeps k2 (fun h => h))
  have K2 := Box.mk (K.out.trans k2)
  clear HC HR K k2
  go_wp2_with fail
  go_loopw [7, 16] (fun at_ i wr => ∃ (j p : Nat), j ≤ 4 ∧ i = .int .i64 j ∧ at_ = .int .i64 p ∧ p ≤ 720051 ∧ Box ((starts [c0, c1, c2, c3]).getD j 0 = p) ∧ Box (IsCounts wr cb c0 c1 c2 c3) ∧ Box (IsRaw wr (cb + 1) (.pointer none) { raw0 c0 c1 c2 c3 k with start := starting c0 c1 c2 c3 j }) ∧ Box (Keeps (fun _ => False) w wr)) (fun _ i _ => 4 - (intOf i).toNat)
  case atStart => exact ⟨0, 51, Nat.zero_le _, rfl, rfl, by omega, ⟨rfl⟩, HC2, HR2, K2⟩
  case round =>
    clear HC2 HR2 K2
    obtain ⟨j, p, hj, rfl, rfl, hp, HP, HC, HR, K⟩ := hrel
    by_cases hj4 : j < 4
    · have hj0 : (0 : Int) ≤ (j : Int) := by omega
      have hj1 : (j : Int) < 4 := by omega
      have hix := fun w => szAt j hj4 w
      have hstep := starts_step c0 c1 c2 c3 j hj4
      have hnb := starts_le c0 c1 c2 c3 (j + 1) Hc.out.1 Hc.out.2.1 Hc.out.2.2.1 Hc.out.2.2.2
      have hset := starting_set c0 c1 c2 c3 j (by omega)
      have hcj := HC.out.cell hj4
      have hcb := get4_le c0 c1 c2 c3 j Hc.out.1 Hc.out.2.1 Hc.out.2.2.1 Hc.out.2.2.2
      have hszb := szs_le j
      rw [HP.out] at hstep hset
      obtain ⟨sz, hsz⟩ : ∃ x, szs j = x := ⟨_, rfl⟩
      obtain ⟨n, hn⟩ : ∃ x, [c0, c1, c2, c3].getD j 0 = x := ⟨_, rfl⟩
      rw [hsz] at hix hstep hszb
      rw [hn] at hstep hcj hcb
      obtain ⟨q, hq⟩ : ∃ q, n * (3 + sz) = q := ⟨_, rfl⟩
      rw [hq] at hstep
      rw [hstep] at hnb
      have hqb : q ≤ 520000 := by
        rw [← hq]
        have := Nat.mul_le_mul (show n ≤ 4000 by omega) (show 3 + sz ≤ 130 by omega)
        omega
      have hmul : IntKind.i64.wrap ((n : Int) * (3 + (sz : Int))) = (q : Int) := by
        have e : (n : Int) * (3 + (sz : Int)) = (q : Int) := by rw [← hq]; push_cast; rfl
        rw [e]
        simp only [IntKind.wrap]
        simp [IntKind.bits, IntKind.signed]
        omega
      have hmul2 : wrap64 ((n : Int) * (3 + (sz : Int))) = (q : Int) := by
        have e : (n : Int) * (3 + (sz : Int)) = (q : Int) := by rw [← hq]; push_cast; rfl
        rw [e]
        unfold wrap64
        omega
      have hsum : wrap64 ((p : Int) + (q : Int)) = (p : Int) + (q : Int) := by unfold wrap64; omega
      have HST := Box.mk hstep
      have hsc := HR.out.start (i := j) (by omega)
      have hsf := HR.out.frozen (1 + j)
      have hput := HR.out.putStart (i := j) (by omega) p
      simp only at hput
      rw [hset] at hput
      have HP2 := Box.mk hput
      have kq : Keeps (fun z => z = cb + 1) wr (wr.setCell ⟨cb + 1, 1 + j, none⟩ (.int .i64 (p : Int))) := (Keeps.refl (fun z => z = cb + 1) wr).setCell (p := ⟨cb + 1, 1 + j, none⟩) (fun _ => rfl) _
      have HCn := Box.mk (HC.out.keeps kq (by omega))
      have hcj2 := HCn.out.cell hj4
      rw [hn] at hcj2
      have KP := Box.mk (K.out.setCell (p := ⟨cb + 1, 1 + j, none⟩) (fun h => by have := Hcb.out; simp only at h; omega) (.int .i64 (p : Int)))
      clear hput hset hsz hn hq hstep kq HC HR K
      go_wp2_with fail
      go_roundw
      case rel => exact ⟨j + 1, p + q, by omega, by go_num, by go_num, hnb, HST, HCn, HP2, KP⟩
      case measure => simp [intOf]; omega
    · have H4 : Box (j = 4) := ⟨by omega⟩
      have hj5 : ¬ ((j : Int) < 4) := by omega
      clear hj4
      have hsc := HR.out.start (i := 4) (by omega)
      have hsf := HR.out.frozen (1 + 4)
      have hput := HR.out.putStart (i := 4) (by omega) p
      have hset := starting_set c0 c1 c2 c3 4 (by omega)
      have hp4 := HP.out
      rw [H4.out] at hp4
      rw [hp4] at hset
      rw [H4.out] at hput
      simp only at hput
      rw [hset] at hput
      have HP2 := Box.mk hput
      have KP := Box.mk (K.out.setCell (p := ⟨cb + 1, 1 + 4, none⟩) (fun h => by have := Hcb.out; simp only at h; omega) (.int .i64 (p : Int)))
      have Hp4 := Box.mk hp4
      clear hput hset hp4 HC HR K
      go_wp2_with fail
      refine (rnew_is p _ (by omega)).mono ?_
      rintro e w3 ⟨b, g, rfl, hw3, k3, hb3, hg3⟩
      have hbg : cb + 1 < (wr.setCell ⟨cb + 1, 1 + 4, none⟩ (.int .i64 (p : Int))).heap.size := lt_of_heap HP2.out.head
      have hsz : w.heap.size ≤ (wr.setCell ⟨cb + 1, 1 + 4, none⟩ (.int .i64 (p : Int))).heap.size := KP.out.size
      have HR3 := HP2.out.keeps k3 (fun h => h)
      have hn1 : cb + 1 ≠ b := by simp only [Nat.reduceAdd] at hbg hb3; omega
      have hn2 : cb + 1 ≠ g := by simp only [Nat.reduceAdd] at hbg hg3; omega
      have HT := Box.mk (HR3.fill hw3 hn1 hn2)
      have c30 : w3.cell? ⟨cb + 1, 0, none⟩ = some (.pointer none) := by rw [HR3.cell]; rfl
      have f30 := HR3.frozen 0
      have Hbg : Box (w.heap.size ≤ b ∧ w.heap.size ≤ g) := ⟨by simp only [Nat.reduceAdd] at hsz hb3 hg3; omega, by simp only [Nat.reduceAdd] at hsz hb3 hg3; omega⟩
      have KT := Box.mk ((KP.out.trans k3).setCell (p := ⟨cb + 1, 0, none⟩) (fun h => by have := Hcb.out; simp only at h; omega) (.pointer (some ⟨b, 0, none⟩)))
      clear HR3 hw3 k3 hb3 hg3 hbg hsz HP2 KP hn1 hn2 hsc hsf
      go_wp2_with fail
      clear c30 f30
      go_loopw [70] (fun i wr => ∃ (j : Nat), j ≤ 12 ∧ i = .int .i64 j ∧ Box (IsTH wr (cb + 1) b g { pre c0 c1 c2 c3 k with roots := rooting j }) ∧ Box (Keeps (fun _ => False) w wr)) (fun i _ => 12 - (intOf i).toNat)
      case atStart =>
        refine ⟨0, Nat.zero_le _, rfl, ⟨?_⟩, KT⟩
        have h := HT.out
        rw [← Hp4.out] at h
        exact h
      case round =>
        clear HT KT
        obtain ⟨i, hi, rfl, HT, KT⟩ := hrel
        by_cases hi12 : i < 12
        · have hi0 : (0 : Int) ≤ (i : Int) := by omega
          have hi1 : (i : Int) < 12 := by omega
          have hrc := HT.out.roots hi12
          have hrf := HT.out.frozen (26 + i)
          have hput := HT.out.putRoot hi12 12
          simp only at hput
          rw [rooting_set i hi12] at hput
          have HT2 := Box.mk hput
          have KT2 := Box.mk (KT.out.setCell (p := ⟨cb + 1, 26 + i, none⟩) (fun h => by have := Hcb.out; simp only at h; omega) (.int .u64 ((12 : Nat) : Int)))
          clear hput
          go_wp2_with fail
          go_region_held3 (fun w' => True) (first | trivial | go_keep) (first | (go_at_call 24; refine (wvoid_is _).mono ?_; rintro e w4 ⟨rfl, rfl⟩) | fail)
          have HT3 := Box.mk (HT2.out.keeps0 ((Keeps.refl (fun _ => False) _).drew))
          have KT3 := Box.mk (KT2.out.drew)
          clear hrc hrf HT2 KT2 HT KT
          go_wp2_with fail
          go_roundw
          case rel => exact ⟨i + 1, by omega, by go_num, HT3, KT3⟩
          case measure => simp [intOf]; omega
        · have H12 : Box (i = 12) := ⟨by omega⟩
          have hi5 : ¬ ((i : Int) < 12) := by omega
          clear hi12
          have HT2 : Box (IsTH wr (cb + 1) b g (pre c0 c1 c2 c3 k)) := ⟨by have h := HT.out; rw [H12.out] at h; exact h⟩
          clear HT
          go_wp2_with fail
          refine (lay_is HT2.out Hs.out (fun c => Nat.le_trans (starts_le c0 c1 c2 c3 c Hc.out.1 Hc.out.2.1 Hc.out.2.2.1 Hc.out.2.2.2) (by decide)) (fun c => get4_le c0 c1 c2 c3 c Hc.out.1 Hc.out.2.1 Hc.out.2.2.1 Hc.out.2.2.2)).mono ?_
          rintro e w5 ⟨rfl, hI5, k5⟩
          have H5 := Box.mk hI5
          have K5 : Box (Keeps (fun _ => False) w w5) := ⟨KT.out.trans' k5 (fun z hz h => by have := Hcb.out; have := Hbg.out; unfold foot3 at h; omega)⟩
          clear hI5 k5 HT2 KT
          go_wp2_with fail
          go_ret2
          exact ⟨cb + 1, b, g, rfl, H5.out, K5.out, by have := Hcb.out; omega, Hbg.out.1, Hbg.out.2⟩

end Go.Proofs.Ytbjlapfcnldpoaa
