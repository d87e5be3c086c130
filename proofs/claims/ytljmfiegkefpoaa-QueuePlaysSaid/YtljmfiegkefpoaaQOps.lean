/- QueuePlays's script, read. -/
import Derived.Test.YtljmfiegkefpoaaQRef3
namespace Go.Proofs.Ytljmfiegkefpoaa
set_option linter.unusedVariables false
set_option linter.unusedSimpArgs false
open Go.RowKit

/-- A script of calls, in memory: kind; the event's kind and number. -/
structure IsQOps (w : World) (a : Option Addr) (len : Nat) (K X Y : Nat → Int) : Prop where
  cells : ∀ i, i < len → ∃ b o, a = some ⟨b, o, none⟩ ∧ b < w.heap.size ∧ w.cell? ⟨b, o + i * 3, none⟩ = some (.int .i64 (K i)) ∧ w.cell? ⟨b, o + i * 3 + 1, none⟩ = some (.int .i64 (X i)) ∧
    w.cell? ⟨b, o + i * 3 + 2, none⟩ = some (.int .i64 (Y i))

set_option maxRecDepth 100000 in
theorem qops_of_reads {w : World} {v : Value} (h : Reads Try.prog w 41 v) : ∃ a len cap K X Y, v = .slice a len cap ∧ len ≤ maxLen ∧ IsQOps w a len K X Y := by
  obtain ⟨n, ht⟩ := h.tr
  have hv : ∃ a len cap, v = .slice a len cap := by
    obtain ⟨b0, hw⟩ := h.wide
    exact Go.WideShapes.okWide_slice Try.underlying41 hw
  obtain ⟨a, len, cap, rfl⟩ := hv
  have h3 : (Value.slice a len cap).cells.toList = [.slice a len cap] := by simp [Value.cells]
  rw [h3] at ht
  have hC : Try.prog.cellsOf 46 = 3 := by kernel_rfl
  have hCi : Try.prog.cellsOf 3 = 1 := by kernel_rfl
  have hCe : Try.prog.cellsOf 27 = 2 := by kernel_rfl
  rcases ht.slice Try.underlying41 with h0 | ⟨x, l, c, m, hcs, hl, hm, hmn, hx⟩
  · simp only [List.cons.injEq, Value.slice.injEq, and_true] at h0
    obtain ⟨rfl, rfl, rfl⟩ := h0
    exact ⟨none, 0, 0, fun _ => 0, fun _ => 0, fun _ => 0, rfl, Nat.zero_le _, ⟨fun i hi => by omega⟩⟩
  · simp only [List.cons.injEq, Value.slice.injEq, and_true] at hcs
    obtain ⟨rfl, rfl, rfl⟩ := hcs
    have hspot : 0 < len → ∃ b o, x = ⟨b, o, none⟩ ∧ b < w.heap.size := by
      intro hp
      obtain ⟨cs', h1, h2, _⟩ := hx 0 hp
      have h3 := h2 0 (by omega)
      rw [List.getElem?_eq_getElem (by omega)] at h3
      have h5 := World.block_lt_of_cell? w _ h3
      have h4 := World.cell?_spot h3
      obtain ⟨b, o, sp⟩ := x
      cases sp <;> simp_all [Addr.add]
    have key : ∀ i, i < len → ∃ p : Int × Int × Int, w.cell? ⟨x.block, x.off + i * 3, none⟩ = some (.int .i64 p.1) ∧ w.cell? ⟨x.block, x.off + i * 3 + 1, none⟩ = some (.int .i64 p.2.1) ∧
        w.cell? ⟨x.block, x.off + i * 3 + 2, none⟩ = some (.int .i64 p.2.2) := by
      intro i hi
      obtain ⟨cs', h1, h2, h3⟩ := hx i hi
      obtain ⟨b, o, rfl, hb⟩ := hspot (by omega)
      rw [hC] at h1 h2
      match cs', h1 with
      | [q0, q1, q2], _ =>
        obtain ⟨m', rfl, h4, h5⟩ := h3.struct Try.underlying46
        have r0 := h5 0 _ rfl
        have r1 := h5 1 _ rfl
        obtain ⟨k0, e0, _⟩ := r0.int Try.underlying3
        obtain ⟨m2, rfl, h6, h7⟩ := r1.struct Try.underlying27
        have s0 := h7 0 _ rfl
        have s1 := h7 1 _ rfl
        obtain ⟨k1, e1, _⟩ := s0.int Try.underlying3
        obtain ⟨k2, e2, _⟩ := s1.int Try.underlying3
        simp [hCi, hCe] at e0 e1 e2
        subst e0 e1 e2
        have c0 := h2 0 (by omega)
        have c1 := h2 1 (by omega)
        have c2 := h2 2 (by omega)
        rw [Addr.add_lit, Addr.add_lit] at c0 c1 c2
        exact ⟨(k0, k1, k2), by simpa [Nat.add_assoc, hC] using c0, by simpa [Nat.add_assoc, hC] using c1, by simpa [Nat.add_assoc, hC] using c2⟩
    obtain ⟨f, hf⟩ := Go.Deep.choose_lt key
    refine ⟨some x, len, cap, fun i => (f i).1, fun i => (f i).2.1, fun i => (f i).2.2, rfl, by omega, ⟨fun i hi => ?_⟩⟩
    obtain ⟨b, o, rfl, hb⟩ := hspot (by omega)
    exact ⟨b, o, rfl, hb, hf i hi⟩

end Go.Proofs.Ytljmfiegkefpoaa
