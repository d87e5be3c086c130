/- Acts among a law's arguments. -/
import Derived.Test.YtljmfiegkefpoaaScript5
import Derived.Test.YtljmfiegkefpoaaRead
namespace Go.Proofs.Ytljmfiegkefpoaa
set_option linter.unusedVariables false
set_option linter.unusedSimpArgs false
open Go.RowKit

/-- Only new blocks are written. -/
theorem IsActs.keepsNew {w w' : World} {v : Value} {l : List ActI} (h : IsActs w v l) {S : Nat → Prop} (k : Keeps S w w') (hs : ∀ i, S i → w.heap.size ≤ i) : IsActs w' v l := by
  refine ⟨h.form, fun a n cap hv i hi => ?_⟩
  obtain ⟨b, o, rfl, hb, h1, h2, h3⟩ := h.cells a n cap hv i hi
  have hn : ¬ S b := fun e => by have := hs _ e; omega
  exact ⟨b, o, rfl, by have := k.size; omega, k.cell h1 hn, k.cell h2 hn, k.cell h3 hn⟩
theorem IsActs.nil (w : World) : IsActs w (.slice none 0 0) [] := ⟨⟨none, 0, rfl, by simp, by simp⟩, fun a n cap hv i hi => by simp at hi⟩

set_option maxRecDepth 100000 in
theorem acts_of_reads {w : World} {v : Value} (h : Reads Try.prog w 53 v) : ∃ l, IsActs w v l ∧ (∀ a ∈ l, a.2.2.size ≤ 9223372036854775807) ∧ (v = .slice none 0 0 ∧ l = [] ∨ ∃ ad n c, v = .slice (some ad) n c ∧ n = l.length) := by
  obtain ⟨n, ht⟩ := h.tr
  have hv : ∃ a len cap, v = .slice a len cap := by
    obtain ⟨b0, hw⟩ := h.wide
    exact Go.WideShapes.okWide_slice Try.underlying53 hw
  obtain ⟨a, len, cap, rfl⟩ := hv
  have h3 : (Value.slice a len cap).cells.toList = [.slice a len cap] := by simp [Value.cells]
  rw [h3] at ht
  rcases ht.recs Try.underlying53 Try.underlying72 (by kernel_rfl) (by kernel_rfl) (by decide) with h0 | ⟨x, l, c, m, hcs, hl, hm, h0, hf⟩
  · simp only [List.cons.injEq, Value.slice.injEq, and_true] at h0
    obtain ⟨rfl, rfl, rfl⟩ := h0
    exact ⟨[], IsActs.nil w, by simp, Or.inl ⟨rfl, rfl⟩⟩
  · simp only [List.cons.injEq, Value.slice.injEq, and_true] at hcs
    obtain ⟨rfl, rfl, rfl⟩ := hcs
    have key : ∀ i, i < len → ∃ p : ActI, (w.cell? ⟨x.block, x.off + i * 3, none⟩ = some (.int .i64 p.1) ∧ w.cell? ⟨x.block, x.off + i * 3 + 1, none⟩ = some (.int .i64 p.2.1) ∧ w.cell? ⟨x.block, x.off + i * 3 + 2, none⟩ = some (.string p.2.2)) ∧ p.2.2.size ≤ 9223372036854775807 := by
      intro i hi
      obtain ⟨u0, h0, r0⟩ := hf i hi 0 _ rfl
      obtain ⟨u1, h1, r1⟩ := hf i hi 1 _ rfl
      obtain ⟨u2, h2, r2⟩ := hf i hi 2 _ rfl
      obtain ⟨k0, e0, _⟩ := r0.int Try.underlying3
      obtain ⟨k1, e1, _⟩ := r1.int Try.underlying3
      obtain ⟨k2, e2, hk⟩ := r2.str Try.underlying9
      simp only [List.cons.injEq, and_true] at e0 e1 e2
      subst e0 e1 e2
      simp only [maxLen] at hk
      exact ⟨(k0, k1, k2), ⟨h0, h1, h2⟩, hk⟩
    obtain ⟨f, hf⟩ := Go.Deep.choose_lt key
    refine ⟨(List.range len).map f, ⟨⟨some x, cap, by simp, by simpa using hl, hm⟩, ?_⟩, ?_, Or.inr ⟨x, _, cap, rfl, by simp⟩⟩
    · intro a n cap' hv i hi
      simp only [Value.slice.injEq] at hv
      obtain ⟨rfl, -, -⟩ := hv
      have hi' : i < len := by simpa using hi
      obtain ⟨b, o, rfl, hb⟩ := h0 (by omega)
      have hg : ((List.range len).map f).getD i noAct = f i := by simp [List.getD, hi']
      rw [hg]
      exact ⟨b, o, rfl, hb, (hf i hi').1⟩
    · intro a ha
      simp only [List.mem_map, List.mem_range] at ha
      obtain ⟨i, hi, rfl⟩ := ha
      exact (hf i hi).2

end Go.Proofs.Ytljmfiegkefpoaa
