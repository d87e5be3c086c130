/- Events among a law's arguments; a push, whatever the event. -/
import Derived.Test.YtljmfiegkefpoaaQueue6
import Derived.Test.YtljmfiegkefpoaaRead
namespace Go.Proofs.Ytljmfiegkefpoaa
set_option linter.unusedVariables false
set_option linter.unusedSimpArgs false
open Go.RowKit

set_option maxRecDepth 100000 in
theorem events_of_reads {w : World} {v : Value} (h : Reads Try.prog w 22 v) : ∃ l, IsEvs w v l := by
  obtain ⟨n, ht⟩ := h.tr
  have hv : ∃ a len cap, v = .slice a len cap := by
    obtain ⟨b0, hw⟩ := h.wide
    exact Go.WideShapes.okWide_slice Try.underlying22 hw
  obtain ⟨a, len, cap, rfl⟩ := hv
  have h3 : (Value.slice a len cap).cells.toList = [.slice a len cap] := by simp [Value.cells]
  rw [h3] at ht
  rcases ht.recs Try.underlying22 Try.underlying27 (by kernel_rfl) (by kernel_rfl) (by decide) with h0 | ⟨x, l, c, m, hcs, hl, hm, h0, hf⟩
  · simp only [List.cons.injEq, Value.slice.injEq, and_true] at h0
    obtain ⟨rfl, rfl, rfl⟩ := h0
    exact ⟨[], IsEvs.nil w⟩
  · simp only [List.cons.injEq, Value.slice.injEq, and_true] at hcs
    obtain ⟨rfl, rfl, rfl⟩ := hcs
    have key : ∀ i, i < len → ∃ p : Int × Int, w.cell? ⟨x.block, x.off + i * 2, none⟩ = some (.int .i64 p.1) ∧ w.cell? ⟨x.block, x.off + i * 2 + 1, none⟩ = some (.int .i64 p.2) := by
      intro i hi
      obtain ⟨u0, h0, r0⟩ := hf i hi 0 _ rfl
      obtain ⟨u1, h1, r1⟩ := hf i hi 1 _ rfl
      obtain ⟨k0, e0, _⟩ := r0.int Try.underlying3
      obtain ⟨k1, e1, _⟩ := r1.int Try.underlying3
      simp only [List.cons.injEq, and_true] at e0 e1
      subst e0 e1
      exact ⟨(k0, k1), h0, h1⟩
    obtain ⟨f, hf⟩ := Go.Deep.choose_lt key
    refine ⟨(List.range len).map f, ⟨some x, cap, by simp⟩, by simp only [maxLen] at hm; simp; omega, ?_⟩
    intro a n cap' hv i hi
    simp only [Value.slice.injEq] at hv
    obtain ⟨rfl, -, -⟩ := hv
    have hi' : i < len := by simpa using hi
    obtain ⟨b, o, rfl, hb⟩ := h0 (by omega)
    have hg : ((List.range len).map f).getD i (0, 0) = f i := by simp [List.getD, hi']
    rw [hg]
    exact ⟨b, o, rfl, hb, hf i hi'⟩

set_option maxRecDepth 100000 in
theorem event_of_reads {w : World} {v : Value} (h : Reads Try.prog w 27 v) : ∃ k n, v = .agg #[.int .i64 k, .int .i64 n] := by
  obtain ⟨b0, hw⟩ := h.wide
  obtain ⟨m, ht⟩ := h.tr
  obtain ⟨cs, rfl, hsz⟩ := Go.WideShapes.okWide_struct Try.underlying27 hw
  have hC : Try.prog.cellsOf 27 = 2 := by kernel_rfl
  obtain ⟨l⟩ := cs
  match l, hsz.trans hC with
  | [c0, c1], _ =>
    obtain ⟨m', rfl, h4, h5⟩ := ht.struct Try.underlying27
    have r0 := h5 0 _ rfl
    have r1 := h5 1 _ rfl
    obtain ⟨k0, e0, _⟩ := r0.int Try.underlying3
    obtain ⟨k1, e1, _⟩ := r1.int Try.underlying3
    have hi : Try.prog.cellsOf 3 = 1 := by kernel_rfl
    simp [Value.cells, hi] at e0 e1
    exact ⟨k0, k1, by rw [e0, e1]⟩

/-- A push, whatever the event, whatever the queue. -/
inductive Pushed (l : List (Int × Int)) (k n : Int) : Value → List (Int × Int) → Prop where
  | ok (h : l.length < 16) (hm : evMay k n = true) : Pushed l k n .nilIface (l ++ [(k, n)])
  | arg (hm : evMay k n = false) : Pushed l k n (.iface 40 (.int .i64 2)) l
  | full (h : l.length = 16) (hm : evMay k n = true) : Pushed l k n (.iface 40 (.int .i64 18)) l

theorem lpush_any {b : Nat} {l : List (Int × Int)} {k n : Int} {w : World} (hq : IsQL w b l) :
    Calls Try.prog 14 #[.pointer (some ⟨b, 0, none⟩), .agg #[.int .i64 k, .int .i64 n]] w fun e w' => ∃ r l', e = .returned r ∧ Pushed l k n r l' ∧ IsQL w' b l' ∧ Keeps (fun j => j = b) w w' := by
  cases hm : evMay k n
  · refine (push_arg b k n w hm).mono ?_
    rintro e w' ⟨rfl, h⟩
    exact ⟨_, _, rfl, .arg hm, hq.keeps0 h, h.mono (fun _ _ h => h.elim)⟩
  · have := hq.len
    by_cases h16 : l.length = 16
    · refine (lpush_full hq h16 hm).mono ?_
      rintro e w' ⟨rfl, h⟩
      exact ⟨_, _, rfl, .full h16 hm, hq.keeps0 h, h.mono (fun _ _ h => h.elim)⟩
    · refine (lpush_is hq (by omega) hm).mono ?_
      rintro e w' ⟨rfl, h, h2⟩
      exact ⟨_, _, rfl, .ok (by omega) hm, h, h2⟩
/-- A pop, whatever the queue. -/
theorem lpop_any {b : Nat} {l : List (Int × Int)} {w : World} (hq : IsQL w b l) :
    Calls Try.prog 19 #[.pointer (some ⟨b, 0, none⟩)] w fun e w' => ∃ p ok, e = .returned (.tuple #[.agg #[.int .i64 (p : Int × Int).1, .int .i64 p.2], .bool ok]) ∧ (l = [] ∧ p = (0, 0) ∧ ok = false ∨ ok = true ∧ ∃ l', l = p :: l') ∧ IsQL w' b l.tail ∧ Keeps (fun j => j = b) w w' := by
  cases l with
  | nil =>
    refine (lpop_none hq).mono ?_
    rintro e w' ⟨rfl, h⟩
    exact ⟨(0, 0), false, rfl, .inl ⟨rfl, rfl, rfl⟩, hq.keeps0 h, h.mono (fun _ _ h => h.elim)⟩
  | cons p l =>
    refine (lpop_is hq).mono ?_
    rintro e w' ⟨rfl, h, h2⟩
    exact ⟨p, true, rfl, .inr ⟨rfl, l, rfl⟩, h, h2⟩

end Go.Proofs.Ytljmfiegkefpoaa
