/- RingRows' memory, as one word; its calls as they came in. -/
import Derived.Test.YtlbmknnpglandaaRingMap
import Derived.Test.YtlbmknnpglandaaRead
namespace Go.Proofs.Ytlbmknnpglandaa
set_option linter.unusedVariables false
set_option linter.unusedSimpArgs false
open Go.RowKit

/-- A slice of calls: kind, A, B. -/
structure IsRops (w : World) (v : Value) (l : List (Int × Int × Int)) : Prop where
  form : ∃ a cap, v = .slice a l.length cap ∧ l.length ≤ maxLen
  cells : ∀ a n cap, v = .slice a n cap → ∀ i, i < l.length → ∃ b o, a = some ⟨b, o, none⟩ ∧ b < w.heap.size ∧
    w.cell? ⟨b, o + i * 3, none⟩ = some (.int .i64 (l.getD i (0, 0, 0)).1) ∧ w.cell? ⟨b, o + i * 3 + 1, none⟩ = some (.int .i64 (l.getD i (0, 0, 0)).2.1) ∧ w.cell? ⟨b, o + i * 3 + 2, none⟩ = some (.int .i64 (l.getD i (0, 0, 0)).2.2)
theorem IsRops.keeps0 {w w' : World} {v : Value} {l : List (Int × Int × Int)} (h : IsRops w v l) (k : Keeps (fun _ => False) w w') : IsRops w' v l := by
  refine ⟨h.form, fun a n cap hv i hi => ?_⟩
  obtain ⟨b, o, rfl, hb, h1, h2, h3⟩ := h.cells a n cap hv i hi
  exact ⟨b, o, rfl, by have := k.size; omega, k.cell h1 (fun h => h), k.cell h2 (fun h => h), k.cell h3 (fun h => h)⟩

set_option maxRecDepth 100000 in
theorem rops_of_reads {w : World} {v : Value} (h : Reads Try.prog w 63 v) : ∃ l, IsRops w v l := by
  obtain ⟨n, ht⟩ := h.tr
  have hv : ∃ a len cap, v = .slice a len cap := by
    obtain ⟨b0, hw⟩ := h.wide
    exact Go.WideShapes.okWide_slice Try.underlying63 hw
  obtain ⟨a, len, cap, rfl⟩ := hv
  have h3 : (Value.slice a len cap).cells.toList = [.slice a len cap] := by simp [Value.cells]
  rw [h3] at ht
  rcases ht.recs Try.underlying63 Try.underlying67 (by kernel_rfl) (by kernel_rfl) (by decide) with h0 | ⟨x, l, c, m, hcs, hl, hm, h0, hf⟩
  · simp only [List.cons.injEq, Value.slice.injEq, and_true] at h0
    obtain ⟨rfl, rfl, rfl⟩ := h0
    exact ⟨[], ⟨⟨none, 0, rfl, by simp⟩, fun a n cap hv i hi => by simp at hi⟩⟩
  · simp only [List.cons.injEq, Value.slice.injEq, and_true] at hcs
    obtain ⟨rfl, rfl, rfl⟩ := hcs
    have key : ∀ i, i < len → ∃ p : Int × Int × Int, w.cell? ⟨x.block, x.off + i * 3, none⟩ = some (.int .i64 p.1) ∧ w.cell? ⟨x.block, x.off + i * 3 + 1, none⟩ = some (.int .i64 p.2.1) ∧ w.cell? ⟨x.block, x.off + i * 3 + 2, none⟩ = some (.int .i64 p.2.2) := by
      intro i hi
      obtain ⟨u0, h0, r0⟩ := hf i hi 0 _ rfl
      obtain ⟨u1, h1, r1⟩ := hf i hi 1 _ rfl
      obtain ⟨u2, h2, r2⟩ := hf i hi 2 _ rfl
      obtain ⟨k0, e0, _⟩ := r0.int Try.underlying3
      obtain ⟨k1, e1, _⟩ := r1.int Try.underlying3
      obtain ⟨k2, e2, _⟩ := r2.int Try.underlying3
      simp only [List.cons.injEq, and_true] at e0 e1 e2
      subst e0 e1 e2
      exact ⟨(k0, k1, k2), h0, h1, h2⟩
    obtain ⟨f, hf⟩ := Go.Deep.choose_lt key
    refine ⟨(List.range len).map f, ⟨⟨some x, cap, by simp, by simp; omega⟩, ?_⟩⟩
    intro a n cap' hv i hi
    simp only [Value.slice.injEq] at hv
    obtain ⟨rfl, -, -⟩ := hv
    have hi' : i < len := by simpa using hi
    obtain ⟨b, o, rfl, hb⟩ := h0 (by omega)
    have hg : ((List.range len).map f).getD i (0, 0, 0) = f i := by simp [List.getD, hi']
    rw [hg]
    exact ⟨b, o, rfl, hb, hf i hi'⟩

/-- Where all lies: the store, its words, the rows' slices, the map; rows lie from B on. -/
structure Blks (b g rb mb B : Nat) : Prop where
  lt : b < B ∧ g < B ∧ rb < B ∧ mb < B
  ne : rb ≠ b ∧ rb ≠ g ∧ mb ≠ b ∧ mb ≠ g ∧ mb ≠ rb

structure Mem (b g rb mb B : Nat) (w : World) (n : Nat) (W : List Nat) (v : Nat → Value) (R : Nat → List Nat) (f : Nat → Option Nat) : Prop where
  iw : IsW w b g W
  rows : IsRows w rb v
  own : ∀ k, k < 3 → w.ownsRow B 3 1 (v k) (R k).length (icells (R k))
  inn : IsIn w mb n f
  size : B ≤ w.heap.size

section
variable {b g rb mb B n : Nat} {w w' : World} {W : List Nat} {v : Nat → Value} {R : Nat → List Nat} {f : Nat → Option Nat}

theorem Mem.keeps {S : Nat → Prop} (h : Mem b g rb mb B w n W v R f) (k : Keeps S w w') (hb : Blks b g rb mb B) (hs : ∀ z, z < w.heap.size → ¬ S z) : Mem b g rb mb B w' n W v R f := by
  have l := hb.lt
  have := h.size
  exact ⟨h.iw.keeps k (hs _ (by omega)) (hs _ (by omega)), h.rows.keeps k (hs _ (by omega)), fun i hi => k.own2 (h.own i hi) (fun z hz => hs z ((h.own i hi).lt z hz).2), h.inn.keeps k (hs _ (by omega)), by have := k.size; omega⟩
theorem Mem.keeps0 (h : Mem b g rb mb B w n W v R f) (k : Keeps (fun _ => False) w w') (hb : Blks b g rb mb B) : Mem b g rb mb B w' n W v R f := h.keeps k hb (fun _ _ h => h)
theorem Mem.ring {W' : List Nat} (h : Mem b g rb mb B w n W v R f) (hb : Blks b g rb mb B) (k : Keeps (foot b g) w w') (hI : IsW w' b g W') : Mem b g rb mb B w' n W' v R f := by
  have l := hb.lt
  have e := hb.ne
  exact ⟨hI, h.rows.keeps k (by unfold foot; omega), fun i hi => k.own2 (h.own i hi) (fun z hz hf => by have := ((h.own i hi).lt z hz).1; unfold foot at hf; omega), h.inn.keeps k (by unfold foot; omega), by have := k.size; have := h.size; omega⟩
theorem Mem.map {n' : Nat} {f' : Nat → Option Nat} (h : Mem b g rb mb B w n W v R f) (hb : Blks b g rb mb B) (k : Keeps (fun z => z = mb) w w') (hM : IsIn w' mb n' f') : Mem b g rb mb B w' n' W v R f' := by
  have l := hb.lt
  have e := hb.ne
  exact ⟨h.iw.keeps k (by omega) (by omega), h.rows.keeps k (by omega), fun i hi => k.own2 (h.own i hi) (fun z hz hf => by have := ((h.own i hi).lt z hz).1; omega), hM, by have := k.size; have := h.size; omega⟩
theorem Mem.put (h : Mem b g rb mb B w n W v R f) (hb : Blks b g rb mb B) {i : Nat} (hi : i < 3) {x : Value} {L : List Nat} (hx : w.ownsRow B 3 1 x L.length (icells L)) :
    Mem b g rb mb B (w.setCell ⟨rb, i, none⟩ x) n W (upd v i x) (upd R i L) f := by
  have l := hb.lt
  have e := hb.ne
  have k : Keeps (fun z => z = rb) w (w.setCell ⟨rb, i, none⟩ x) := (Keeps.refl (fun z => z = rb) w).setCell (p := ⟨rb, i, none⟩) (fun _ => rfl) _
  refine ⟨h.iw.keeps k (by omega) (by omega), h.rows.put hi x, fun j hj => ?_, h.inn.keeps k (by omega), by have := k.size; have := h.size; omega⟩
  by_cases ej : j = i
  · subst ej
    rw [upd_at, upd_at]
    exact k.own2 hx (fun z hz hf => by have := (hx.lt z hz).1; omega)
  · rw [upd_ne _ _ ej, upd_ne _ _ ej]
    exact k.own2 (h.own j hj) (fun z hz hf => by have := ((h.own j hj).lt z hz).1; omega)
/-- A row's slice: none, or a row of its own. -/
theorem Mem.form (h : Mem b g rb mb B w n W v R f) {i : Nat} (hi : i < 3) : (v i = .slice none 0 0 ∧ R i = []) ∨ ∃ q c, v i = .slice (some ⟨q, 0, none⟩) (R i).length c ∧ B ≤ q ∧ q < w.heap.size := by
  rcases (h.own i hi).2 with ⟨h1, h2⟩ | ⟨q, c, cur, h1, h2, h3, _⟩
  · exact Or.inl ⟨h1, List.eq_nil_of_length_eq_zero h2⟩
  · exact Or.inr ⟨q, c, h1, h2, lt_of_heap h3⟩
end

end Go.Proofs.Ytlbmknnpglandaa
