/- Arguments that can be read as data, opened step by step: numbers, strings, slices, structs. -/
import Derived.Test.YtlbmknnpglandaaBase
import Derived.Deep.Slices
import Derived.Deep.Fields
import Derived.ChangeSame
import Derived.OpenShut
namespace Go.Proofs.Ytlbmknnpglandaa
set_option linter.unusedVariables false
set_option linter.unusedSimpArgs false
open Go.RowKit Go.ChangeShapes Go.WideShapes Go.Deep

/-- The cells cs can be read as data of type t, to the depth n. -/
def TR (P : Program) (w : World) (n : Nat) (t : TypeId) (cs : List Value) : Prop :=
  ∃ (H : Type) (enc : TypeId × Value → H) (y : DataW H × List MemPlace), DataW.trod enc P w 0 (fun _ => true) true n t cs = some y

theorem Reads.tr {P : Program} {w : World} {t : TypeId} {v : Value} (h : Reads P w t v) : ∃ n, TR P w n t v.cells.toList := by
  obtain ⟨H, enc, b0, d, p, ⟨n, hn⟩, _⟩ := h
  exact ⟨n, H, enc, _, hn⟩
theorem Reads.wide {P : Program} {w : World} {t : TypeId} {v : Value} (h : Reads P w t v) : ∃ b0, Value.okWide P w .any b0 t v := by
  obtain ⟨H, enc, b0, d, p, _, h⟩ := h
  exact ⟨b0, h⟩

variable {P : Program} {w : World} {n : Nat} {t e : TypeId} {cs : List Value}

theorem TR.int {k : IntKind} (ht : P.underlying t = some (.int k)) (h : TR P w n t cs) : ∃ m, cs = [.int k m] ∧ (Lit.int k m).wf = true := by
  obtain ⟨H, enc, y, h⟩ := h
  obtain ⟨m, hc, _, hw⟩ := DataW.trod_int ht h
  exact ⟨m, hc, hw⟩
theorem TR.bool (ht : P.underlying t = some .bool) (h : TR P w n t cs) : ∃ b, cs = [.bool b] := by
  obtain ⟨H, enc, y, h⟩ := h
  obtain ⟨b, hc, _⟩ := DataW.trod_bool ht h
  exact ⟨b, hc⟩
theorem TR.str (ht : P.underlying t = some .string) (h : TR P w n t cs) : ∃ s : ByteArray, cs = [.string s] ∧ s.size ≤ maxLen := by
  obtain ⟨H, enc, y, h⟩ := h
  obtain ⟨s, hc, _, hl⟩ := DataW.trod_string ht h
  exact ⟨s, hc, hl⟩
theorem TR.struct {fs : Array Field} (ht : P.underlying t = some (.struct fs)) (h : TR P w n t cs) :
    ∃ m, n = m + 1 ∧ cs.length = P.cellsOf t ∧ ∀ (i : Nat) (f : Field), fs[i]? = some f → TR P w m f.type ((cs.drop f.offset).take (P.cellsOf f.type)) := by
  obtain ⟨H, enc, y, h⟩ := h
  obtain ⟨xs, m, hm, _, hl, hx, hf⟩ := DataW.trod_struct ht h
  refine ⟨m, hm, hl, fun i f hi => ?_⟩
  have hlt : i < xs.length := by rw [hx]; exact (Array.getElem?_eq_some_iff.1 hi).1
  exact ⟨H, enc, xs[i], by rw [hf i f hi, List.getElem?_eq_getElem hlt]⟩
theorem TR.array {k : Nat} (ht : P.underlying t = some (.array k e)) (h : TR P w n t cs) :
    ∃ m, n = m + 1 ∧ cs.length = P.cellsOf t ∧ ∀ i, i < k → TR P w m e ((cs.drop (i * P.cellsOf e)).take (P.cellsOf e)) := by
  obtain ⟨H, enc, y, h⟩ := h
  obtain ⟨xs, m, hm, _, hl, hx, hf⟩ := DataW.trod_array ht h
  refine ⟨m, hm, hl, fun i hi => ?_⟩
  have hlt : i < xs.length := by omega
  exact ⟨H, enc, xs[i], by rw [hf i hi, List.getElem?_eq_getElem hlt]⟩

/-- A slice: none; or a row of elements of which each can be read. -/
theorem TR.slice (ht : P.underlying t = some (.slice e)) (h : TR P w n t cs) :
    cs = [.slice none 0 0] ∨ ∃ (a : Addr) (len cap m : Nat), cs = [.slice (some a) len cap] ∧ len ≤ cap ∧ cap ≤ maxLen ∧ m < n ∧
      ∀ i, i < len → ∃ cs' : List Value, cs'.length = P.cellsOf e ∧ (∀ j, j < P.cellsOf e → w.cell? ((a.add (i * P.cellsOf e)).add j) = cs'[j]?) ∧ TR P w m e cs' := by
  obtain ⟨H, enc, y, h⟩ := h
  rcases DataW.trod_slice ht h with ⟨h0, _⟩ | ⟨a, len, cap, elems, rest, m, hn, hcs, _, hb, hl, hm, hlen, hel, hsp, hns⟩
  · exact .inl h0
  · refine .inr ⟨a, len, cap, m, hcs, hl, hm, by omega, fun i hi => ?_⟩
    have key := hel i hi
    rw [List.getElem?_eq_getElem (by omega)] at key
    obtain ⟨cs', h1, h2⟩ := Option.bind_eq_some_iff.1 key
    obtain ⟨_, h4, h5⟩ := World.cells?_some h1
    exact ⟨cs', h4, h5, H, enc, _, h2⟩

/-- A slice of structs whose k fields are one cell each: every field is a cell that can be read. -/
theorem TR.recs {fs : Array Field} (ht : P.underlying t = some (.slice e)) (he : P.underlying e = some (.struct fs)) (hone : oneCellFields P fs = true) (hC : P.cellsOf e = fs.size) (h0 : 0 < fs.size) (h : TR P w n t cs) :
    cs = [.slice none 0 0] ∨ ∃ (a : Addr) (len cap m : Nat), cs = [.slice (some a) len cap] ∧ len ≤ cap ∧ cap ≤ maxLen ∧
      (0 < len → ∃ b o, a = ⟨b, o, none⟩ ∧ b < w.heap.size) ∧
      ∀ i, i < len → ∀ (j : Nat) (f : Field), fs[j]? = some f → ∃ u, w.cell? ⟨a.block, a.off + (i * fs.size + j), none⟩ = some u ∧ TR P w m f.type [u] := by
  rcases h.slice ht with h | ⟨a, len, cap, m, hcs, hl, hm, _, hx⟩
  · exact .inl h
  · have hspot : 0 < len → a.spot = none ∧ a.block < w.heap.size := by
      intro hp
      obtain ⟨cs', h1, h2, _⟩ := hx 0 hp
      have h3 := h2 0 (by omega)
      rw [List.getElem?_eq_getElem (by omega)] at h3
      have h5 := World.block_lt_of_cell? w _ h3
      have h4 := World.cell?_spot h3
      obtain ⟨b, o, sp⟩ := a
      cases sp <;> simp_all [Addr.add]
    refine .inr ⟨a, len, cap, m - 1, hcs, hl, hm, ?_, ?_⟩
    · intro hp
      obtain ⟨h1, h2⟩ := hspot hp
      obtain ⟨b, o, sp⟩ := a
      simp only at h1 h2
      subst h1
      exact ⟨b, o, rfl, h2⟩
    · intro i hi j f hj
      obtain ⟨cs', h1, h2, h3⟩ := hx i hi
      obtain ⟨m', rfl, h4, h5⟩ := h3.struct he
      obtain ⟨ho, hk⟩ := hone_of hone j f hj
      have hjl : j < fs.size := (Array.getElem?_eq_some_iff.1 hj).1
      have h6 := h5 j f hj
      rw [ho, hk, List.drop_eq_getElem_cons (by omega)] at h6
      refine ⟨cs'[j]'(by omega), ?_, h6⟩
      have h7 := h2 j (by omega)
      rw [List.getElem?_eq_getElem (by omega), hC] at h7
      have h8 := (hspot (by omega)).1
      obtain ⟨b, o, sp⟩ := a
      simp only at h8
      subst h8
      rw [Addr.add_lit, Addr.add_lit] at h7
      rw [← h7, Nat.add_assoc]

end Go.Proofs.Ytlbmknnpglandaa
