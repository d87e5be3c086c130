/- Code that can be read: the instructions in memory. -/
import Derived.Test.YtiimojpaeccajaaGreatDoorCd
import Derived.Deep.Slices
import Derived.Deep.Fields
import Derived.ChangeSame
import Derived.OpenShut
namespace Go.Proofs.YtiimojpaeccajaaGreatDoor
set_option linter.unusedVariables false
set_option linter.unusedSimpArgs false
open Go.RowKit Go.ChangeShapes Go.WideShapes Go.Deep Go.Proofs.YtiimojpaeccajaaGreatDoorW.PrintWords Go.Proofs.YtiimojpaeccajaaGreatDoorW.PrintLast Go.Proofs.YtiimojpaeccajaaGreatDoorW.PrintMore

section
/-- The cells cs can be read as data of type t, to the depth n. -/
def TR (P : Program) (w : World) (n : Nat) (t : TypeId) (cs : List Value) : Prop :=
  ∃ (H : Type) (enc : TypeId × Value → H) (y : DataW H × List MemPlace), DataW.trod enc P w 0 (fun _ => true) true n t cs = some y

theorem Reads.tr {P : Program} {w : World} {t : TypeId} {v : Value} (h : Reads P w t v) : ∃ n, TR P w n t v.cells.toList := by
  obtain ⟨H, enc, b0, d, p, ⟨n, hn⟩, _⟩ := h
  exact ⟨n, H, enc, _, hn⟩
theorem Reads.wide {P : Program} {w : World} {t : TypeId} {v : Value} (h : Reads P w t v) : ∃ b0, Value.okWide P w .any b0 t v := by
  obtain ⟨H, enc, b0, d, p, _, h⟩ := h
  exact ⟨b0, h⟩

variable {P : Program} {w : World} {n : Nat} {t e : TypeId} {cs : List Value}

theorem TR.int {k : IntKind} (ht : P.underlying t = some (.int k)) (h : TR P w n t cs) : ∃ m, cs = [.int k m] ∧ (Lit.int k m).wf = true := by
  obtain ⟨H, enc, y, h⟩ := h
  obtain ⟨m, hc, _, hw⟩ := DataW.trod_int ht h
  exact ⟨m, hc, hw⟩
theorem TR.bool (ht : P.underlying t = some .bool) (h : TR P w n t cs) : ∃ b, cs = [.bool b] := by
  obtain ⟨H, enc, y, h⟩ := h
  obtain ⟨b, hc, _⟩ := DataW.trod_bool ht h
  exact ⟨b, hc⟩
theorem TR.str (ht : P.underlying t = some .string) (h : TR P w n t cs) : ∃ s : ByteArray, cs = [.string s] ∧ s.size ≤ maxLen := by
  obtain ⟨H, enc, y, h⟩ := h
  obtain ⟨s, hc, _, hl⟩ := DataW.trod_string ht h
  exact ⟨s, hc, hl⟩
theorem TR.struct {fs : Array Field} (ht : P.underlying t = some (.struct fs)) (h : TR P w n t cs) :
    ∃ m, n = m + 1 ∧ cs.length = P.cellsOf t ∧ ∀ (i : Nat) (f : Field), fs[i]? = some f → TR P w m f.type ((cs.drop f.offset).take (P.cellsOf f.type)) := by
  obtain ⟨H, enc, y, h⟩ := h
  obtain ⟨xs, m, hm, _, hl, hx, hf⟩ := DataW.trod_struct ht h
  refine ⟨m, hm, hl, fun i f hi => ?_⟩
  have hlt : i < xs.length := by rw [hx]; exact (Array.getElem?_eq_some_iff.1 hi).1
  exact ⟨H, enc, xs[i], by rw [hf i f hi, List.getElem?_eq_getElem hlt]⟩
theorem TR.array {k : Nat} (ht : P.underlying t = some (.array k e)) (h : TR P w n t cs) :
    ∃ m, n = m + 1 ∧ cs.length = P.cellsOf t ∧ ∀ i, i < k → TR P w m e ((cs.drop (i * P.cellsOf e)).take (P.cellsOf e)) := by
  obtain ⟨H, enc, y, h⟩ := h
  obtain ⟨xs, m, hm, _, hl, hx, hf⟩ := DataW.trod_array ht h
  refine ⟨m, hm, hl, fun i hi => ?_⟩
  have hlt : i < xs.length := by omega
  exact ⟨H, enc, xs[i], by rw [hf i hi, List.getElem?_eq_getElem hlt]⟩

/-- A slice: none; or a row of elements of which each can be read. -/
theorem TR.slice (ht : P.underlying t = some (.slice e)) (h : TR P w n t cs) :
    cs = [.slice none 0 0] ∨ ∃ (a : Addr) (len cap m : Nat), cs = [.slice (some a) len cap] ∧ len ≤ cap ∧ cap ≤ maxLen ∧ m < n ∧
      ∀ i, i < len → ∃ cs' : List Value, cs'.length = P.cellsOf e ∧ (∀ j, j < P.cellsOf e → w.cell? ((a.add (i * P.cellsOf e)).add j) = cs'[j]?) ∧ TR P w m e cs' := by
  obtain ⟨H, enc, y, h⟩ := h
  rcases DataW.trod_slice ht h with ⟨h0, _⟩ | ⟨a, len, cap, elems, rest, m, hn, hcs, _, hb, hl, hm, hlen, hel, hsp, hns⟩
  · exact .inl h0
  · refine .inr ⟨a, len, cap, m, hcs, hl, hm, by omega, fun i hi => ?_⟩
    have key := hel i hi
    rw [List.getElem?_eq_getElem (by omega)] at key
    obtain ⟨cs', h1, h2⟩ := Option.bind_eq_some_iff.1 key
    obtain ⟨_, h4, h5⟩ := World.cells?_some h1
    exact ⟨cs', h4, h5, H, enc, _, h2⟩

/-- A slice of structs whose k fields are one cell each: every field is a cell that can be read. -/
theorem TR.recs {fs : Array Field} (ht : P.underlying t = some (.slice e)) (he : P.underlying e = some (.struct fs)) (hone : oneCellFields P fs = true) (hC : P.cellsOf e = fs.size) (h0 : 0 < fs.size) (h : TR P w n t cs) :
    cs = [.slice none 0 0] ∨ ∃ (a : Addr) (len cap m : Nat), cs = [.slice (some a) len cap] ∧ len ≤ cap ∧ cap ≤ maxLen ∧
      (0 < len → ∃ b o, a = ⟨b, o, none⟩ ∧ b < w.heap.size) ∧
      ∀ i, i < len → ∀ (j : Nat) (f : Field), fs[j]? = some f → ∃ u, w.cell? ⟨a.block, a.off + (i * fs.size + j), none⟩ = some u ∧ TR P w m f.type [u] := by
  rcases h.slice ht with h | ⟨a, len, cap, m, hcs, hl, hm, _, hx⟩
  · exact .inl h
  · have hspot : 0 < len → a.spot = none ∧ a.block < w.heap.size := by
      intro hp
      obtain ⟨cs', h1, h2, _⟩ := hx 0 hp
      have h3 := h2 0 (by omega)
      rw [List.getElem?_eq_getElem (by omega)] at h3
      have h5 := World.block_lt_of_cell? w _ h3
      have h4 := World.cell?_spot h3
      obtain ⟨b, o, sp⟩ := a
      cases sp <;> simp_all [Addr.add]
    refine .inr ⟨a, len, cap, m - 1, hcs, hl, hm, ?_, ?_⟩
    · intro hp
      obtain ⟨h1, h2⟩ := hspot hp
      obtain ⟨b, o, sp⟩ := a
      simp only at h1 h2
      subst h1
      exact ⟨b, o, rfl, h2⟩
    · intro i hi j f hj
      obtain ⟨cs', h1, h2, h3⟩ := hx i hi
      obtain ⟨m', rfl, h4, h5⟩ := h3.struct he
      obtain ⟨ho, hk⟩ := hone_of hone j f hj
      have hjl : j < fs.size := (Array.getElem?_eq_some_iff.1 hj).1
      have h6 := h5 j f hj
      rw [ho, hk, List.drop_eq_getElem_cons (by omega)] at h6
      refine ⟨cs'[j]'(by omega), ?_, h6⟩
      have h7 := h2 j (by omega)
      rw [List.getElem?_eq_getElem (by omega), hC] at h7
      have h8 := (hspot (by omega)).1
      obtain ⟨b, o, sp⟩ := a
      simp only at h8
      subst h8
      rw [Addr.add_lit, Addr.add_lit] at h7
      rw [← h7, Nat.add_assoc]

end

theorem listed {α : Type} (p : Nat → α → Prop) (n : Nat) (h : ∀ i, i < n → ∃ x, p i x) : ∃ l : List α, l.length = n ∧ ∀ (i : Nat) (x : α), l[i]? = some x → p i x := by
  induction n with
  | zero => exact ⟨[], rfl, fun i x hx => by simp at hx⟩
  | succ n ih =>
    obtain ⟨l, hl, hp⟩ := ih (fun i hi => h i (by omega))
    obtain ⟨x, hx⟩ := h n (by omega)
    refine ⟨l ++ [x], by simp [hl], fun i y hy => ?_⟩
    by_cases hi : i < l.length
    · rw [List.getElem?_append_left hi] at hy
      exact hp i y hy
    · have hlt := (List.getElem?_eq_some_iff.1 hy).1
      simp at hlt
      have e : i = l.length := by omega
      subst e
      simp at hy
      rw [← hy, hl]; exact hx
theorem add_two (a : Addr) (x y : Nat) : (a.add x).add y = a.add (x + y) := by
  obtain ⟨b, o, sp⟩ := a
  by_cases hx : x = 0 <;> by_cases hy : y = 0 <;> simp [Addr.add, hx, hy, Nat.add_assoc]
/-- A slice whose elements can be read as of a kind. -/
theorem rowC {α : Type} (k : Kd α) {w : World} {n : Nat} {t e : TypeId} {cs : List Value} (ht : Tryz.prog.underlying t = some (.slice e)) (hz : Tryz.prog.cellsOf e = k.sz) (h : TR Tryz.prog w n t cs)
    (each : ∀ m, m < n → ∀ cs', TR Tryz.prog w m e cs' → ∃ x, k.K w x cs') : ∃ A len cap ps, cs = [.slice A len cap] ∧ len ≤ cap ∧ len ≤ 9223372036854775807 ∧ ps.length = len ∧ Kd.C k w A len ps := by
  rcases h.slice ht with h0 | ⟨a, len, cap, m, hcs, hl, hm, hmn, hx⟩
  · exact ⟨none, 0, 0, [], h0, Nat.le_refl _, by decide, rfl, ⟨rfl, by decide, fun h => absurd h (Nat.lt_irrefl 0)⟩⟩
  · have hml : len ≤ 9223372036854775807 := Nat.le_trans hl hm
    obtain ⟨ps, hpl, hp⟩ := listed (fun i x => ∃ c : List Value, c.length = k.sz ∧ k.K w x c ∧ ∀ j u, c[j]? = some u → w.cell? (a.add (i * k.sz + j)) = some u) len (fun i hi => by
      obtain ⟨cs', h1, h2, h3⟩ := hx i hi
      obtain ⟨x, hk⟩ := each m hmn cs' h3
      refine ⟨x, cs', by rw [h1, hz], hk, fun j u hu => ?_⟩
      have hj : j < Tryz.prog.cellsOf e := by rw [← h1]; exact (List.getElem?_eq_some_iff.1 hu).1
      have h4 := h2 j hj
      rw [hu, hz, add_two] at h4
      exact h4)
    exact ⟨some a, len, cap, ps, hcs, hl, hml, hpl, ⟨hpl, hml, fun _ => ⟨a, rfl, hp⟩⟩⟩

set_option maxRecDepth 100000 in
theorem dat_reads {w : World} : ∀ n cs, TR Tryz.prog w n 45 cs → ∃ x : Dat, datK.K w x cs := by
  have hC : Tryz.prog.cellsOf 45 = 4 := by kernel_rfl
  have hCi : Tryz.prog.cellsOf 3 = 1 := by kernel_rfl
  have hCs : Tryz.prog.cellsOf 9 = 1 := by kernel_rfl
  have hCl : Tryz.prog.cellsOf 43 = 1 := by kernel_rfl
  intro n
  induction n using Nat.strongRecOn with
  | ind n ih =>
    intro cs h
    obtain ⟨m, rfl, h4, h5⟩ := h.struct Tryz.underlying45
    rw [hC] at h4
    match cs, h4 with
    | [q0, q1, q2, q3], _ =>
      obtain ⟨k0, e0, _⟩ := (h5 0 _ rfl).int Tryz.underlying3
      obtain ⟨k1, e1, _⟩ := (h5 1 _ rfl).int Tryz.underlying3
      obtain ⟨k2, e2, _⟩ := (h5 2 _ rfl).str Tryz.underlying9
      obtain ⟨A, len, cap, ps, e3, hl, hm, hpl, hc⟩ := rowC datK Tryz.underlying43 (by rw [hC]; rfl) (h5 3 _ rfl) (fun m' hm' cs' h' => ih m' (by omega) cs' h')
      simp [hCi, hCs, hCl] at e0 e1 e2 e3
      subst e0 e1 e2 e3 hpl
      exact ⟨⟨k0, k1, k2, ps⟩, PCodeSafe.k45_mk w ⟨k0, k1, k2, ps⟩ hl hc⟩
set_option maxRecDepth 100000 in
theorem ins_reads {w : World} (n : Nat) (cs : List Value) (h : TR Tryz.prog w n 54 cs) : ∃ x : Ins, insK.K w x cs := by
  have hC : Tryz.prog.cellsOf 54 = 8 := by kernel_rfl
  have hCd : Tryz.prog.cellsOf 45 = 4 := by kernel_rfl
  have hCi : Tryz.prog.cellsOf 3 = 1 := by kernel_rfl
  have hCs : Tryz.prog.cellsOf 9 = 1 := by kernel_rfl
  obtain ⟨m, rfl, h4, h5⟩ := h.struct Tryz.underlying54
  rw [hC] at h4
  match cs, h4 with
  | [q0, q1, q2, q3, q4, q5, q6, q7], _ =>
    obtain ⟨k0, e0, _⟩ := (h5 0 _ rfl).int Tryz.underlying3
    obtain ⟨k1, e1, _⟩ := (h5 1 _ rfl).int Tryz.underlying3
    obtain ⟨k2, e2, _⟩ := (h5 2 _ rfl).int Tryz.underlying3
    obtain ⟨k3, e3, _⟩ := (h5 3 _ rfl).str Tryz.underlying9
    obtain ⟨d, hd⟩ := dat_reads m _ (h5 4 _ rfl)
    have hd2 := hd
    obtain ⟨A, c, e4, hl, hc⟩ := PCodeSafe.k45_open hd
    simp [hCi, hCs, hCd] at e0 e1 e2 e3 e4
    obtain ⟨e4, e5, e6, e7⟩ := e4
    subst e0 e1 e2 e3 e4 e5 e6 e7
    exact ⟨⟨k0, k1, k2, k3, d⟩, PCodeSafe.k54_mk w ⟨k0, k1, k2, k3, d⟩ hl hc⟩
set_option maxRecDepth 100000 in
/-- Code that can be read. -/
theorem code_reads {w : World} {v : Value} (h : Reads Tryz.prog w 22 v) : ∃ A l c, v = .slice A l.length c ∧ l.length ≤ c ∧ l.length ≤ 9223372036854775807 ∧ Kd.C insK w A l.length l := by
  obtain ⟨n, ht⟩ := h.tr
  have hv : ∃ a len cap, v = .slice a len cap := by
    obtain ⟨b0, hw⟩ := h.wide
    exact Go.WideShapes.okWide_slice Tryz.underlying22 hw
  obtain ⟨a, len, cap, rfl⟩ := hv
  have h3 : (Value.slice a len cap).cells.toList = [.slice a len cap] := by simp [Value.cells]
  rw [h3] at ht
  obtain ⟨A, len', cap', ps, e, hl, hm, hpl, hc⟩ := rowC insK Tryz.underlying22 (by kernel_rfl) ht (fun m hm cs' h' => ins_reads m cs' h')
  simp only [List.cons.injEq, Value.slice.injEq, and_true] at e
  obtain ⟨rfl, rfl, rfl⟩ := e
  subst hpl
  exact ⟨a, ps, cap, rfl, hl, hm, hc⟩

end Go.Proofs.YtiimojpaeccajaaGreatDoor
