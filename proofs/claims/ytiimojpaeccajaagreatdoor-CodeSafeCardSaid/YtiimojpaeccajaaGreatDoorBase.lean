/- What is used everywhere: worlds of which all but some blocks stay as they were; errors; a block's cells. No program in sight. -/
import Derived.WalkKit
import Derived.WalkSpells
import Derived.Deep.QuietTactic
import Derived.BigQuiet
import Derived.ProofKit
namespace Go.Proofs.YtiimojpaeccajaaGreatDoor
set_option linter.unusedVariables false
set_option linter.unusedSimpArgs false
open Go.RowKit

/-- A fact kept from the walk. -/
structure Box (p : Prop) : Prop where
  out : p

/-- All blocks that were there stay as they were, but for those in S. -/
structure Keeps (S : Nat → Prop) (w w' : World) : Prop where
  os : w'.os = w.os
  tape : w'.tape = w.tape
  output : w'.output = w.output
  size : w.heap.size ≤ w'.heap.size
  block : ∀ k, k < w.heap.size → ¬ S k → w'.heap[k]? = w.heap[k]?

theorem Keeps.refl (S : Nat → Prop) (w : World) : Keeps S w w := ⟨rfl, rfl, rfl, Nat.le_refl _, fun _ _ _ => rfl⟩
theorem Keeps.trans {S : Nat → Prop} {a b c : World} (h : Keeps S a b) (k : Keeps S b c) : Keeps S a c :=
  ⟨k.os.trans h.os, k.tape.trans h.tape, k.output.trans h.output, Nat.le_trans h.size k.size,
    fun i hi hs => (k.block i (Nat.lt_of_lt_of_le hi h.size) hs).trans (h.block i hi hs)⟩
/-- What is written later than S's world may be new blocks as well. -/
theorem Keeps.trans' {S S' : Nat → Prop} {a b c : World} (h : Keeps S a b) (k : Keeps S' b c) (hs : ∀ i, i < a.heap.size → S' i → S i) : Keeps S a c :=
  ⟨k.os.trans h.os, k.tape.trans h.tape, k.output.trans h.output, Nat.le_trans h.size k.size,
    fun i hi hn => (k.block i (Nat.lt_of_lt_of_le hi h.size) (fun h' => hn (hs i hi h'))).trans (h.block i hi hn)⟩
theorem Keeps.mono {S S' : Nat → Prop} {a b : World} (h : Keeps S a b) (hs : ∀ i, i < a.heap.size → S i → S' i) : Keeps S' a b :=
  ⟨h.os, h.tape, h.output, h.size, fun i hi hn => h.block i hi (fun h' => hn (hs i hi h'))⟩
theorem Keeps.drew {S : Nat → Prop} {a b : World} (h : Keeps S a b) : Keeps S a b.drew := ⟨h.os, h.tape, h.output, h.size, h.block⟩
theorem Keeps.drewN {S : Nat → Prop} {a b : World} (h : Keeps S a b) (n : Nat) : Keeps S a (b.drewN n) := ⟨h.os, h.tape, h.output, h.size, h.block⟩
theorem Keeps.alloc {S : Nat → Prop} {a b : World} (h : Keeps S a b) (o : Obj) : Keeps S a (b.alloc o) :=
  h.trans ⟨rfl, rfl, rfl, by simp, fun k hk _ => Below.heap_alloc _ _ _ hk⟩
theorem Keeps.setCell {S : Nat → Prop} {a b : World} (h : Keeps S a b) {p : Addr} (hp : p.block < a.heap.size → S p.block) (u : Value) : Keeps S a (b.setCell p u) :=
  ⟨h.os, h.tape, h.output, by simpa using h.size, fun k hk hs => (Below.heap_setCell _ _ _ _ (fun e => by subst e; exact hs (hp hk))).trans (h.block k hk hs)⟩
theorem Keeps.grown {S : Nat → Prop} {a w w' : World} {row : Option Nat} (h : Keeps S a w) (hg : w.grownBy w' row) (hr : ∀ k, row = some k → k < a.heap.size → S k) : Keeps S a w' :=
  ⟨hg.os.trans h.os, hg.tape.trans h.tape, hg.output.trans h.output, Nat.le_trans h.size hg.size,
    fun k hk hs => (hg.block k (Nat.lt_of_lt_of_le hk h.size) (fun e => hs (hr k e.symm hk))).trans (h.block k hk hs)⟩
theorem Keeps.below {S : Nat → Prop} {w w' : World} (h : Keeps S w w') {B : Nat} (hB : B ≤ w.heap.size) (hs : ∀ k, S k → B ≤ k) : Below B w w' :=
  ⟨h.os, h.tape, h.output, h.size, fun k hk => h.block k (by omega) (fun h' => by have := hs k h'; omega)⟩
theorem Keeps.of_below {S : Nat → Prop} {w w' : World} (h : Below w.heap.size w w') : Keeps S w w' :=
  ⟨h.os, h.tape, h.output, h.size, fun k hk _ => h.block k hk⟩
theorem Keeps.row {S : Nat → Prop} {w w' : World} (h : Keeps S w w') {base : Nat} {e : TypeId} {size : Nat} {g : Nat} {l c n : Nat} {xs : List Value}
    (hr : w.ownsRow base e size (.slice (some ⟨g, 0, none⟩) l c) n xs) (hs : ¬ S g) : w'.ownsRow base e size (.slice (some ⟨g, 0, none⟩) l c) n xs := by
  obtain ⟨h1, h2⟩ := hr
  refine ⟨h1, ?_⟩
  rcases h2 with ⟨h2, _⟩ | ⟨g', cap, cur, hv, hg, hh, r⟩
  · cases h2
  · simp only [Value.slice.injEq, Option.some.injEq, Addr.mk.injEq, and_true] at hv
    obtain ⟨rfl, rfl, rfl⟩ := hv
    exact .inr ⟨_, _, cur, rfl, hg, by rw [h.block _ (Array.getElem?_eq_some_iff.1 hh).1 hs]; exact hh, r⟩
theorem Keeps.heap {S : Nat → Prop} {w w' : World} (h : Keeps S w w') {b : Nat} {o : Obj} (hb : w.heap[b]? = some o) (hs : ¬ S b) : w'.heap[b]? = some o := by
  rw [h.block b (Array.getElem?_eq_some_iff.1 hb).1 hs]; exact hb

theorem Keeps.cell {S : Nat → Prop} {w w' : World} (h : Keeps S w w') {p : Addr} {v : Value} (hb : w.cell? p = some v) (hs : ¬ S p.block) : w'.cell? p = some v := by
  rw [World.cell?_of_block (h.block p.block (World.block_lt_of_cell? w p hb) hs)]; exact hb
theorem Keeps.frozen {S : Nat → Prop} {w w' : World} (h : Keeps S w w') {p : Addr} (hb : p.block < w.heap.size) (hs : ¬ S p.block) : w'.frozen? p = w.frozen? p :=
  World.frozen?_of_block (h.block p.block hb hs)

theorem lt_of_heap {w : World} {b : Nat} {o : Obj} (h : w.heap[b]? = some o) : b < w.heap.size := (Array.getElem?_eq_some_iff.1 h).1
theorem lt_of_row {w : World} {base : Nat} {e : TypeId} {size : Nat} {g l c n : Nat} {xs : List Value} (h : w.ownsRow base e size (.slice (some ⟨g, 0, none⟩) l c) n xs) : g < w.heap.size :=
  (h.lt g rfl).2

theorem Keeps.unalloc {S : Nat → Prop} {a c : World} {o : Obj} (h : Keeps S (a.alloc o) c) : Keeps S a c := ((Keeps.refl S a).alloc o).trans h
theorem Keeps.undrew {S : Nat → Prop} {a c : World} (h : Keeps S a.drew c) : Keeps S a c := (show Keeps S a a.drew from (Keeps.refl S a).drew).trans h
/-- A cell of a block that is known whole. -/
theorem cell_of_heap {w : World} {b : Nat} {cs : Array Value} {T : TypeId} {fz : Nat × Nat} (h : w.heap[b]? = some (.cells cs T fz)) (i : Nat) : w.cell? ⟨b, i, none⟩ = cs[i]? := by
  simp [World.cell?, h]
theorem frozen_of_heap {w : World} {b : Nat} {cs : Array Value} {T : TypeId} (h : w.heap[b]? = some (.cells cs T (0, 0))) (i : Nat) : w.frozen? ⟨b, i, none⟩ = false := by
  simp [World.frozen?, h]
theorem heap_setCell_at {w : World} {b : Nat} {cs : Array Value} {T : TypeId} {fz : Nat × Nat} (h : w.heap[b]? = some (.cells cs T fz)) (i : Nat) (v : Value) :
    (w.setCell ⟨b, i, none⟩ v).heap[b]? = some (.cells (cs.setIfInBounds i v) T fz) := by
  simp [World.setCell, Array.getElem?_modify, h]
theorem heap_setCell_ne {w : World} {b b' : Nat} (i : Nat) (v : Value) (h : b' ≠ b) : (w.setCell ⟨b, i, none⟩ v).heap[b']? = w.heap[b']? :=
  Below.heap_setCell _ _ _ _ h

/-- An argument that can be read as data. -/
def Reads (P : Program) (w : World) (t : TypeId) (v : Value) : Prop :=
  ∃ (H : Type) (enc : TypeId × Value → H) (b0 : Nat) (d : DataW H) (p : List MemPlace), DataW.Trod enc P w 0 (fun _ => true) true t v d p ∧ Value.okWide P w .any b0 t v

/-- A slice of whole numbers: its numbers (as many as it is long). -/
inductive IsRow (k : IntKind) (w : World) : Value → List Int → Prop where
  | empty : IsRow k w (.slice none 0 0) []
  | full {a : Addr} {len cap : Nat} {zs : List Int} (hl : len ≤ cap) (hm : cap ≤ maxLen) (hz : zs.length = len)
      (hc : ∀ i, i < len → w.cell? (a.add i) = some (.int k (zs.getD i 0))) (hw : ∀ n ∈ zs, (Lit.int k n).wf = true) : IsRow k w (.slice (some a) len cap) zs

theorem IsRow.of_ints {k : IntKind} {w : World} {a : Addr} {len cap : Nat} {zs : List Int} (hl : len ≤ cap) (hm : cap ≤ maxLen) (hz : zs.length = cap)
    (hc : ∀ i, i < zs.length → w.cell? (a.add i) = some (.int k (zs.getD i 0))) (hw : ∀ n ∈ zs, (Lit.int k n).wf = true) : IsRow k w (.slice (some a) len cap) (zs.take len) := by
  refine .full hl hm (by simp; omega) (fun i hi => ?_) (fun n hn => hw n (List.mem_of_mem_take hn))
  rw [hc i (by omega)]
  simp [List.getD, List.getElem?_take, hi]

/-- Where a slice of whole numbers lies, if it has any. -/
theorem IsRow.at {k : IntKind} {w : World} {a : Addr} {len cap : Nat} {zs : List Int} (h : IsRow k w (.slice (some a) len cap) zs) (h0 : 0 < len) :
    ∃ b o, a = ⟨b, o, none⟩ ∧ b < w.heap.size ∧ zs.length = len ∧ ∀ i, i < len → w.cell? ⟨b, o + i, none⟩ = some (.int k (zs.getD i 0)) := by
  cases h with
  | full hl hm hz hc hw =>
    obtain ⟨b, o, spot⟩ := a
    have h1 := hc 0 h0
    have hs : spot = none := by simpa [Addr.add] using World.cell?_spot h1
    subst hs
    refine ⟨b, o, rfl, by have := World.block_lt_of_cell? w _ h1; rwa [Addr.add_lit] at this, hz, fun i hi => ?_⟩
    have := hc i hi
    rwa [Addr.add_lit] at this
theorem IsRow.len {k : IntKind} {w : World} {a : Option Addr} {len cap : Nat} {zs : List Int} (h : IsRow k w (.slice a len cap) zs) : zs.length = len ∧ len ≤ maxLen := by
  cases h with
  | empty => simp
  | full hl hm hz hc hw => exact ⟨hz, by omega⟩
theorem IsRow.form {k : IntKind} {w : World} {v : Value} {zs : List Int} (h : IsRow k w v zs) : ∃ a len cap, v = .slice a len cap := by
  cases h with
  | empty => exact ⟨_, _, _, rfl⟩
  | full => exact ⟨_, _, _, rfl⟩
/-- The number i, as a cell. -/
theorem IsRow.cell {k : IntKind} {w : World} {a : Option Addr} {len cap : Nat} {zs : List Int} (h : IsRow k w (.slice a len cap) zs) {i : Nat} (hi : i < len) :
    ∃ b o, a = some ⟨b, o, none⟩ ∧ b < w.heap.size ∧ w.cell? ⟨b, o + i, none⟩ = some (.int k (zs.getD i 0)) := by
  cases a with
  | none => cases h; omega
  | some a =>
    obtain ⟨b, o, rfl, hb, -, hc⟩ := h.at (by omega)
    exact ⟨b, o, rfl, hb, hc i hi⟩

/-- int(uint(n) % k). -/
theorem umod_bd (n k : Int) (h : 0 < k) (hk : k ≤ 1000000) : 0 ≤ wrap64 ((IntKind.u64.wrap n).tmod k) ∧ wrap64 ((IntKind.u64.wrap n).tmod k) < k := by
  have h0 : 0 ≤ IntKind.u64.wrap n := wrap_u64_nonneg n
  rw [Int.tmod_eq_emod_of_nonneg h0]
  have h1 := Int.emod_nonneg (IntKind.u64.wrap n) (show k ≠ 0 by omega)
  have h2 := Int.emod_lt_of_pos (IntKind.u64.wrap n) h
  unfold wrap64
  omega

/-- An error of the kind n; 0: none. -/
def errV (n : Int) : Value := if n = 0 then .nilIface else .iface 34 (.int .i64 n)

end Go.Proofs.YtiimojpaeccajaaGreatDoor
