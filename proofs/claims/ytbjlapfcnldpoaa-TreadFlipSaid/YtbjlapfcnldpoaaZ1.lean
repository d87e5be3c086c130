/- Part 1 of 11 of this proof's own texts, joined in build order by a program. -/
import Derived.WalkKit
import Derived.WalkSpells
import Derived.Deep.QuietTactic
import Derived.BigQuiet
import Derived.ProofKit
import Derived.Test.YtbjlapfcnldpoaaProg
import Derived.Laws.Bits64b
import Derived.Laws.BitsAllLaws
/- What is used everywhere: worlds of which all but some blocks stay as they were; errors; a block's cells. No program in sight. -/
namespace Go.Proofs.Ytbjlapfcnldpoaa
set_option linter.unusedVariables false
set_option linter.unusedSimpArgs false
open Go.RowKit

/-- A fact kept from the walk. -/
structure Box (p : Prop) : Prop where
  out : p

/-- All blocks that were there stay as they were, but for those in S. -/
structure Keeps (S : Nat → Prop) (w w' : World) : Prop where
  os : w'.os = w.os
  tape : w'.tape = w.tape
  output : w'.output = w.output
  size : w.heap.size ≤ w'.heap.size
  block : ∀ k, k < w.heap.size → ¬ S k → w'.heap[k]? = w.heap[k]?

theorem Keeps.refl (S : Nat → Prop) (w : World) : Keeps S w w := ⟨rfl, rfl, rfl, Nat.le_refl _, fun _ _ _ => rfl⟩
theorem Keeps.trans {S : Nat → Prop} {a b c : World} (h : Keeps S a b) (k : Keeps S b c) : Keeps S a c :=
  ⟨k.os.trans h.os, k.tape.trans h.tape, k.output.trans h.output, Nat.le_trans h.size k.size,
    fun i hi hs => (k.block i (Nat.lt_of_lt_of_le hi h.size) hs).trans (h.block i hi hs)⟩
/-- What is written later than S's world may be new blocks as well. -/
theorem Keeps.trans' {S S' : Nat → Prop} {a b c : World} (h : Keeps S a b) (k : Keeps S' b c) (hs : ∀ i, i < a.heap.size → S' i → S i) : Keeps S a c :=
  ⟨k.os.trans h.os, k.tape.trans h.tape, k.output.trans h.output, Nat.le_trans h.size k.size,
    fun i hi hn => (k.block i (Nat.lt_of_lt_of_le hi h.size) (fun h' => hn (hs i hi h'))).trans (h.block i hi hn)⟩
theorem Keeps.mono {S S' : Nat → Prop} {a b : World} (h : Keeps S a b) (hs : ∀ i, i < a.heap.size → S i → S' i) : Keeps S' a b :=
  ⟨h.os, h.tape, h.output, h.size, fun i hi hn => h.block i hi (fun h' => hn (hs i hi h'))⟩
theorem Keeps.drew {S : Nat → Prop} {a b : World} (h : Keeps S a b) : Keeps S a b.drew := ⟨h.os, h.tape, h.output, h.size, h.block⟩
theorem Keeps.drewN {S : Nat → Prop} {a b : World} (h : Keeps S a b) (n : Nat) : Keeps S a (b.drewN n) := ⟨h.os, h.tape, h.output, h.size, h.block⟩
theorem Keeps.alloc {S : Nat → Prop} {a b : World} (h : Keeps S a b) (o : Obj) : Keeps S a (b.alloc o) :=
  h.trans ⟨rfl, rfl, rfl, by simp, fun k hk _ => Below.heap_alloc _ _ _ hk⟩
theorem Keeps.setCell {S : Nat → Prop} {a b : World} (h : Keeps S a b) {p : Addr} (hp : p.block < a.heap.size → S p.block) (u : Value) : Keeps S a (b.setCell p u) :=
  ⟨h.os, h.tape, h.output, by simpa using h.size, fun k hk hs => (Below.heap_setCell _ _ _ _ (fun e => by subst e; exact hs (hp hk))).trans (h.block k hk hs)⟩
theorem Keeps.grown {S : Nat → Prop} {a w w' : World} {row : Option Nat} (h : Keeps S a w) (hg : w.grownBy w' row) (hr : ∀ k, row = some k → k < a.heap.size → S k) : Keeps S a w' :=
  ⟨hg.os.trans h.os, hg.tape.trans h.tape, hg.output.trans h.output, Nat.le_trans h.size hg.size,
    fun k hk hs => (hg.block k (Nat.lt_of_lt_of_le hk h.size) (fun e => hs (hr k e.symm hk))).trans (h.block k hk hs)⟩
theorem Keeps.below {S : Nat → Prop} {w w' : World} (h : Keeps S w w') {B : Nat} (hB : B ≤ w.heap.size) (hs : ∀ k, S k → B ≤ k) : Below B w w' :=
  ⟨h.os, h.tape, h.output, h.size, fun k hk => h.block k (by omega) (fun h' => by have := hs k h'; omega)⟩
theorem Keeps.of_below {S : Nat → Prop} {w w' : World} (h : Below w.heap.size w w') : Keeps S w w' :=
  ⟨h.os, h.tape, h.output, h.size, fun k hk _ => h.block k hk⟩
theorem Keeps.row {S : Nat → Prop} {w w' : World} (h : Keeps S w w') {base : Nat} {e : TypeId} {size : Nat} {g : Nat} {l c n : Nat} {xs : List Value}
    (hr : w.ownsRow base e size (.slice (some ⟨g, 0, none⟩) l c) n xs) (hs : ¬ S g) : w'.ownsRow base e size (.slice (some ⟨g, 0, none⟩) l c) n xs := by
  obtain ⟨h1, h2⟩ := hr
  refine ⟨h1, ?_⟩
  rcases h2 with ⟨h2, _⟩ | ⟨g', cap, cur, hv, hg, hh, r⟩
  · cases h2
  · simp only [Value.slice.injEq, Option.some.injEq, Addr.mk.injEq, and_true] at hv
    obtain ⟨rfl, rfl, rfl⟩ := hv
    exact .inr ⟨_, _, cur, rfl, hg, by rw [h.block _ (Array.getElem?_eq_some_iff.1 hh).1 hs]; exact hh, r⟩
theorem Keeps.heap {S : Nat → Prop} {w w' : World} (h : Keeps S w w') {b : Nat} {o : Obj} (hb : w.heap[b]? = some o) (hs : ¬ S b) : w'.heap[b]? = some o := by
  rw [h.block b (Array.getElem?_eq_some_iff.1 hb).1 hs]; exact hb

theorem Keeps.cell {S : Nat → Prop} {w w' : World} (h : Keeps S w w') {p : Addr} {v : Value} (hb : w.cell? p = some v) (hs : ¬ S p.block) : w'.cell? p = some v := by
  rw [World.cell?_of_block (h.block p.block (World.block_lt_of_cell? w p hb) hs)]; exact hb
theorem Keeps.frozen {S : Nat → Prop} {w w' : World} (h : Keeps S w w') {p : Addr} (hb : p.block < w.heap.size) (hs : ¬ S p.block) : w'.frozen? p = w.frozen? p :=
  World.frozen?_of_block (h.block p.block hb hs)

theorem lt_of_heap {w : World} {b : Nat} {o : Obj} (h : w.heap[b]? = some o) : b < w.heap.size := (Array.getElem?_eq_some_iff.1 h).1
theorem lt_of_row {w : World} {base : Nat} {e : TypeId} {size : Nat} {g l c n : Nat} {xs : List Value} (h : w.ownsRow base e size (.slice (some ⟨g, 0, none⟩) l c) n xs) : g < w.heap.size :=
  (h.lt g rfl).2

theorem Keeps.unalloc {S : Nat → Prop} {a c : World} {o : Obj} (h : Keeps S (a.alloc o) c) : Keeps S a c := ((Keeps.refl S a).alloc o).trans h
theorem Keeps.undrew {S : Nat → Prop} {a c : World} (h : Keeps S a.drew c) : Keeps S a c := (show Keeps S a a.drew from (Keeps.refl S a).drew).trans h
/-- A cell of a block that is known whole. -/
theorem cell_of_heap {w : World} {b : Nat} {cs : Array Value} {T : TypeId} {fz : Nat × Nat} (h : w.heap[b]? = some (.cells cs T fz)) (i : Nat) : w.cell? ⟨b, i, none⟩ = cs[i]? := by
  simp [World.cell?, h]
theorem frozen_of_heap {w : World} {b : Nat} {cs : Array Value} {T : TypeId} (h : w.heap[b]? = some (.cells cs T (0, 0))) (i : Nat) : w.frozen? ⟨b, i, none⟩ = false := by
  simp [World.frozen?, h]
theorem heap_setCell_at {w : World} {b : Nat} {cs : Array Value} {T : TypeId} {fz : Nat × Nat} (h : w.heap[b]? = some (.cells cs T fz)) (i : Nat) (v : Value) :
    (w.setCell ⟨b, i, none⟩ v).heap[b]? = some (.cells (cs.setIfInBounds i v) T fz) := by
  simp [World.setCell, Array.getElem?_modify, h]
theorem heap_setCell_ne {w : World} {b b' : Nat} (i : Nat) (v : Value) (h : b' ≠ b) : (w.setCell ⟨b, i, none⟩ v).heap[b']? = w.heap[b']? :=
  Below.heap_setCell _ _ _ _ h

/-- An argument that can be read as data. -/
def Reads (P : Program) (w : World) (t : TypeId) (v : Value) : Prop :=
  ∃ (H : Type) (enc : TypeId × Value → H) (b0 : Nat) (d : DataW H) (p : List MemPlace), DataW.Trod enc P w 0 (fun _ => true) true t v d p ∧ Value.okWide P w .any b0 t v

/-- A slice of whole numbers: its numbers (as many as it is long). -/
inductive IsRow (k : IntKind) (w : World) : Value → List Int → Prop where
  | empty : IsRow k w (.slice none 0 0) []
  | full {a : Addr} {len cap : Nat} {zs : List Int} (hl : len ≤ cap) (hm : cap ≤ maxLen) (hz : zs.length = len)
      (hc : ∀ i, i < len → w.cell? (a.add i) = some (.int k (zs.getD i 0))) (hw : ∀ n ∈ zs, (Lit.int k n).wf = true) : IsRow k w (.slice (some a) len cap) zs

theorem IsRow.of_ints {k : IntKind} {w : World} {a : Addr} {len cap : Nat} {zs : List Int} (hl : len ≤ cap) (hm : cap ≤ maxLen) (hz : zs.length = cap)
    (hc : ∀ i, i < zs.length → w.cell? (a.add i) = some (.int k (zs.getD i 0))) (hw : ∀ n ∈ zs, (Lit.int k n).wf = true) : IsRow k w (.slice (some a) len cap) (zs.take len) := by
  refine .full hl hm (by simp; omega) (fun i hi => ?_) (fun n hn => hw n (List.mem_of_mem_take hn))
  rw [hc i (by omega)]
  simp [List.getD, List.getElem?_take, hi]

/-- Where a slice of whole numbers lies, if it has any. -/
theorem IsRow.at {k : IntKind} {w : World} {a : Addr} {len cap : Nat} {zs : List Int} (h : IsRow k w (.slice (some a) len cap) zs) (h0 : 0 < len) :
    ∃ b o, a = ⟨b, o, none⟩ ∧ b < w.heap.size ∧ zs.length = len ∧ ∀ i, i < len → w.cell? ⟨b, o + i, none⟩ = some (.int k (zs.getD i 0)) := by
  cases h with
  | full hl hm hz hc hw =>
    obtain ⟨b, o, spot⟩ := a
    have h1 := hc 0 h0
    have hs : spot = none := by simpa [Addr.add] using World.cell?_spot h1
    subst hs
    refine ⟨b, o, rfl, by have := World.block_lt_of_cell? w _ h1; rwa [Addr.add_lit] at this, hz, fun i hi => ?_⟩
    have := hc i hi
    rwa [Addr.add_lit] at this
theorem IsRow.len {k : IntKind} {w : World} {a : Option Addr} {len cap : Nat} {zs : List Int} (h : IsRow k w (.slice a len cap) zs) : zs.length = len ∧ len ≤ maxLen := by
  cases h with
  | empty => simp
  | full hl hm hz hc hw => exact ⟨hz, by omega⟩
theorem IsRow.form {k : IntKind} {w : World} {v : Value} {zs : List Int} (h : IsRow k w v zs) : ∃ a len cap, v = .slice a len cap := by
  cases h with
  | empty => exact ⟨_, _, _, rfl⟩
  | full => exact ⟨_, _, _, rfl⟩
/-- The number i, as a cell. -/
theorem IsRow.cell {k : IntKind} {w : World} {a : Option Addr} {len cap : Nat} {zs : List Int} (h : IsRow k w (.slice a len cap) zs) {i : Nat} (hi : i < len) :
    ∃ b o, a = some ⟨b, o, none⟩ ∧ b < w.heap.size ∧ w.cell? ⟨b, o + i, none⟩ = some (.int k (zs.getD i 0)) := by
  cases a with
  | none => cases h; omega
  | some a =>
    obtain ⟨b, o, rfl, hb, -, hc⟩ := h.at (by omega)
    exact ⟨b, o, rfl, hb, hc i hi⟩

/-- int(uint(n) % k). -/
theorem umod_bd (n k : Int) (h : 0 < k) (hk : k ≤ 1000000) : 0 ≤ wrap64 ((IntKind.u64.wrap n).tmod k) ∧ wrap64 ((IntKind.u64.wrap n).tmod k) < k := by
  have h0 : 0 ≤ IntKind.u64.wrap n := wrap_u64_nonneg n
  rw [Int.tmod_eq_emod_of_nonneg h0]
  have h1 := Int.emod_nonneg (IntKind.u64.wrap n) (show k ≠ 0 by omega)
  have h2 := Int.emod_lt_of_pos (IntKind.u64.wrap n) h
  unfold wrap64
  omega

/-- An error of the kind n; 0: none. -/
def errV (n : Int) : Value := if n = 0 then .nilIface else .iface 97 (.int .i64 n)

end Go.Proofs.Ytbjlapfcnldpoaa

/- The store's functions by contracts. -/
namespace Go.Proofs.Ytbjlapfcnldpoaa
set_option linter.unusedVariables false
set_option linter.unusedSimpArgs false
open Go.RowKit

/-- A store: its block, its words' block and capacity, its words, its count. -/
structure SSt where
  b : Nat
  g : Nat
  c : Nat
  ws : List Int
  k : Int

/-- It lies in memory. -/
structure IsStore (w : World) (s : SSt) : Prop where
  head : w.heap[s.b]? = some (.cells #[.slice (some ⟨s.g, 0, none⟩) s.ws.length s.c, .int .i64 s.k] 127 (0, 0))
  row : w.ownsRow 0 30 1 (.slice (some ⟨s.g, 0, none⟩) s.ws.length s.c) s.ws.length (s.ws.map (Value.int .u64))
  ne : s.b ≠ s.g
  len : s.ws.length ≤ 1048576

/-- its blocks -/
def SSt.foot (s : SSt) : Nat → Prop := fun k => k = s.b ∨ k = s.g
def SSt.has (s : SSt) (i : Int) : Prop := 0 ≤ i ∧ i < s.ws.length
instance (s : SSt) (i : Int) : Decidable (s.has i) := inferInstanceAs (Decidable (_ ∧ _))
def SSt.at_ (s : SSt) (i : Int) : Int := s.ws.getD i.toNat 0
def SSt.touched (s : SSt) : SSt := { s with k := wrap64 (s.k + 1) }
def SSt.put (s : SSt) (i : Int) (v : Int) : SSt := { s with ws := s.ws.set i.toNat v, k := wrap64 (s.k + 1) }

theorem IsStore.keeps {w w' : World} {s : SSt} (h : IsStore w s) {S : Nat → Prop} (hk : Keeps S w w') (h1 : ¬ S s.b) (h2 : ¬ S s.g) : IsStore w' s :=
  ⟨hk.heap h.head h1, hk.row h.row h2, h.ne, h.len⟩
theorem IsStore.lt {w : World} {s : SSt} (h : IsStore w s) : s.b < w.heap.size ∧ s.g < w.heap.size := ⟨lt_of_heap h.head, lt_of_row h.row⟩

theorem touch_nil (i : Int) (w : World) :
    Calls Try.prog 99 #[.pointer none, .int .i64 i] w fun e w' => e = .returned (.iface 97 (.int .i64 1)) ∧ w' = w := by
  go_enter Try.func99, Try.ntmps99
  go_wp2
  go_ret
  exact ⟨rfl, rfl⟩

theorem touch_no (i : Int) (w : World) (s : SSt) (hs : IsStore w s) (h : ¬ s.has i) :
    Calls Try.prog 99 #[.pointer (some ⟨s.b, 0, none⟩), .int .i64 i] w fun e w' => e = .returned (.iface 97 (.int .i64 3)) ∧ w' = w := by
  have h0 := (cell_of_heap hs.head 0)
  simp only [List.getElem?_toArray, List.getElem?_cons_zero] at h0
  unfold SSt.has at h
  obtain ⟨b, g, c, ws, k⟩ := s
  have hn := hs.len
  clear hs
  generalize ws.length = n at *
  dsimp only at *
  by_cases hi : i < 0
  · clear h
    go_enter Try.func99, Try.ntmps99
    go_wp2
    go_ret
    exact ⟨rfl, rfl⟩
  · have hi2 : (n : Int) ≤ i := by omega
    clear h
    go_enter Try.func99, Try.ntmps99
    go_wp2
    all_goals
      go_ret
      exact ⟨rfl, rfl⟩

theorem touch_yes (i : Int) (w : World) (s : SSt) (hs : IsStore w s) (h : s.has i) :
    Calls Try.prog 99 #[.pointer (some ⟨s.b, 0, none⟩), .int .i64 i] w fun e w' => e = .returned .nilIface ∧ w' = w.setCell ⟨s.b, 1, none⟩ (.int .i64 (wrap64 (s.k + 1))) := by
  have h0 := (cell_of_heap hs.head 0)
  have h1 := (cell_of_heap hs.head 1)
  have f1 := (frozen_of_heap hs.head 1)
  simp only [List.getElem?_toArray, List.getElem?_cons_zero, List.getElem?_cons_succ] at h0 h1
  unfold SSt.has at h
  obtain ⟨b, g, c, ws, k⟩ := s
  have hn := hs.len
  clear hs
  generalize ws.length = n at *
  dsimp only at *
  obtain ⟨hi0, hi1⟩ := h
  go_enter Try.func99, Try.ntmps99
  go_wp2
  go_ret
  exact ⟨rfl, rfl⟩

theorem touched_is {w : World} {s : SSt} (hs : IsStore w s) : IsStore (w.setCell ⟨s.b, 1, none⟩ (.int .i64 (wrap64 (s.k + 1)))) s.touched := by
  refine ⟨?_, ?_, hs.ne, hs.len⟩
  · show (w.setCell ⟨s.b, 1, none⟩ _).heap[s.b]? = _
    rw [heap_setCell_at hs.head]; rfl
  · exact Keeps.row ((Keeps.refl (fun k => k = s.b) w).setCell (p := ⟨s.b, 1, none⟩) (fun _ => rfl) _) hs.row (fun e => hs.ne e.symm)

theorem put_is {w : World} {s : SSt} (hs : IsStore w s) {i : Int} (h : s.has i) (v : Int) :
    IsStore ((w.setCell ⟨s.b, 1, none⟩ (.int .i64 (wrap64 (s.k + 1)))).setCell ⟨s.g, i.toNat, none⟩ (.int .u64 v)) (s.put i v) := by
  have ht := touched_is hs
  refine ⟨?_, ?_, hs.ne, by simpa [SSt.put] using hs.len⟩
  · show ((w.setCell ⟨s.b, 1, none⟩ _).setCell _ _).heap[s.b]? = _
    rw [heap_setCell_ne _ _ hs.ne]
    have := ht.head
    simpa [SSt.put, SSt.touched] using this
  · have := (ht.row.stored i.toNat (.int .u64 v)).1
    simpa [SSt.put, SSt.touched, List.map_set] using this

theorem get_nil (i : Int) (w : World) :
    Calls Try.prog 79 #[.pointer none, .int .i64 i] w fun e w' => e = .returned (.tuple #[.int .u64 0, .iface 97 (.int .i64 1)]) ∧ w' = w := by
  go_enter Try.func79, Try.ntmps79
  go_wp2_with (go_at_call 99; refine (touch_nil _ _).mono ?_; rintro e w' ⟨rfl, rfl⟩)
  go_ret2
  exact ⟨rfl, rfl⟩

theorem get_no (i : Int) (w : World) (s : SSt) (hs : IsStore w s) (h : ¬ s.has i) :
    Calls Try.prog 79 #[.pointer (some ⟨s.b, 0, none⟩), .int .i64 i] w fun e w' => e = .returned (.tuple #[.int .u64 0, .iface 97 (.int .i64 3)]) ∧ w' = w := by
  go_enter Try.func79, Try.ntmps79
  go_wp2_with (go_at_call 99; refine (touch_no _ _ s hs h).mono ?_; rintro e w' ⟨rfl, rfl⟩)
  go_ret2
  exact ⟨rfl, rfl⟩

/-- What the word i is, as a cell. -/
theorem IsStore.word {w : World} {s : SSt} (hs : IsStore w s) {i : Int} (h : s.has i) : w.cell? ⟨s.g, i.toNat, none⟩ = some (.int .u64 (s.at_ i)) := by
  obtain ⟨h0, h1⟩ := h
  have := hs.row.cellAt i.toNat (by omega)
  rw [this]
  simp [SSt.at_, List.getD, show i.toNat < s.ws.length by omega]

theorem get_yes (i : Int) (w : World) (s : SSt) (hs : IsStore w s) (h : s.has i) :
    Calls Try.prog 79 #[.pointer (some ⟨s.b, 0, none⟩), .int .i64 i] w fun e w' => e = .returned (.tuple #[.int .u64 (s.at_ i), .nilIface]) ∧ w' = w.setCell ⟨s.b, 1, none⟩ (.int .i64 (wrap64 (s.k + 1))) := by
  go_enter Try.func79, Try.ntmps79
  go_wp2_with fail
  refine (touch_yes _ _ s hs h).mono ?_
  rintro e w' ⟨rfl, hw⟩
  have ht := touched_is hs
  rw [← hw] at ht
  have h0 := (cell_of_heap ht.head 0)
  simp only [List.getElem?_toArray, List.getElem?_cons_zero] at h0
  have h1 := ht.word (i := i) h
  obtain ⟨n, rfl⟩ := Int.eq_ofNat_of_zero_le h.1
  have hl := h.2
  simp only [Int.toNat_natCast] at h1
  have hW := Box.mk hw
  clear hw hs h ht
  obtain ⟨b, g, c, ws, k⟩ := s
  simp only [SSt.touched, SSt.at_, Int.toNat_natCast] at *
  generalize ws.length = m at *
  go_wp2
  go_ret2
  exact ⟨rfl, hW.out⟩

theorem set_nil (i v : Int) (w : World) :
    Calls Try.prog 73 #[.pointer none, .int .i64 i, .int .u64 v] w fun e w' => e = .returned (.iface 97 (.int .i64 1)) ∧ w' = w := by
  go_enter Try.func73, Try.ntmps73
  go_wp2_with (go_at_call 99; refine (touch_nil _ _).mono ?_; rintro e w' ⟨rfl, rfl⟩)
  go_ret
  exact ⟨rfl, rfl⟩

theorem set_no (i v : Int) (w : World) (s : SSt) (hs : IsStore w s) (h : ¬ s.has i) :
    Calls Try.prog 73 #[.pointer (some ⟨s.b, 0, none⟩), .int .i64 i, .int .u64 v] w fun e w' => e = .returned (.iface 97 (.int .i64 3)) ∧ w' = w := by
  go_enter Try.func73, Try.ntmps73
  go_wp2_with (go_at_call 99; refine (touch_no _ _ s hs h).mono ?_; rintro e w' ⟨rfl, rfl⟩)
  go_ret
  exact ⟨rfl, rfl⟩

theorem set_yes (i v : Int) (w : World) (s : SSt) (hs : IsStore w s) (h : s.has i) :
    Calls Try.prog 73 #[.pointer (some ⟨s.b, 0, none⟩), .int .i64 i, .int .u64 v] w fun e w' => e = .returned .nilIface ∧
      w' = (w.setCell ⟨s.b, 1, none⟩ (.int .i64 (wrap64 (s.k + 1)))).setCell ⟨s.g, i.toNat, none⟩ (.int .u64 v) := by
  go_enter Try.func73, Try.ntmps73
  go_wp2_with fail
  refine (touch_yes _ _ s hs h).mono ?_
  rintro e w' ⟨rfl, hw⟩
  have ht := touched_is hs
  rw [← hw] at ht
  have hW := Box.mk hw
  have h0 := (cell_of_heap ht.head 0)
  simp only [List.getElem?_toArray, List.getElem?_cons_zero] at h0
  have h1 := ht.word (i := i) h
  have f1 := ht.row.frozenAt i.toNat
  obtain ⟨n, rfl⟩ := Int.eq_ofNat_of_zero_le h.1
  have hl := h.2
  simp only [Int.toNat_natCast] at h1 f1
  clear hw hs h ht
  obtain ⟨b, g, c, ws, k⟩ := s
  simp only [SSt.touched, SSt.at_, Int.toNat_natCast] at *
  generalize ws.length = m at *
  go_wp2
  go_ret
  exact ⟨rfl, by rw [hW.out]⟩

end Go.Proofs.Ytbjlapfcnldpoaa

/- The store's reads and writes, as what becomes of the store. -/
namespace Go.Proofs.Ytbjlapfcnldpoaa
set_option linter.unusedVariables false
set_option linter.unusedSimpArgs false
open Go.RowKit

theorem get_at {i x : Int} {w : World} {s t : SSt} (hs : IsStore w s) (h : s.has i) (hx : s.at_ i = x) (ht : s.touched = t) :
    Calls Try.prog 79 #[.pointer (some ⟨s.b, 0, none⟩), .int .i64 i] w fun e w' => e = .returned (.tuple #[.int .u64 x, .nilIface]) ∧ IsStore w' t ∧ Keeps s.foot w w' := by
  subst hx ht
  refine (get_yes i w s hs h).mono ?_
  rintro e w' ⟨rfl, rfl⟩
  exact ⟨rfl, touched_is hs, (Keeps.refl _ w).setCell (fun _ => .inl rfl) _⟩

theorem set_at {i v : Int} {w : World} {s t : SSt} (hs : IsStore w s) (h : s.has i) (ht : s.put i v = t) :
    Calls Try.prog 73 #[.pointer (some ⟨s.b, 0, none⟩), .int .i64 i, .int .u64 v] w fun e w' => e = .returned .nilIface ∧ IsStore w' t ∧ Keeps s.foot w w' := by
  subst ht
  refine (set_yes i v w s hs h).mono ?_
  rintro e w' ⟨rfl, rfl⟩
  exact ⟨rfl, put_is hs h v, ((Keeps.refl _ w).setCell (fun _ => .inl rfl) _).setCell (fun _ => .inr rfl) _⟩

end Go.Proofs.Ytbjlapfcnldpoaa

/- The ring's functions by contracts: links are words of the store. -/
namespace Go.Proofs.Ytbjlapfcnldpoaa
set_option linter.unusedVariables false
set_option linter.unusedSimpArgs false
open Go.RowKit

/-- A store with these words; how many were touched is not said. -/
def IsW (w : World) (b g : Nat) (W : List Nat) : Prop := ∃ c k, IsStore w ⟨b, g, c, W.map (fun x : Nat => (x : Int)), k⟩
def foot (b g : Nat) : Nat → Prop := fun k => k = b ∨ k = g
/-- The word at p. -/
def wat (W : List Nat) (p : Nat) : Nat := W.getD p 0

theorem IsW.keeps {w w' : World} {b g : Nat} {W : List Nat} (h : IsW w b g W) {S : Nat → Prop} (hk : Keeps S w w') (h1 : ¬ S b) (h2 : ¬ S g) : IsW w' b g W := by
  obtain ⟨c, k, h⟩ := h
  exact ⟨c, k, h.keeps hk h1 h2⟩
theorem IsW.keeps0 {w w' : World} {b g : Nat} {W : List Nat} (h : IsW w b g W) (hk : Keeps (fun _ => False) w w') : IsW w' b g W := h.keeps hk (fun h => h) (fun h => h)
theorem IsW.lt {w : World} {b g : Nat} {W : List Nat} (h : IsW w b g W) : b < w.heap.size ∧ g < w.heap.size := by
  obtain ⟨c, k, h⟩ := h
  exact h.lt
theorem IsW.len {w : World} {b g : Nat} {W : List Nat} (h : IsW w b g W) : W.length ≤ 1048576 := by
  obtain ⟨c, k, h⟩ := h
  simpa using h.len

theorem wget_is {w : World} {b g : Nat} {W : List Nat} {p : Nat} (h : IsW w b g W) (hp : p < W.length) :
    Calls Try.prog 79 #[.pointer (some ⟨b, 0, none⟩), .int .i64 p] w fun e w' => e = .returned (.tuple #[.int .u64 (wat W p), .nilIface]) ∧ IsW w' b g W ∧ Keeps (foot b g) w w' := by
  obtain ⟨c, k, h⟩ := h
  refine (get_at (s := ⟨b, g, c, W.map (fun x : Nat => (x : Int)), k⟩) (i := p) (x := wat W p) (t := ⟨b, g, c, W.map (fun x : Nat => (x : Int)), wrap64 (k + 1)⟩) h ?_ ?_ rfl).mono ?_
  · simp [SSt.has]; omega
  · simp [SSt.at_, wat, List.getD, hp]
  · rintro e w' ⟨rfl, h2, h3⟩
    exact ⟨rfl, ⟨_, _, h2⟩, h3⟩
theorem wset_is {w : World} {b g : Nat} {W : List Nat} {p : Nat} (x : Nat) (h : IsW w b g W) (hp : p < W.length) :
    Calls Try.prog 73 #[.pointer (some ⟨b, 0, none⟩), .int .i64 p, .int .u64 x] w fun e w' => e = .returned .nilIface ∧ IsW w' b g (W.set p x) ∧ Keeps (foot b g) w w' := by
  obtain ⟨c, k, h⟩ := h
  refine (set_at (s := ⟨b, g, c, W.map (fun x : Nat => (x : Int)), k⟩) (i := p) (v := x) (t := ⟨b, g, c, (W.map (fun x : Nat => (x : Int))).set p x, wrap64 (k + 1)⟩) h ?_ ?_).mono ?_
  · simp [SSt.has]; omega
  · simp [SSt.put]
  · rintro e w' ⟨rfl, h2, h3⟩
    refine ⟨rfl, ⟨c, wrap64 (k + 1), ?_⟩, h3⟩
    rw [List.map_set]
    exact h2

set_option maxRecDepth 100000 in
theorem look_is {w : World} {b g : Nat} {W : List Nat} {p q : Nat} (h : IsW w b g W) (hp : p + q < W.length) (hx : wat W (p + q) ≤ 1048576) :
    Calls Try.prog 97 #[.pointer (some ⟨b, 0, none⟩), .int .i64 p, .int .i64 q] w fun e w' => e = .returned (.tuple #[.int .i64 (wat W (p + q)), .nilIface]) ∧ IsW w' b g W ∧ Keeps (foot b g) w w' := by
  have hl := h.len
  have H := Box.mk h
  clear h
  obtain ⟨r, hr⟩ : ∃ r, p + q = r := ⟨_, rfl⟩
  have hr2 : (p : Int) + (q : Int) = (r : Int) := by omega
  rw [hr] at hx hp ⊢
  clear hr
  obtain ⟨x, hxw⟩ : ∃ x, wat W r = x := ⟨_, rfl⟩
  rw [hxw] at hx ⊢
  go_enter Try.func97, Try.ntmps97
  go_wp2_with fail
  refine (wget_is H.out hp).mono ?_
  rw [hxw]
  rintro e w1 ⟨rfl, h1, k1⟩
  have H1 := Box.mk h1
  have K1 := Box.mk k1
  clear h1 k1 hxw
  go_wp2_with fail
  exact bodyPost_ret (v := .tuple #[.int .i64 x, .nilIface]) (by simp [results, Try.results97, go_sem]) rfl ⟨rfl, H1.out, K1.out⟩

theorem IsRow.one (w : World) (x : Nat) (hx : x ≤ 1048576) : IsRow .i64 (w.alloc (.cells #[.int .i64 x] 3)) (.slice (some ⟨w.heap.size, 0, none⟩) 1 1) [(x : Int)] := by
  refine .full (Nat.le_refl _) (by decide) rfl (fun i hi => ?_) (fun n hn => ?_)
  · obtain rfl : i = 0 := by omega
    simp [Addr.add]
  · simp at hn
    subst hn
    simp [Lit.wf, IntKind.min, IntKind.max, IntKind.bits, IntKind.signed]
    omega
theorem IsRow.two (w : World) (x y : Nat) (hx : x ≤ 1048576) (hy : y ≤ 1048576) : IsRow .i64 (w.alloc (.cells #[.int .i64 x, .int .i64 y] 3)) (.slice (some ⟨w.heap.size, 0, none⟩) 2 2) [(x : Int), (y : Int)] := by
  refine .full (Nat.le_refl _) (by decide) rfl (fun i hi => ?_) (fun n hn => ?_)
  · match i, hi with
    | 0, _ => simp [Addr.add]
    | 1, _ => simp [Addr.add]
  · simp at hn
    rcases hn with rfl | rfl
    · simp [Lit.wf, IntKind.min, IntKind.max, IntKind.bits, IntKind.signed]; omega
    · simp [Lit.wf, IntKind.min, IntKind.max, IntKind.bits, IntKind.signed]; omega

set_option maxRecDepth 100000 in
theorem rmay_is {w : World} {p : Addr} {v : Value} {zs : List Int} (hv : IsRow .i64 w v zs) (hz : ∀ z ∈ zs, 0 ≤ z ∧ z ≤ 1048576) :
    Calls Try.prog 96 #[.pointer (some p), v] w fun e w' => e = .returned .nilIface ∧ w' = w := by
  obtain ⟨a, n, c, rfl⟩ := hv.form
  have hl := hv.len
  have HV := Box.mk hv
  have HZ := Box.mk hz
  clear hv hz
  obtain ⟨hl1, hl2⟩ := hl
  have Hl := Box.mk hl1
  clear hl1
  simp only [maxLen] at hl2
  go_enter Try.func96, Try.ntmps96
  go_wp2_with fail
  go_loopw [12] (fun i wr => ∃ k : Nat, k ≤ n ∧ i = .int .i64 k ∧ wr = w) (fun i _ => n - (intOf i).toNat)
  case atStart => exact ⟨0, Nat.zero_le _, rfl, rfl⟩
  case round =>
    obtain ⟨k, hk, rfl, rfl⟩ := hrel
    by_cases hkn : k < n
    · obtain ⟨cb, co, rfl, hcb, hcc⟩ := HV.out.cell hkn
      have hm := HZ.out (zs.getD k 0) (by simp [List.getD, Hl.out, hkn])
      obtain ⟨hm1, hm2⟩ := hm
      have hk0 : (0 : Int) ≤ (k : Int) := by omega
      have hk1 : (k : Int) < (n : Int) := by omega
      have hm3 : ¬ zs.getD k 0 < 0 := by omega
      have hm4 : ¬ 1048576 < zs.getD k 0 := by omega
      generalize zs.getD k 0 = z at *
      go_wp2_with fail
      go_roundw
      case rel => exact ⟨k + 1, by omega, by go_num, trivial⟩
      case measure => simp [intOf]; omega
    · go_wp2_with fail
      go_ret
      first | exact ⟨rfl, rfl⟩ | exact rfl | exact ⟨rfl, trivial⟩

end Go.Proofs.Ytbjlapfcnldpoaa

/- The ring's functions by contracts: setting links; Init, Behind, Ahead, Alone, Insert, Remove, Join where all links are places. -/
namespace Go.Proofs.Ytbjlapfcnldpoaa
set_option linter.unusedVariables false
set_option linter.unusedSimpArgs false
open Go.RowKit

abbrev Tie := Nat × Nat × Nat
def tcells (l : List Tie) : List Value := l.flatMap (fun t => [.int .i64 (t.1 : Int), .int .i64 (t.2.1 : Int), .int .i64 (t.2.2 : Int)])
def setAll (W : List Nat) (l : List Tie) : List Nat := l.foldl (fun W t => W.set (t.1 + t.2.1) t.2.2) W

/-- The ties l, in block h. -/
structure IsTies (w : World) (h : Nat) (l : List Tie) : Prop where
  lt : h < w.heap.size
  cells : ∀ i, i < l.length → w.cell? ⟨h, i * 3, none⟩ = some (.int .i64 ((l.getD i (0, 0, 0)).1 : Int)) ∧ w.cell? ⟨h, i * 3 + 1, none⟩ = some (.int .i64 ((l.getD i (0, 0, 0)).2.1 : Int)) ∧ w.cell? ⟨h, i * 3 + 2, none⟩ = some (.int .i64 ((l.getD i (0, 0, 0)).2.2 : Int))

theorem IsTies.keeps {w w' : World} {h : Nat} {l : List Tie} (hi : IsTies w h l) {S : Nat → Prop} (hk : Keeps S w w') (h1 : ¬ S h) : IsTies w' h l :=
  ⟨by have := hk.size; have := hi.lt; omega, fun i hl => ⟨hk.cell (hi.cells i hl).1 h1, hk.cell (hi.cells i hl).2.1 h1, hk.cell (hi.cells i hl).2.2 h1⟩⟩
theorem tcells_at (l : List Tie) (i : Nat) (h : i < l.length) : (tcells l)[i * 3]? = some (.int .i64 ((l.getD i (0, 0, 0)).1 : Int)) ∧ (tcells l)[i * 3 + 1]? = some (.int .i64 ((l.getD i (0, 0, 0)).2.1 : Int)) ∧ (tcells l)[i * 3 + 2]? = some (.int .i64 ((l.getD i (0, 0, 0)).2.2 : Int)) := by
  induction l generalizing i with
  | nil => simp at h
  | cons p l ih =>
    cases i with
    | zero => simp [tcells]
    | succ i =>
      have := ih i (by simpa using h)
      simp only [tcells, List.flatMap_cons, List.cons_append, List.nil_append] at this ⊢
      rw [show (i + 1) * 3 = i * 3 + 1 + 1 + 1 by omega, show i * 3 + 1 + 1 + 1 + 1 = (i * 3 + 1) + 1 + 1 + 1 by omega, show i * 3 + 1 + 1 + 1 + 2 = (i * 3 + 2) + 1 + 1 + 1 by omega]
      simpa using this
theorem IsTies.lit (w : World) (l : List Tie) : IsTies (w.alloc (.cells (tcells l).toArray 138)) w.heap.size l := by
  refine ⟨by simp, fun i hi => ?_⟩
  obtain ⟨h0, h1, h2⟩ := tcells_at l i hi
  have hh := heap_alloc_new w (.cells (tcells l).toArray 138)
  rw [cell_of_heap hh, cell_of_heap hh, cell_of_heap hh]
  exact ⟨by simpa using h0, by simpa using h1, by simpa using h2⟩
theorem setAll_length (W : List Nat) (l : List Tie) : (setAll W l).length = W.length := by
  unfold setAll
  induction l generalizing W with
  | nil => rfl
  | cons t l ih => rw [List.foldl_cons, ih]; simp
theorem setAll_snoc (W : List Nat) (l : List Tie) (t : Tie) : setAll W (l ++ [t]) = (setAll W l).set (t.1 + t.2.1) t.2.2 := by simp [setAll]
theorem take_snocT {l : List Tie} {k : Nat} (h : k < l.length) : l.take (k + 1) = l.take k ++ [l.getD k (0, 0, 0)] := by
  rw [List.take_add_one, List.getElem?_eq_getElem h]
  simp [List.getD, h]

set_option maxRecDepth 100000 in
set_option maxHeartbeats 1000000 in
theorem rset_all {w : World} {b g h : Nat} {W : List Nat} {l : List Tie} (hw : IsW w b g W) (hl : IsTies w h l) (hb : h ≠ b) (hg : h ≠ g) (hn : l.length ≤ 100)
    (hr : ∀ t ∈ l, t.1 + t.2.1 < W.length ∧ t.2.2 ≤ 1048576) :
    Calls Try.prog 98 #[.pointer (some ⟨b, 0, none⟩), .slice (some ⟨h, 0, none⟩) l.length l.length] w fun e w' => e = .returned .nilIface ∧ IsW w' b g (setAll W l) ∧ Keeps (foot b g) w w' := by
  have hWl := hw.len
  have HW := Box.mk hw
  have HL := Box.mk hl
  have HR := Box.mk hr
  have Hb := Box.mk (And.intro hb hg)
  clear hw hl hr hb hg
  obtain ⟨n, hn2⟩ : ∃ n, l.length = n := ⟨_, rfl⟩
  have Hn := Box.mk hn2
  rw [hn2] at hn ⊢
  clear hn2
  go_enter Try.func98, Try.ntmps98
  go_wp2_with fail
  go_loopw [10] (fun i wr => ∃ k : Nat, k ≤ n ∧ i = .int .i64 k ∧ Box (IsW wr b g (setAll W (l.take k))) ∧ Box (Keeps (foot b g) w wr)) (fun i _ => n - (intOf i).toNat)
  case atStart => exact ⟨0, Nat.zero_le _, rfl, HW, ⟨Keeps.refl _ _⟩⟩
  case round =>
    obtain ⟨k, hk, rfl, HWk, K⟩ := hrel
    by_cases hkn : k < n
    · have hkl : k < l.length := by rw [Hn.out]; exact hkn
      have hT := HL.out.keeps K.out (fun e => e.elim Hb.out.1 Hb.out.2)
      obtain ⟨c0, c1, c2⟩ := hT.cells k hkl
      have hlt := hT.lt
      have hm := HR.out (l.getD k (0, 0, 0)) (by simp [List.getD, hkl])
      have Hts := Box.mk (take_snocT hkl)
      clear hkl hT
      have hk0 : (0 : Int) ≤ (k : Int) := by omega
      have hk1 : (k : Int) < (n : Int) := by omega
      generalize l.getD k (0, 0, 0) = t at *
      obtain ⟨t1, t2, t3⟩ := t
      simp only at c0 c1 c2 hm
      obtain ⟨hm1, hm2⟩ := hm
      obtain ⟨r, hr⟩ : ∃ r, t1 + t2 = r := ⟨_, rfl⟩
      have hr2 : (t1 : Int) + (t2 : Int) = (r : Int) := by omega
      have hr3 : r < W.length := by omega
      have HWa := Box.mk (HWk.out.keeps0 ((Keeps.refl (fun _ => False) wr).alloc (.cells #[.int .i64 t1, .int .i64 t2, .int .i64 t3] 138)))
      have Ka := Box.mk (K.out.alloc (.cells #[.int .i64 t1, .int .i64 t2, .int .i64 t3] 138))
      have Hr := Box.mk hr
      clear K HWk hr hm1
      go_wp2_with fail
      refine (wset_is t3 HWa.out (p := r) (by rw [setAll_length]; exact hr3)).mono ?_
      rintro e w1 ⟨rfl, h1, k1⟩
      have H1 : Box (IsW w1 b g (setAll W (l.take (k + 1)))) := ⟨by rw [Hts.out, setAll_snoc]; show IsW w1 b g ((setAll W (l.take k)).set (t1 + t2) t3); rw [Hr.out]; exact h1⟩
      have K1 := Box.mk (Ka.out.trans k1)
      clear h1 k1 Ka HWa
      go_wp2_with fail
      go_roundw
      case rel => exact ⟨k + 1, by omega, by go_num, H1, K1⟩
      case measure => simp [intOf]; omega
    · have HE : Box (IsW wr b g (setAll W l)) := ⟨by have h := HWk.out; rw [List.take_of_length_le (by rw [Hn.out]; omega)] at h; exact h⟩
      go_wp2_with fail
      go_ret
      exact ⟨rfl, HE.out, K.out⟩

/-- The words that are places. -/
def Places (W : List Nat) : Prop := ∀ p, p < W.length → wat W p ≤ 1048576


end Go.Proofs.Ytbjlapfcnldpoaa

/- Init, Behind, Ahead, Alone, Insert, Remove, Join by contracts. -/
namespace Go.Proofs.Ytbjlapfcnldpoaa
set_option linter.unusedVariables false
set_option linter.unusedSimpArgs false
open Go.RowKit

set_option maxRecDepth 100000 in
set_option maxHeartbeats 1000000 in
theorem rinit_is {w : World} {b g : Nat} {W : List Nat} {p : Nat} (hw : IsW w b g W) (hp : p + 2 < W.length) :
    Calls Try.prog 89 #[.pointer (some ⟨b, 0, none⟩), .int .i64 p] w fun e w' => e = .returned .nilIface ∧ IsW w' b g (setAll W [(p, 1, p), (p, 2, p)]) ∧ Keeps (foot b g) w w' := by
  have hWl := hw.len
  obtain ⟨hbl, hgl⟩ := hw.lt
  have H0 := Box.mk hw
  clear hw
  go_enter Try.func89, Try.ntmps89
  go_wp2_with fail
  refine (rmay_is (IsRow.one w p (by omega)) (by intro z hz; simp at hz; subst hz; omega)).mono ?_
  rintro e w1 ⟨rfl, rfl⟩
  have H1 := Box.mk (H0.out.keeps0 ((Keeps.refl (fun _ => False) w).alloc (.cells #[.int .i64 p] 3)))
  have K1 := Box.mk ((Keeps.refl (foot b g) w).alloc (.cells #[.int .i64 p] 3))
  have hs1 : w.heap.size ≤ (w.alloc (.cells #[.int .i64 p] 3)).heap.size := by simp
  clear H0
  generalize w.alloc (.cells #[.int .i64 p] 3) = w1 at *
  go_wp2_with fail

  have HT : Box (IsTies (w1.alloc (.cells #[.int .i64 p, .int .i64 1, .int .i64 p, .int .i64 p, .int .i64 2, .int .i64 p] 138)) w1.heap.size [(p, 1, p), (p, 2, p)]) := ⟨IsTies.lit w1 [(p, 1, p), (p, 2, p)]⟩
  have HA := Box.mk (H1.out.keeps0 ((Keeps.refl (fun _ => False) w1).alloc (.cells #[.int .i64 p, .int .i64 1, .int .i64 p, .int .i64 p, .int .i64 2, .int .i64 p] 138)))
  have KA := Box.mk (K1.out.alloc (.cells #[.int .i64 p, .int .i64 1, .int .i64 p, .int .i64 p, .int .i64 2, .int .i64 p] 138))
  refine (rset_all HA.out HT.out (by omega) (by omega) (by simp) (by intro t ht; simp only [List.mem_cons, List.not_mem_nil, or_false] at ht; rcases ht with rfl | rfl <;> constructor <;> simp only <;> omega)).mono ?_
  rintro e w9 ⟨rfl, h9, k9⟩
  have H9 := Box.mk h9
  have K9 := Box.mk (KA.out.trans k9)
  clear h9 k9 HT HA KA
  go_wp2_with fail
  go_ret
  exact ⟨rfl, H9.out, K9.out⟩

set_option maxRecDepth 100000 in
set_option maxHeartbeats 1000000 in
theorem rbehind_is {w : World} {b g : Nat} {W : List Nat} {p x : Nat} (hw : IsW w b g W) (hp : p + 2 < W.length) (hw_x : wat W (p + 2) = x) (hx : x ≤ 1048576) :
    Calls Try.prog 69 #[.pointer (some ⟨b, 0, none⟩), .int .i64 p] w fun e w' => e = .returned (.tuple #[.int .i64 x, .nilIface]) ∧ IsW w' b g W ∧ Keeps (foot b g) w w' := by
  have hWl := hw.len
  obtain ⟨hbl, hgl⟩ := hw.lt
  have H0 := Box.mk hw
  clear hw
  go_enter Try.func69, Try.ntmps69
  go_wp2_with fail
  refine (rmay_is (IsRow.one w p (by omega)) (by intro z hz; simp at hz; subst hz; omega)).mono ?_
  rintro e w1 ⟨rfl, rfl⟩
  have H1 := Box.mk (H0.out.keeps0 ((Keeps.refl (fun _ => False) w).alloc (.cells #[.int .i64 p] 3)))
  have K1 := Box.mk ((Keeps.refl (foot b g) w).alloc (.cells #[.int .i64 p] 3))
  have hs1 : w.heap.size ≤ (w.alloc (.cells #[.int .i64 p] 3)).heap.size := by simp
  clear H0
  generalize w.alloc (.cells #[.int .i64 p] 3) = w1 at *
  go_wp2_with fail

  have hl1 := look_is H1.out (p := p) (q := 2) (by omega) (by rw [hw_x]; omega)
  rw [hw_x] at hl1
  refine hl1.mono ?_
  clear hl1
  rintro e w2 ⟨rfl, h2, k2⟩
  have H2 := Box.mk h2
  have K2 := Box.mk (K1.out.trans k2)
  have hs2 : w.heap.size ≤ w2.heap.size := by have := k2.size; omega
  clear h2 k2 H1 K1 hs1
  go_wp2_with fail
  exact bodyPost_ret (v := .tuple #[.int .i64 x, .nilIface]) (by simp [results, Try.results69, go_sem]) rfl ⟨rfl, H2.out, K2.out⟩

set_option maxRecDepth 100000 in
set_option maxHeartbeats 1000000 in
theorem rahead_is {w : World} {b g : Nat} {W : List Nat} {p x : Nat} (hw : IsW w b g W) (hp : p + 2 < W.length) (hw_x : wat W (p + 1) = x) (hx : x ≤ 1048576) :
    Calls Try.prog 90 #[.pointer (some ⟨b, 0, none⟩), .int .i64 p] w fun e w' => e = .returned (.tuple #[.int .i64 x, .nilIface]) ∧ IsW w' b g W ∧ Keeps (foot b g) w w' := by
  have hWl := hw.len
  obtain ⟨hbl, hgl⟩ := hw.lt
  have H0 := Box.mk hw
  clear hw
  go_enter Try.func90, Try.ntmps90
  go_wp2_with fail
  refine (rmay_is (IsRow.one w p (by omega)) (by intro z hz; simp at hz; subst hz; omega)).mono ?_
  rintro e w1 ⟨rfl, rfl⟩
  have H1 := Box.mk (H0.out.keeps0 ((Keeps.refl (fun _ => False) w).alloc (.cells #[.int .i64 p] 3)))
  have K1 := Box.mk ((Keeps.refl (foot b g) w).alloc (.cells #[.int .i64 p] 3))
  have hs1 : w.heap.size ≤ (w.alloc (.cells #[.int .i64 p] 3)).heap.size := by simp
  clear H0
  generalize w.alloc (.cells #[.int .i64 p] 3) = w1 at *
  go_wp2_with fail

  have hl1 := look_is H1.out (p := p) (q := 1) (by omega) (by rw [hw_x]; omega)
  rw [hw_x] at hl1
  refine hl1.mono ?_
  clear hl1
  rintro e w2 ⟨rfl, h2, k2⟩
  have H2 := Box.mk h2
  have K2 := Box.mk (K1.out.trans k2)
  have hs2 : w.heap.size ≤ w2.heap.size := by have := k2.size; omega
  clear h2 k2 H1 K1 hs1
  go_wp2_with fail
  exact bodyPost_ret (v := .tuple #[.int .i64 x, .nilIface]) (by simp [results, Try.results90, go_sem]) rfl ⟨rfl, H2.out, K2.out⟩

set_option maxRecDepth 100000 in
set_option maxHeartbeats 1000000 in
theorem rinsert_is {w : World} {b g : Nat} {W : List Nat} {p q x : Nat} (hw : IsW w b g W) (hp : p + 2 < W.length) (hq : q + 2 < W.length) (hw_x : wat W (p + 2) = x) (hx : x + 2 < W.length) :
    Calls Try.prog 72 #[.pointer (some ⟨b, 0, none⟩), .int .i64 p, .int .i64 q] w fun e w' => e = .returned .nilIface ∧ IsW w' b g (setAll W [(q, 1, p), (q, 2, x), (p, 2, q), (x, 1, q)]) ∧ Keeps (foot b g) w w' := by
  have hWl := hw.len
  obtain ⟨hbl, hgl⟩ := hw.lt
  have H0 := Box.mk hw
  clear hw
  go_enter Try.func72, Try.ntmps72
  go_wp2_with fail
  refine (rmay_is (IsRow.two w p q (by omega) (by omega)) (by intro z hz; simp at hz; rcases hz with rfl | rfl <;> omega)).mono ?_
  rintro e w1 ⟨rfl, rfl⟩
  have H1 := Box.mk (H0.out.keeps0 ((Keeps.refl (fun _ => False) w).alloc (.cells #[.int .i64 p, .int .i64 q] 3)))
  have K1 := Box.mk ((Keeps.refl (foot b g) w).alloc (.cells #[.int .i64 p, .int .i64 q] 3))
  have hs1 : w.heap.size ≤ (w.alloc (.cells #[.int .i64 p, .int .i64 q] 3)).heap.size := by simp
  clear H0
  generalize w.alloc (.cells #[.int .i64 p, .int .i64 q] 3) = w1 at *
  go_wp2_with fail

  have hl1 := look_is H1.out (p := p) (q := 2) (by omega) (by rw [hw_x]; omega)
  rw [hw_x] at hl1
  refine hl1.mono ?_
  clear hl1
  rintro e w2 ⟨rfl, h2, k2⟩
  have H2 := Box.mk h2
  have K2 := Box.mk (K1.out.trans k2)
  have hs2 : w.heap.size ≤ w2.heap.size := by have := k2.size; omega
  clear h2 k2 H1 K1 hs1
  go_wp2_with fail

  have HT : Box (IsTies (w2.alloc (.cells #[.int .i64 q, .int .i64 1, .int .i64 p, .int .i64 q, .int .i64 2, .int .i64 x, .int .i64 p, .int .i64 2, .int .i64 q, .int .i64 x, .int .i64 1, .int .i64 q] 138)) w2.heap.size [(q, 1, p), (q, 2, x), (p, 2, q), (x, 1, q)]) := ⟨IsTies.lit w2 [(q, 1, p), (q, 2, x), (p, 2, q), (x, 1, q)]⟩
  have HA := Box.mk (H2.out.keeps0 ((Keeps.refl (fun _ => False) w2).alloc (.cells #[.int .i64 q, .int .i64 1, .int .i64 p, .int .i64 q, .int .i64 2, .int .i64 x, .int .i64 p, .int .i64 2, .int .i64 q, .int .i64 x, .int .i64 1, .int .i64 q] 138)))
  have KA := Box.mk (K2.out.alloc (.cells #[.int .i64 q, .int .i64 1, .int .i64 p, .int .i64 q, .int .i64 2, .int .i64 x, .int .i64 p, .int .i64 2, .int .i64 q, .int .i64 x, .int .i64 1, .int .i64 q] 138))
  refine (rset_all HA.out HT.out (by omega) (by omega) (by simp) (by intro t ht; simp only [List.mem_cons, List.not_mem_nil, or_false] at ht; rcases ht with rfl | rfl | rfl | rfl <;> constructor <;> simp only <;> omega)).mono ?_
  rintro e w9 ⟨rfl, h9, k9⟩
  have H9 := Box.mk h9
  have K9 := Box.mk (KA.out.trans k9)
  clear h9 k9 HT HA KA
  go_wp2_with fail
  go_ret
  exact ⟨rfl, H9.out, K9.out⟩

set_option maxRecDepth 100000 in
set_option maxHeartbeats 1000000 in
theorem rremove_is {w : World} {b g : Nat} {W : List Nat} {q a x : Nat} (hw : IsW w b g W) (hq : q + 2 < W.length) (hw_a : wat W (q + 1) = a) (hw_x : wat W (q + 2) = x) (ha : a + 2 < W.length) (hx : x + 2 < W.length) :
    Calls Try.prog 71 #[.pointer (some ⟨b, 0, none⟩), .int .i64 q] w fun e w' => e = .returned .nilIface ∧ IsW w' b g (setAll W [(a, 2, x), (x, 1, a), (q, 1, q), (q, 2, q)]) ∧ Keeps (foot b g) w w' := by
  have hWl := hw.len
  obtain ⟨hbl, hgl⟩ := hw.lt
  have H0 := Box.mk hw
  clear hw
  go_enter Try.func71, Try.ntmps71
  go_wp2_with fail
  refine (rmay_is (IsRow.one w q (by omega)) (by intro z hz; simp at hz; subst hz; omega)).mono ?_
  rintro e w1 ⟨rfl, rfl⟩
  have H1 := Box.mk (H0.out.keeps0 ((Keeps.refl (fun _ => False) w).alloc (.cells #[.int .i64 q] 3)))
  have K1 := Box.mk ((Keeps.refl (foot b g) w).alloc (.cells #[.int .i64 q] 3))
  have hs1 : w.heap.size ≤ (w.alloc (.cells #[.int .i64 q] 3)).heap.size := by simp
  clear H0
  generalize w.alloc (.cells #[.int .i64 q] 3) = w1 at *
  go_wp2_with fail

  have hl1 := look_is H1.out (p := q) (q := 1) (by omega) (by rw [hw_a]; omega)
  rw [hw_a] at hl1
  refine hl1.mono ?_
  clear hl1
  rintro e w2 ⟨rfl, h2, k2⟩
  have H2 := Box.mk h2
  have K2 := Box.mk (K1.out.trans k2)
  have hs2 : w.heap.size ≤ w2.heap.size := by have := k2.size; omega
  clear h2 k2 H1 K1 hs1
  go_wp2_with fail

  have hl2 := look_is H2.out (p := q) (q := 2) (by omega) (by rw [hw_x]; omega)
  rw [hw_x] at hl2
  refine hl2.mono ?_
  clear hl2
  rintro e w3 ⟨rfl, h3, k3⟩
  have H3 := Box.mk h3
  have K3 := Box.mk (K2.out.trans k3)
  have hs3 : w.heap.size ≤ w3.heap.size := by have := k3.size; omega
  clear h3 k3 H2 K2 hs2
  go_wp2_with fail

  have HT : Box (IsTies (w3.alloc (.cells #[.int .i64 a, .int .i64 2, .int .i64 x, .int .i64 x, .int .i64 1, .int .i64 a, .int .i64 q, .int .i64 1, .int .i64 q, .int .i64 q, .int .i64 2, .int .i64 q] 138)) w3.heap.size [(a, 2, x), (x, 1, a), (q, 1, q), (q, 2, q)]) := ⟨IsTies.lit w3 [(a, 2, x), (x, 1, a), (q, 1, q), (q, 2, q)]⟩
  have HA := Box.mk (H3.out.keeps0 ((Keeps.refl (fun _ => False) w3).alloc (.cells #[.int .i64 a, .int .i64 2, .int .i64 x, .int .i64 x, .int .i64 1, .int .i64 a, .int .i64 q, .int .i64 1, .int .i64 q, .int .i64 q, .int .i64 2, .int .i64 q] 138)))
  have KA := Box.mk (K3.out.alloc (.cells #[.int .i64 a, .int .i64 2, .int .i64 x, .int .i64 x, .int .i64 1, .int .i64 a, .int .i64 q, .int .i64 1, .int .i64 q, .int .i64 q, .int .i64 2, .int .i64 q] 138))
  refine (rset_all HA.out HT.out (by omega) (by omega) (by simp) (by intro t ht; simp only [List.mem_cons, List.not_mem_nil, or_false] at ht; rcases ht with rfl | rfl | rfl | rfl <;> constructor <;> simp only <;> omega)).mono ?_
  rintro e w9 ⟨rfl, h9, k9⟩
  have H9 := Box.mk h9
  have K9 := Box.mk (KA.out.trans k9)
  clear h9 k9 HT HA KA
  go_wp2_with fail
  go_ret
  exact ⟨rfl, H9.out, K9.out⟩

set_option maxRecDepth 100000 in
set_option maxHeartbeats 1000000 in
theorem rjoin_none {w : World} {b g : Nat} {W : List Nat} {p q : Nat} (hw : IsW w b g W) (hp : p + 2 < W.length) (hq : q + 2 < W.length) (hw_f : wat W (q + 2) = q) :
    Calls Try.prog 93 #[.pointer (some ⟨b, 0, none⟩), .int .i64 p, .int .i64 q] w fun e w' => e = .returned .nilIface ∧ IsW w' b g W ∧ Keeps (foot b g) w w' := by
  have hWl := hw.len
  obtain ⟨hbl, hgl⟩ := hw.lt
  have H0 := Box.mk hw
  clear hw
  go_enter Try.func93, Try.ntmps93
  go_wp2_with fail
  refine (rmay_is (IsRow.two w p q (by omega) (by omega)) (by intro z hz; simp at hz; rcases hz with rfl | rfl <;> omega)).mono ?_
  rintro e w1 ⟨rfl, rfl⟩
  have H1 := Box.mk (H0.out.keeps0 ((Keeps.refl (fun _ => False) w).alloc (.cells #[.int .i64 p, .int .i64 q] 3)))
  have K1 := Box.mk ((Keeps.refl (foot b g) w).alloc (.cells #[.int .i64 p, .int .i64 q] 3))
  have hs1 : w.heap.size ≤ (w.alloc (.cells #[.int .i64 p, .int .i64 q] 3)).heap.size := by simp
  clear H0
  generalize w.alloc (.cells #[.int .i64 p, .int .i64 q] 3) = w1 at *
  go_wp2_with fail

  have hl1 := look_is H1.out (p := q) (q := 2) (by omega) (by rw [hw_f]; omega)
  rw [hw_f] at hl1
  refine hl1.mono ?_
  clear hl1
  rintro e w2 ⟨rfl, h2, k2⟩
  have H2 := Box.mk h2
  have K2 := Box.mk (K1.out.trans k2)
  have hs2 : w.heap.size ≤ w2.heap.size := by have := k2.size; omega
  clear h2 k2 H1 K1 hs1
  go_wp2_with fail
  go_ret
  exact ⟨rfl, H2.out, K2.out⟩

set_option maxRecDepth 100000 in
set_option maxHeartbeats 1000000 in
theorem rjoin_is {w : World} {b g : Nat} {W : List Nat} {p q f l z : Nat} (hw : IsW w b g W) (hp : p + 2 < W.length) (hq : q + 2 < W.length) (hw_f : wat W (q + 2) = f) (hw_l : wat W (q + 1) = l) (hw_z : wat W (p + 1) = z) (hf : f + 2 < W.length) (hl : l + 2 < W.length) (hz : z + 2 < W.length) (hne : ((f : Int) == (q : Int)) = false) :
    Calls Try.prog 93 #[.pointer (some ⟨b, 0, none⟩), .int .i64 p, .int .i64 q] w fun e w' => e = .returned .nilIface ∧ IsW w' b g (setAll W [(z, 2, f), (f, 1, z), (l, 2, p), (p, 1, l), (q, 1, q), (q, 2, q)]) ∧ Keeps (foot b g) w w' := by
  have hWl := hw.len
  obtain ⟨hbl, hgl⟩ := hw.lt
  have H0 := Box.mk hw
  clear hw
  go_enter Try.func93, Try.ntmps93
  go_wp2_with fail
  refine (rmay_is (IsRow.two w p q (by omega) (by omega)) (by intro z hz; simp at hz; rcases hz with rfl | rfl <;> omega)).mono ?_
  rintro e w1 ⟨rfl, rfl⟩
  have H1 := Box.mk (H0.out.keeps0 ((Keeps.refl (fun _ => False) w).alloc (.cells #[.int .i64 p, .int .i64 q] 3)))
  have K1 := Box.mk ((Keeps.refl (foot b g) w).alloc (.cells #[.int .i64 p, .int .i64 q] 3))
  have hs1 : w.heap.size ≤ (w.alloc (.cells #[.int .i64 p, .int .i64 q] 3)).heap.size := by simp
  clear H0
  generalize w.alloc (.cells #[.int .i64 p, .int .i64 q] 3) = w1 at *
  go_wp2_with fail

  have hl1 := look_is H1.out (p := q) (q := 2) (by omega) (by rw [hw_f]; omega)
  rw [hw_f] at hl1
  refine hl1.mono ?_
  clear hl1
  rintro e w2 ⟨rfl, h2, k2⟩
  have H2 := Box.mk h2
  have K2 := Box.mk (K1.out.trans k2)
  have hs2 : w.heap.size ≤ w2.heap.size := by have := k2.size; omega
  clear h2 k2 H1 K1 hs1
  go_wp2_with fail

  have hl2 := look_is H2.out (p := q) (q := 1) (by omega) (by rw [hw_l]; omega)
  rw [hw_l] at hl2
  refine hl2.mono ?_
  clear hl2
  rintro e w3 ⟨rfl, h3, k3⟩
  have H3 := Box.mk h3
  have K3 := Box.mk (K2.out.trans k3)
  have hs3 : w.heap.size ≤ w3.heap.size := by have := k3.size; omega
  clear h3 k3 H2 K2 hs2
  go_wp2_with fail

  have hl3 := look_is H3.out (p := p) (q := 1) (by omega) (by rw [hw_z]; omega)
  rw [hw_z] at hl3
  refine hl3.mono ?_
  clear hl3
  rintro e w4 ⟨rfl, h4, k4⟩
  have H4 := Box.mk h4
  have K4 := Box.mk (K3.out.trans k4)
  have hs4 : w.heap.size ≤ w4.heap.size := by have := k4.size; omega
  clear h4 k4 H3 K3 hs3
  go_wp2_with fail

  have HT : Box (IsTies (w4.alloc (.cells #[.int .i64 z, .int .i64 2, .int .i64 f, .int .i64 f, .int .i64 1, .int .i64 z, .int .i64 l, .int .i64 2, .int .i64 p, .int .i64 p, .int .i64 1, .int .i64 l, .int .i64 q, .int .i64 1, .int .i64 q, .int .i64 q, .int .i64 2, .int .i64 q] 138)) w4.heap.size [(z, 2, f), (f, 1, z), (l, 2, p), (p, 1, l), (q, 1, q), (q, 2, q)]) := ⟨IsTies.lit w4 [(z, 2, f), (f, 1, z), (l, 2, p), (p, 1, l), (q, 1, q), (q, 2, q)]⟩
  have HA := Box.mk (H4.out.keeps0 ((Keeps.refl (fun _ => False) w4).alloc (.cells #[.int .i64 z, .int .i64 2, .int .i64 f, .int .i64 f, .int .i64 1, .int .i64 z, .int .i64 l, .int .i64 2, .int .i64 p, .int .i64 p, .int .i64 1, .int .i64 l, .int .i64 q, .int .i64 1, .int .i64 q, .int .i64 q, .int .i64 2, .int .i64 q] 138)))
  have KA := Box.mk (K4.out.alloc (.cells #[.int .i64 z, .int .i64 2, .int .i64 f, .int .i64 f, .int .i64 1, .int .i64 z, .int .i64 l, .int .i64 2, .int .i64 p, .int .i64 p, .int .i64 1, .int .i64 l, .int .i64 q, .int .i64 1, .int .i64 q, .int .i64 q, .int .i64 2, .int .i64 q] 138))
  refine (rset_all HA.out HT.out (by omega) (by omega) (by simp) (by intro t ht; simp only [List.mem_cons, List.not_mem_nil, or_false] at ht; rcases ht with rfl | rfl | rfl | rfl | rfl | rfl <;> constructor <;> simp only <;> omega)).mono ?_
  rintro e w9 ⟨rfl, h9, k9⟩
  have H9 := Box.mk h9
  have K9 := Box.mk (KA.out.trans k9)
  clear h9 k9 HT HA KA
  go_wp2_with fail
  go_ret
  exact ⟨rfl, H9.out, K9.out⟩

end Go.Proofs.Ytbjlapfcnldpoaa

/- A new store. -/
namespace Go.Proofs.Ytbjlapfcnldpoaa
set_option linter.unusedVariables false
set_option linter.unusedSimpArgs false
open Go.RowKit

theorem info_u64 : (Try.prog.info? 30).map (fun i => (i.zero, i.size, i.bytes)) = some (some (.int .u64 0), 1, 8) := by kernel_rfl

theorem new_bad (n : Int) (w : World) (h : n < 0 ∨ 1048576 < n) :
    Calls Try.prog 56 #[.int .i64 n] w fun e w' => e = .returned (.tuple #[.pointer none, .iface 97 (.int .i64 2)]) ∧ w' = w := by
  rcases h with h | h
  · go_enter Try.func56, Try.ntmps56
    go_wp2
    go_ret2
    exact ⟨rfl, rfl⟩
  · go_enter Try.func56, Try.ntmps56
    go_wp2
    go_ret2
    exact ⟨rfl, rfl⟩

theorem made_one (z : Value) (n : Nat) : madeCells #[z] n = (List.replicate n z).toArray := by
  rw [← toList_madeCells_one]

theorem new_world (n : Nat) (w : World) (hn : n ≤ 1048576) :
    IsStore ((w.alloc (.cells (madeCells #[.int .u64 0] n) 30)).alloc (.cells #[.slice (some ⟨w.heap.size, 0, none⟩) n n, .int .i64 0] 127))
      ⟨w.heap.size + 1, w.heap.size, n, List.replicate n 0, 0⟩ := by
  refine ⟨?_, ?_, by simp, by simpa using hn⟩
  · have := heap_alloc_new (w.alloc (.cells (madeCells #[.int .u64 0] n) 30)) (.cells #[.slice (some ⟨w.heap.size, 0, none⟩) n n, .int .i64 0] 127)
    simpa using this
  · have := World.ownsRow_lit (e := 30) (size := 1) (base := 0) w (madeCells #[.int .u64 0] n) n (Nat.zero_le _) (by unfold maxLen; omega) (by simp [size_madeCells])
    rw [toList_madeCells_one] at this
    simpa using this.alloc _

theorem new_ok (n : Int) (w : World) (h : 0 ≤ n) (h2 : n ≤ 1048576) :
    Calls Try.prog 56 #[.int .i64 n] w fun e w' => ∃ s : SSt, e = .returned (.tuple #[.pointer (some ⟨s.b, 0, none⟩), .nilIface]) ∧ IsStore w' s ∧ s.ws = List.replicate n.toNat 0 ∧ s.k = 0 ∧
      Keeps (fun _ => False) w w' ∧ w.heap.size ≤ s.b ∧ w.heap.size ≤ s.g := by
  obtain ⟨n, rfl⟩ := Int.eq_ofNat_of_zero_le h
  obtain ⟨i0, hi, hz0, hz1, hz2⟩ := info_parts info_u64
  have hmk := fun (w : World) => run_make (P := Try.prog) w 22 30 i0 (.int .u64 0) Try.underlying22 hi hz0 .i64 .i64 n n (by omega) (by omega) (by rw [hz2]; omega) (by omega)
  simp only [hz1, Nat.mul_one, Int.toNat_natCast, Value.cells] at hmk
  have hw := Box.mk (new_world n w (by omega))
  clear hi hz0 hz1 hz2
  go_enter Try.func56, Try.ntmps56
  go_wp2
  go_ret2
  refine ⟨⟨w.heap.size + 1, w.heap.size, n, List.replicate n 0, 0⟩, rfl, hw.out, rfl, rfl, ((Keeps.refl _ w).alloc _).alloc _, Nat.le_succ _, Nat.le_refl _⟩

end Go.Proofs.Ytbjlapfcnldpoaa

/- A new store, with its words. -/
namespace Go.Proofs.Ytbjlapfcnldpoaa
set_option linter.unusedVariables false
set_option linter.unusedSimpArgs false
open Go.RowKit

theorem rnew_is (n : Nat) (w : World) (h : n ≤ 1048576) :
    Calls Try.prog 56 #[.int .i64 n] w fun e w' => ∃ b g, e = .returned (.tuple #[.pointer (some ⟨b, 0, none⟩), .nilIface]) ∧ IsW w' b g (List.replicate n 0) ∧ Keeps (fun _ => False) w w' ∧ w.heap.size ≤ b ∧ w.heap.size ≤ g := by
  refine (new_ok n w (by omega) (by omega)).mono ?_
  rintro e w' ⟨s, rfl, h1, h2, h3, h4, h5, h6⟩
  refine ⟨s.b, s.g, rfl, ⟨s.c, s.k, ?_⟩, h4, h5, h6⟩
  obtain ⟨b, g, c, ws, k⟩ := s
  simp only at h1 h2 ⊢
  rw [List.map_replicate]
  rw [Int.toNat_natCast] at h2
  subst h2
  exact h1
theorem Keeps.ring {w w1 w2 : World} {b g : Nat} (K : Keeps (fun _ => False) w w1) (k : Keeps (foot b g) w1 w2) (hb : w.heap.size ≤ b) (hg : w.heap.size ≤ g) : Keeps (fun _ => False) w w2 :=
  K.trans' k (fun i hi h => by unfold foot at h; omega)

end Go.Proofs.Ytbjlapfcnldpoaa

/- The heap as a plain function: what each of its doings makes of its state; none: the words are no rings there. No program in sight. -/
namespace Go.Proofs.Ytbjlapfcnldpoaa
set_option linter.unusedVariables false
set_option linter.unusedSimpArgs false
open Go.RowKit

/-- A heap's state. -/
structure TH where
  start : List Nat
  count : List Nat
  lists : List Nat
  roots : List Nat
  k : Nat
  now : Nat
  marking : Bool
  cycles : Nat
  wait : Nat
  tries : Nat
  W : List Nat
deriving DecidableEq, Repr

def szs (c : Nat) : Nat := [3, 7, 31, 127].getD c 0
def thead (c l : Nat) : Nat := 3 * (4 * c + l)
def req (b : Bool) : Option Unit := if b then some () else none
def rd (W : List Nat) (p : Nat) : Option Nat := if p < W.length then some (wat W p) else none
def wrt (W : List Nat) (p x : Nat) : Option (List Nat) := if p < W.length then some (W.set p x) else none
/-- A header's word. -/
def rdh (W : List Nat) (b : Nat) : Option Nat := if b < W.length ∧ wat W b < 65536 then some (wat W b) else none
def isPlace (W : List Nat) (p : Nat) : Bool := p + 2 < W.length
def oInit (W : List Nat) (p : Nat) : Option (List Nat) := if isPlace W p then some (setAll W [(p, 1, p), (p, 2, p)]) else none
def oBehind (W : List Nat) (p : Nat) : Option Nat := if isPlace W p && decide (wat W (p + 2) ≤ 1048576) then some (wat W (p + 2)) else none
def oAhead (W : List Nat) (p : Nat) : Option Nat := if isPlace W p && decide (wat W (p + 1) ≤ 1048576) then some (wat W (p + 1)) else none
def oInsert (W : List Nat) (p q : Nat) : Option (List Nat) :=
  let x := wat W (p + 2)
  if isPlace W p && isPlace W q && isPlace W x then some (setAll W [(q, 1, p), (q, 2, x), (p, 2, q), (x, 1, q)]) else none
def oRemove (W : List Nat) (q : Nat) : Option (List Nat) :=
  let a := wat W (q + 1)
  let x := wat W (q + 2)
  if isPlace W q && isPlace W a && isPlace W x then some (setAll W [(a, 2, x), (x, 1, a), (q, 1, q), (q, 2, q)]) else none
def oJoin (W : List Nat) (p q : Nat) : Option (List Nat) :=
  let f := wat W (q + 2)
  let l := wat W (q + 1)
  let z := wat W (p + 1)
  if isPlace W p && isPlace W q then
    if f = q then some W
    else if isPlace W f && isPlace W l && isPlace W z then some (setAll W [(z, 2, f), (f, 1, z), (l, 2, p), (p, 1, l), (q, 1, q), (q, 2, q)]) else none
  else none

def hform (h : Nat) : Nat := h / 16 % 4
def htag (h : Nat) : Nat := h % 16
def hmark (h : Nat) : Nat := h / 64 % 4
def hn (h : Nat) : Nat := h / 256 % 256
def hdr (form tag mark n : Nat) : Nat := tag + 16 * form + 64 * mark + 256 * n

def tcell (w : Nat) : Bool := w % 8 == 1 && decide (w / 8 ≤ 1099511627776)
def tclassAt (s : TH) (b c : Nat) : Option (Option Nat) :=
  if s.start.getD c 0 ≤ b ∧ b < s.start.getD (c + 1) 0 then some (if (b - s.start.getD c 0) % (3 + szs c) = 0 then some c else none) else none
def tclass (s : TH) (b : Nat) : Option Nat :=
  match tclassAt s b 0 with
  | some r => r
  | none => match tclassAt s b 1 with
    | some r => r
    | none => match tclassAt s b 2 with
      | some r => r
      | none => match tclassAt s b 3 with
        | some r => r
        | none => none
def tplace (s : TH) (w : Nat) : Option (Nat × Nat) := if tcell w then (tclass s (w / 8)).map (fun c => (w / 8, c)) else none
def lget (s : TH) (c l : Nat) : Nat := s.lists.getD (4 * c + l) 0
def lset (s : TH) (c l x : Nat) : TH := { s with lists := s.lists.set (4 * c + l) x }

def tmove (s : TH) (b c to mark list : Nat) : Option TH := do
  let h ← rdh s.W b
  let W ← wrt s.W b (hdr (hform h) (htag h) mark (hn h))
  let W ← oRemove W b
  let W ← oInsert W to b
  req (lget s c list < 1000000)
  return { lset s c list (lget s c list + 1) with W := W }
def tshade (s : TH) (w : Nat) : Option TH :=
  if 18446744073709551616 ≤ w then none else
  match tplace s w with
  | none => some s
  | some (b, c) => do
    let h ← rdh s.W b
    if hmark h ≠ 1 - s.now then return s
    req (lget s c 2 > 0)
    req (lget s c 2 < 1000000)
    tmove (lset s c 2 (lget s c 2 - 1)) b c (thead c 3) 2 3
def tflip1 (s : TH) (c : Nat) : Option TH := do
  let W ← oJoin s.W (thead c 2) (thead c 1)
  return lset (lset { s with W := W } c 2 (lget s c 1)) c 1 0
def shadeAll : List Nat → TH → Option TH
  | [], s => some s
  | w :: l, s => (tshade s w).bind (shadeAll l)
def tflip (s : TH) : Option TH := do
  let s ← tflip1 { s with now := 1 - s.now } 0
  let s ← tflip1 s 1
  let s ← tflip1 s 2
  let s ← tflip1 s 3
  shadeAll s.roots { s with marking := true, tries := 0 }
def shadeFields (s : TH) (b : Nat) : Nat → Nat → Option TH
  | 0, _ => some s
  | m + 1, i => do
    let w ← rd s.W (b + 3 + i)
    let s ← tshade s w
    shadeFields s b m (i + 1)
def tscanAt (s : TH) (c : Nat) : Option TH := do
  let b ← oBehind s.W (thead c 3)
  let h ← rdh s.W b
  req (lget s c 3 < 1000000)
  let s := { lset s c 3 (lget s c 3 - 1) with tries := 0 }
  if hform h = 3 then
    let last ← oAhead s.W 48
    req (s.wait < 1000000)
    tmove { s with wait := s.wait + 1 } b c last s.now 1
  else if hform h = 1 then
    let s ← shadeFields s b (hn h) 0
    tmove s b c (thead c 1) s.now 1
  else if hform h = 2 then tmove s b c (thead c 1) s.now 1
  else return s
def tscan (s : TH) : Option (Option TH) :=
  if lget s 0 3 ≠ 0 then (tscanAt s 0).map some
  else if lget s 1 3 ≠ 0 then (tscanAt s 1).map some
  else if lget s 2 3 ≠ 0 then (tscanAt s 2).map some
  else if lget s 3 3 ≠ 0 then (tscanAt s 3).map some
  else some none
def tlook (s : TH) : Option (Option TH) :=
  if s.wait = 0 then some none else none
def tend1 (s : TH) (c : Nat) : Option TH := do
  let W ← oJoin s.W (thead c 0) (thead c 2)
  req (lget s c 0 + lget s c 2 < 1000000)
  return lset (lset { s with W := W } c 0 (lget s c 0 + lget s c 2)) c 2 0
def tend (s : TH) : Option TH := do
  let s ← tend1 s 0
  let s ← tend1 s 1
  let s ← tend1 s 2
  let s ← tend1 s 3
  req (s.cycles < 1000000)
  return { s with marking := false, cycles := s.cycles + 1 }
def tstep (s : TH) : Option TH :=
  if s.marking then do
    match ← tscan s with
    | some s => return s
    | none => match ← tlook s with
      | some s => return s
      | none => tend s
  else tflip s
def tincr : Nat → TH → Option TH
  | 0, s => some s
  | n + 1, s => (tstep s).bind (tincr n)
def tcls (n : Nat) : Nat := if n ≤ 3 then 0 else if n ≤ 7 then 1 else if n ≤ 31 then 2 else 3
def fillF (W : List Nat) (b x : Nat) : Nat → Nat → Option (List Nat)
  | 0, _ => some W
  | m + 1, i => (wrt W (b + 3 + i) x).bind (fun W => fillF W b x m (i + 1))
def talloc (s : TH) (form tag n : Nat) : Option (TH × Nat) := do
  let s ← tincr s.k s
  let c := tcls n
  req (lget s c 0 > 0)
  req (lget s c 0 < 1000000)
  req (lget s c 1 < 1000000)
  let b ← oBehind s.W (thead c 0)
  let s := lset s c 0 (lget s c 0 - 1)
  let s := lset s c 1 (lget s c 1 + 1)
  let W ← oRemove s.W b
  let W ← oInsert W (thead c 1) b
  let W ← wrt W b (hdr form tag s.now n)
  let W ← fillF W b (if form = 2 then 0 else 12) n 0
  return ({ s with W := W }, 8 * b + 1)
def starts (cs : List Nat) : List Nat := [51, 51 + cs.getD 0 0 * 6, 51 + cs.getD 0 0 * 6 + cs.getD 1 0 * 10, 51 + cs.getD 0 0 * 6 + cs.getD 1 0 * 10 + cs.getD 2 0 * 34, 51 + cs.getD 0 0 * 6 + cs.getD 1 0 * 10 + cs.getD 2 0 * 34 + cs.getD 3 0 * 130]
def initAll (W : List Nat) : Nat → Nat → Option (List Nat)
  | 0, _ => some W
  | m + 1, i => (oInit W (3 * i)).bind (fun W => initAll W m (i + 1))
def layC (W : List Nat) (s c n : Nat) : Nat → Nat → Option (List Nat)
  | 0, _ => some W
  | m + 1, i => do
    let b := s + i * (3 + n)
    let last ← oAhead W (thead c 0)
    let W ← oInit W b
    let W ← oInsert W last b
    layC W s c n m (i + 1)
def tnew (cs : List Nat) (k : Nat) : Option TH := do
  let st := starts cs
  let W ← initAll (List.replicate (st.getD 4 0) 0) 17 0
  let W ← layC W (st.getD 0 0) 0 3 (cs.getD 0 0) 0
  let W ← layC W (st.getD 1 0) 1 7 (cs.getD 1 0) 0
  let W ← layC W (st.getD 2 0) 2 31 (cs.getD 2 0) 0
  let W ← layC W (st.getD 3 0) 3 127 (cs.getD 3 0) 0
  return ⟨st, cs, [cs.getD 0 0, 0, 0, 0, cs.getD 1 0, 0, 0, 0, cs.getD 2 0, 0, 0, 0, cs.getD 3 0, 0, 0, 0], List.replicate 12 12, k, 0, false, 0, 0, 0, W⟩
def setRoot (s : TH) (i w : Nat) : TH := { s with roots := s.roots.set i w }
def awk : Option (TH × Nat) := do
  let s ← tnew [4, 0, 0, 0] 1
  let (s, w) ← talloc s 1 5 2
  let s := setRoot s 0 w
  let (s, w) ← talloc s 1 5 2
  let s := setRoot s 1 w
  let (s, w) ← talloc s 1 5 2
  let s := setRoot s 2 w
  let (s, w) ← talloc s 1 5 2
  let s := setRoot s 3 w
  let s := setRoot s 3 12
  let s ← tincr 40 s
  talloc s 1 5 2
theorem awk_some : awk.isSome = true := by rfl

end Go.Proofs.Ytbjlapfcnldpoaa

/- A heap in memory: its block's cells, its store. -/
namespace Go.Proofs.Ytbjlapfcnldpoaa
set_option linter.unusedVariables false
set_option linter.unusedSimpArgs false
open Go.RowKit

def nI (x : Nat) : Value := .int .i64 (x : Int)
def nU (x : Nat) : Value := .int .u64 (x : Int)
/-- The heap's fields, cell by cell. -/
def hcells (b : Nat) (s : TH) : List Value :=
  .pointer (some ⟨b, 0, none⟩) :: (s.start.map nI ++ (s.count.map nI ++ (s.lists.map nI ++ (s.roots.map nU ++ [nI s.k, nI s.now, .bool s.marking, nI s.cycles, nI s.wait, nI s.tries]))))
structure THlen (s : TH) : Prop where
  a : s.start.length = 5
  b : s.count.length = 4
  c : s.lists.length = 16
  d : s.roots.length = 12

theorem get_seg {A : List Value} {l : List Nat} {C : List Value} {f : Nat → Value} (k i : Nat) (hk : A.length = k) (hi : i < l.length) : (A ++ (l.map f ++ C))[k + i]? = some (f (l.getD i 0)) := by
  rw [List.getElem?_append_right (by omega), hk, Nat.add_sub_cancel_left, List.getElem?_append_left (by simpa using hi)]
  simp [List.getD, hi]
theorem set_seg {A : List Value} {l : List Nat} {C : List Value} {f : Nat → Value} (k i x : Nat) (hk : A.length = k) (hi : i < l.length) : (A ++ (l.map f ++ C)).set (k + i) (f x) = A ++ ((l.set i x).map f ++ C) := by
  rw [List.set_append_right _ _ (by omega), hk, Nat.add_sub_cancel_left, List.set_append_left _ _ (by simpa using hi), List.map_set]

theorem hc_store (b : Nat) (s : TH) : (hcells b s)[0]? = some (.pointer (some ⟨b, 0, none⟩)) := rfl
theorem hc_start (b : Nat) {s : TH} (h : THlen s) {i : Nat} (hi : i < 5) : (hcells b s)[1 + i]? = some (nI (s.start.getD i 0)) :=
  get_seg (A := [.pointer (some ⟨b, 0, none⟩)]) 1 i rfl (by rw [h.a]; exact hi)
theorem hc_count (b : Nat) {s : TH} (h : THlen s) {i : Nat} (hi : i < 4) : (hcells b s)[6 + i]? = some (nI (s.count.getD i 0)) := by
  have := get_seg (A := .pointer (some ⟨b, 0, none⟩) :: s.start.map nI) (l := s.count) (C := s.lists.map nI ++ (s.roots.map nU ++ [nI s.k, nI s.now, .bool s.marking, nI s.cycles, nI s.wait, nI s.tries])) (f := nI) 6 i (by simp [h.a]) (by rw [h.b]; exact hi)
  rw [← this]
  simp [hcells]
theorem hc_lists (b : Nat) {s : TH} (h : THlen s) {i : Nat} (hi : i < 16) : (hcells b s)[10 + i]? = some (nI (s.lists.getD i 0)) := by
  have := get_seg (A := .pointer (some ⟨b, 0, none⟩) :: (s.start.map nI ++ s.count.map nI)) (l := s.lists) (C := s.roots.map nU ++ [nI s.k, nI s.now, .bool s.marking, nI s.cycles, nI s.wait, nI s.tries]) (f := nI) 10 i (by simp [h.a, h.b]) (by rw [h.c]; exact hi)
  rw [← this]
  simp [hcells]
theorem hc_roots (b : Nat) {s : TH} (h : THlen s) {i : Nat} (hi : i < 12) : (hcells b s)[26 + i]? = some (nU (s.roots.getD i 0)) := by
  have := get_seg (A := .pointer (some ⟨b, 0, none⟩) :: (s.start.map nI ++ (s.count.map nI ++ s.lists.map nI))) (l := s.roots) (C := [nI s.k, nI s.now, .bool s.marking, nI s.cycles, nI s.wait, nI s.tries]) (f := nU) 26 i (by simp [h.a, h.b, h.c]) (by rw [h.d]; exact hi)
  rw [← this]
  simp [hcells]
theorem hc_tail (b : Nat) {s : TH} (h : THlen s) (i : Nat) : (hcells b s)[38 + i]? = ([nI s.k, nI s.now, .bool s.marking, nI s.cycles, nI s.wait, nI s.tries] : List Value)[i]? := by
  have e : hcells b s = (.pointer (some ⟨b, 0, none⟩) :: (s.start.map nI ++ (s.count.map nI ++ (s.lists.map nI ++ s.roots.map nU)))) ++ [nI s.k, nI s.now, .bool s.marking, nI s.cycles, nI s.wait, nI s.tries] := by simp [hcells]
  rw [e, List.getElem?_append_right (by simp [h.a, h.b, h.c, h.d])]
  congr 1
  simp [h.a, h.b, h.c, h.d]
theorem hs_lists (b : Nat) {s : TH} (h : THlen s) {i : Nat} (hi : i < 16) (x : Nat) : (hcells b s).set (10 + i) (nI x) = hcells b { s with lists := s.lists.set i x } := by
  have := set_seg (A := .pointer (some ⟨b, 0, none⟩) :: (s.start.map nI ++ s.count.map nI)) (l := s.lists) (C := s.roots.map nU ++ [nI s.k, nI s.now, .bool s.marking, nI s.cycles, nI s.wait, nI s.tries]) (f := nI) 10 i x (by simp [h.a, h.b]) (by rw [h.c]; exact hi)
  simpa [hcells] using this
theorem hs_roots (b : Nat) {s : TH} (h : THlen s) {i : Nat} (hi : i < 12) (x : Nat) : (hcells b s).set (26 + i) (nU x) = hcells b { s with roots := s.roots.set i x } := by
  have := set_seg (A := .pointer (some ⟨b, 0, none⟩) :: (s.start.map nI ++ (s.count.map nI ++ s.lists.map nI))) (l := s.roots) (C := [nI s.k, nI s.now, .bool s.marking, nI s.cycles, nI s.wait, nI s.tries]) (f := nU) 26 i x (by simp [h.a, h.b, h.c]) (by rw [h.d]; exact hi)
  simpa [hcells] using this
theorem hs_tail (b : Nat) {s s' : TH} (h : THlen s) (i : Nat) (v : Value) (h1 : s'.start = s.start) (h2 : s'.count = s.count) (h3 : s'.lists = s.lists) (h4 : s'.roots = s.roots)
    (h5 : ([nI s.k, nI s.now, .bool s.marking, nI s.cycles, nI s.wait, nI s.tries] : List Value).set i v = [nI s'.k, nI s'.now, .bool s'.marking, nI s'.cycles, nI s'.wait, nI s'.tries]) : (hcells b s).set (38 + i) v = hcells b s' := by
  have e : ∀ t : TH, hcells b t = (.pointer (some ⟨b, 0, none⟩) :: (t.start.map nI ++ (t.count.map nI ++ (t.lists.map nI ++ t.roots.map nU)))) ++ [nI t.k, nI t.now, .bool t.marking, nI t.cycles, nI t.wait, nI t.tries] := by intro t; simp [hcells]
  rw [e s, e s', List.set_append_right _ _ (by simp [h.a, h.b, h.c, h.d]), ← h5, h1, h2, h3, h4]
  congr 2
  simp [h.a, h.b, h.c, h.d]

/-- The heap in block hb, its store in b, the store's words in g. -/
structure IsTH (w : World) (hb b g : Nat) (s : TH) : Prop where
  head : w.heap[hb]? = some (.cells (hcells b s).toArray 95 (0, 0))
  iw : IsW w b g s.W
  ls : THlen s
  ne : hb ≠ b ∧ hb ≠ g
def foot3 (hb b g : Nat) : Nat → Prop := fun z => z = hb ∨ z = b ∨ z = g

section
variable {w w' : World} {hb b g : Nat} {s : TH}
theorem IsTH.lt (h : IsTH w hb b g s) : hb < w.heap.size ∧ b < w.heap.size ∧ g < w.heap.size := ⟨lt_of_heap h.head, h.iw.lt.1, h.iw.lt.2⟩
theorem IsTH.keeps (h : IsTH w hb b g s) {S : Nat → Prop} (k : Keeps S w w') (h1 : ¬ S hb) (h2 : ¬ S b) (h3 : ¬ S g) : IsTH w' hb b g s := ⟨k.heap h.head h1, h.iw.keeps k h2 h3, h.ls, h.ne⟩
theorem IsTH.keeps0 (h : IsTH w hb b g s) (k : Keeps (fun _ => False) w w') : IsTH w' hb b g s := h.keeps k (fun h => h) (fun h => h) (fun h => h)
theorem IsTH.ring (h : IsTH w hb b g s) {W' : List Nat} (k : Keeps (foot b g) w w') (hI : IsW w' b g W') : IsTH w' hb b g { s with W := W' } :=
  ⟨k.heap h.head (by unfold foot; have := h.ne; omega), hI, ⟨h.ls.a, h.ls.b, h.ls.c, h.ls.d⟩, h.ne⟩
theorem IsTH.frozen (h : IsTH w hb b g s) (i : Nat) : w.frozen? ⟨hb, i, none⟩ = false := frozen_of_heap h.head i
theorem IsTH.cell (h : IsTH w hb b g s) (i : Nat) : w.cell? ⟨hb, i, none⟩ = (hcells b s)[i]? := by
  rw [cell_of_heap h.head]
  simp
theorem IsTH.store (h : IsTH w hb b g s) : w.cell? ⟨hb, 0, none⟩ = some (.pointer (some ⟨b, 0, none⟩)) := by rw [h.cell, hc_store]
theorem IsTH.start (h : IsTH w hb b g s) {i : Nat} (hi : i < 5) : w.cell? ⟨hb, 1 + i, none⟩ = some (.int .i64 (s.start.getD i 0 : Nat)) := by rw [h.cell, hc_start b h.ls hi]; rfl
theorem IsTH.count (h : IsTH w hb b g s) {i : Nat} (hi : i < 4) : w.cell? ⟨hb, 6 + i, none⟩ = some (.int .i64 (s.count.getD i 0 : Nat)) := by rw [h.cell, hc_count b h.ls hi]; rfl
theorem IsTH.lists (h : IsTH w hb b g s) {i : Nat} (hi : i < 16) : w.cell? ⟨hb, 10 + i, none⟩ = some (.int .i64 (s.lists.getD i 0 : Nat)) := by rw [h.cell, hc_lists b h.ls hi]; rfl
theorem IsTH.roots (h : IsTH w hb b g s) {i : Nat} (hi : i < 12) : w.cell? ⟨hb, 26 + i, none⟩ = some (.int .u64 (s.roots.getD i 0 : Nat)) := by rw [h.cell, hc_roots b h.ls hi]; rfl
theorem IsTH.k (h : IsTH w hb b g s) : w.cell? ⟨hb, 38, none⟩ = some (.int .i64 s.k) := by rw [h.cell, hc_tail b h.ls 0]; rfl
theorem IsTH.now (h : IsTH w hb b g s) : w.cell? ⟨hb, 39, none⟩ = some (.int .i64 s.now) := by rw [h.cell, hc_tail b h.ls 1]; rfl
theorem IsTH.marking (h : IsTH w hb b g s) : w.cell? ⟨hb, 40, none⟩ = some (.bool s.marking) := by rw [h.cell, hc_tail b h.ls 2]; rfl
theorem IsTH.cycles (h : IsTH w hb b g s) : w.cell? ⟨hb, 41, none⟩ = some (.int .i64 s.cycles) := by rw [h.cell, hc_tail b h.ls 3]; rfl
theorem IsTH.wait (h : IsTH w hb b g s) : w.cell? ⟨hb, 42, none⟩ = some (.int .i64 s.wait) := by rw [h.cell, hc_tail b h.ls 4]; rfl
theorem IsTH.tries (h : IsTH w hb b g s) : w.cell? ⟨hb, 43, none⟩ = some (.int .i64 s.tries) := by rw [h.cell, hc_tail b h.ls 5]; rfl

theorem IsTH.put (h : IsTH w hb b g s) {i : Nat} {v : Value} {s' : TH} (hc : (hcells b s).set i v = hcells b s') (hW : s'.W = s.W) (hl : THlen s') : IsTH (w.setCell ⟨hb, i, none⟩ v) hb b g s' := by
  have k : Keeps (fun z => z = hb) w (w.setCell ⟨hb, i, none⟩ v) := (Keeps.refl (fun z => z = hb) w).setCell (p := ⟨hb, i, none⟩) (fun _ => rfl) v
  refine ⟨?_, by rw [hW]; exact h.iw.keeps k (fun e => h.ne.1 e.symm) (fun e => h.ne.2 e.symm), hl, h.ne⟩
  rw [heap_setCell_at h.head, ← hc]
  simp
theorem IsTH.putList (h : IsTH w hb b g s) {i : Nat} (hi : i < 16) (x : Nat) : IsTH (w.setCell ⟨hb, 10 + i, none⟩ (.int .i64 x)) hb b g { s with lists := s.lists.set i x } :=
  h.put (hs_lists b h.ls hi x) rfl ⟨h.ls.a, h.ls.b, by simpa using h.ls.c, h.ls.d⟩
theorem IsTH.putRoot (h : IsTH w hb b g s) {i : Nat} (hi : i < 12) (x : Nat) : IsTH (w.setCell ⟨hb, 26 + i, none⟩ (.int .u64 x)) hb b g { s with roots := s.roots.set i x } :=
  h.put (hs_roots b h.ls hi x) rfl ⟨h.ls.a, h.ls.b, h.ls.c, by simpa using h.ls.d⟩
theorem IsTH.putNow (h : IsTH w hb b g s) (x : Nat) : IsTH (w.setCell ⟨hb, 39, none⟩ (.int .i64 x)) hb b g { s with now := x } :=
  h.put (hs_tail b h.ls 1 _ rfl rfl rfl rfl rfl) rfl ⟨h.ls.a, h.ls.b, h.ls.c, h.ls.d⟩
theorem IsTH.putMarking (h : IsTH w hb b g s) (x : Bool) : IsTH (w.setCell ⟨hb, 40, none⟩ (.bool x)) hb b g { s with marking := x } :=
  h.put (hs_tail b h.ls 2 _ rfl rfl rfl rfl rfl) rfl ⟨h.ls.a, h.ls.b, h.ls.c, h.ls.d⟩
theorem IsTH.putCycles (h : IsTH w hb b g s) (x : Nat) : IsTH (w.setCell ⟨hb, 41, none⟩ (.int .i64 x)) hb b g { s with cycles := x } :=
  h.put (hs_tail b h.ls 3 _ rfl rfl rfl rfl rfl) rfl ⟨h.ls.a, h.ls.b, h.ls.c, h.ls.d⟩
theorem IsTH.putWait (h : IsTH w hb b g s) (x : Nat) : IsTH (w.setCell ⟨hb, 42, none⟩ (.int .i64 x)) hb b g { s with wait := x } :=
  h.put (hs_tail b h.ls 4 _ rfl rfl rfl rfl rfl) rfl ⟨h.ls.a, h.ls.b, h.ls.c, h.ls.d⟩
theorem IsTH.putTries (h : IsTH w hb b g s) (x : Nat) : IsTH (w.setCell ⟨hb, 43, none⟩ (.int .i64 x)) hb b g { s with tries := x } :=
  h.put (hs_tail b h.ls 5 _ rfl rfl rfl rfl rfl) rfl ⟨h.ls.a, h.ls.b, h.ls.c, h.ls.d⟩
end

end Go.Proofs.Ytbjlapfcnldpoaa

/- Words: what the heap asks of package word (cut out of XWord by a program) by contracts. -/
namespace Go.Proofs.Ytbjlapfcnldpoaa
set_option linter.unusedVariables false
set_option linter.unusedSimpArgs false
open Go.RowKit

/-- A word's number. -/
def wnum (w : Int) : Int := wrap64 w / 8
/-- A word of a tag and a number. -/
def wput (t n : Int) : Int := (n * 8) % 18446744073709551616 + t
/-- The greatest number of a tag. -/
def wmost (t : Int) : Int := if t = 1 then 1099511627776 else if t = 2 then 255 else if t = 3 then 1 else if t = 4 then 2 else if t = 5 then 4095 else if t = 6 then 255 else -1
/-- A tag's kind. -/
def wtag (t n : Int) : Int := if t = 1 then 2 else if t = 2 then 3 else if t = 3 then 4 else if t = 4 then 5 + n else if t = 5 then 8 else 9
/-- A word's kind. -/
def wkind (w : Int) : Int := if w % 8 = 0 then 1 else if 0 ≤ wnum w ∧ wnum w ≤ wmost (w % 8) then wtag (w % 8) (wnum w) else 0
def wvalue (w : Int) : Int := if wkind w = 0 then 0 else wnum w
/-- Is it one of 64 bits? -/
def IsWd (w : Int) : Prop := 0 ≤ w ∧ w < 18446744073709551616

theorem wput_w {t n : Int} (h0 : 0 ≤ t) (h7 : t ≤ 7) : IsWd (wput t n) := by unfold IsWd wput; omega
theorem wput_tag {t n : Int} (h0 : 0 ≤ t) (h7 : t ≤ 7) : wput t n % 8 = t := by unfold wput; omega
theorem wput_num {t n : Int} (h0 : 0 ≤ t) (h7 : t ≤ 7) (hn : -1152921504606846976 ≤ n) (hn1 : n < 1152921504606846976) : wnum (wput t n) = n := by unfold wnum wput wrap64; omega
theorem wput_of {w : Int} (hw : IsWd w) : wput (w % 8) (wnum w) = w := by unfold IsWd at hw; unfold wnum wput wrap64; omega
theorem wnum_bd (w : Int) : -1152921504606846976 ≤ wnum w ∧ wnum w < 1152921504606846976 := by unfold wnum wrap64; omega
theorem isWd_wf {w : Int} (h : (Lit.int .u64 w).wf = true) : IsWd w := by
  simp only [Lit.wf, IntKind.min, IntKind.max, IntKind.signed, IntKind.bits, Bool.and_eq_true, decide_eq_true_eq] at h
  unfold IsWd
  simp at h
  omega

theorem bits_and7 {w : Int} (hw : IsWd w) : bits .and .u64 w 7 = w % 8 := by
  obtain ⟨h0, h1⟩ := hw
  have h := bits_and_u64_nat w.toNat 7 (by omega) (by omega)
  rw [Int.toNat_of_nonneg h0] at h
  rw [show (7 : Int) = ((7 : Nat) : Int) from rfl, h, nat_mask3]
  omega
theorem bits_put {t n : Int} (h0 : 0 ≤ t) (h7 : t ≤ 7) : bits .or .u64 (IntKind.u64.wrap (IntKind.u64.wrap n * 8)) t = wput t n := by
  have e : IntKind.u64.wrap (IntKind.u64.wrap n * 8) = (n * 8) % 18446744073709551616 := by
    rw [IntKind.wrap_u64, IntKind.wrap_u64]; omega
  rw [e]
  have hb : 0 ≤ (n * 8) % 18446744073709551616 := by omega
  have h := bits_or_u64_nat ((n * 8) % 18446744073709551616).toNat t.toNat (by omega) (by omega)
  rw [Int.toNat_of_nonneg hb, Int.toNat_of_nonneg h0] at h
  rw [h, nat_join 3 _ _ (by omega) (by omega)]
  unfold wput
  omega

theorem wput_is (t n : Int) (w : World) (h0 : 0 ≤ t) (h7 : t ≤ 7) : Calls Try.prog 68 #[.int .i64 t, .int .i64 n] w fun e w' => e = .returned (.int .u64 (wput t n)) ∧ w' = w := by
  have hp := Box.mk (bits_put (n := n) h0 h7)
  go_enter Try.func68, Try.ntmps68
  go_wp2
  go_ret
  exact ⟨by rw [← hp.out]; rfl, rfl⟩
theorem wnumber_is (n : Int) (w : World) : Calls Try.prog 61 #[.int .u64 n] w fun e w' => e = .returned (.int .i64 (wnum n)) ∧ w' = w := by
  go_enter Try.func61, Try.ntmps61
  go_wp2
  go_ret
  exact ⟨rfl, rfl⟩

theorem wsome_no (t n m : Int) (w : World) (h : n < 0 ∨ m < n) : Calls Try.prog 100 #[.int .i64 t, .int .i64 n, .int .i64 m] w fun e w' => e = .returned (.tuple #[.int .u64 0, .iface 97 (.int .i64 2)]) ∧ w' = w := by
  by_cases h0 : n < 0
  · clear h
    go_enter Try.func100, Try.ntmps100
    go_wp2_with fail
    go_ret2
    exact ⟨rfl, rfl⟩
  · have h1 : m < n := by omega
    clear h
    go_enter Try.func100, Try.ntmps100
    go_wp2_with fail
    go_ret2
    exact ⟨rfl, rfl⟩
theorem wsome_yes (t n m : Int) (w : World) (h0 : 0 ≤ n) (h1 : n ≤ m) (ht : 0 ≤ t) (ht7 : t ≤ 7) : Calls Try.prog 100 #[.int .i64 t, .int .i64 n, .int .i64 m] w fun e w' => e = .returned (.tuple #[.int .u64 (wput t n), .nilIface]) ∧ w' = w := by
  go_enter Try.func100, Try.ntmps100
  go_wp2_with (go_at_call 68; refine (wput_is _ _ _ ht ht7).mono ?_; rintro e w' ⟨rfl, rfl⟩)
  go_ret2
  exact ⟨rfl, rfl⟩
theorem cell_no (n : Int) (w : World) (h : n < 0 ∨ 1099511627776 < n) : Calls Try.prog 75 #[.int .i64 n] w fun e w' => e = .returned (.tuple #[.int .u64 0, .iface 97 (.int .i64 2)]) ∧ w' = w := by
  go_enter Try.func75, Try.ntmps75
  go_wp2_with (go_at_call 100; refine (wsome_no _ _ _ _ h).mono ?_; rintro e w' ⟨rfl, rfl⟩)
  go_ret2
  exact ⟨rfl, rfl⟩
theorem cell_yes (n : Int) (w : World) (h0 : 0 ≤ n) (h1 : n ≤ 1099511627776) : Calls Try.prog 75 #[.int .i64 n] w fun e w' => e = .returned (.tuple #[.int .u64 (wput 1 n), .nilIface]) ∧ w' = w := by
  go_enter Try.func75, Try.ntmps75
  go_wp2_with (go_at_call 100; refine (wsome_yes _ _ _ _ h0 h1 (by omega) (by omega)).mono ?_; rintro e w' ⟨rfl, rfl⟩)
  go_ret2
  exact ⟨rfl, rfl⟩
theorem bool_is (b : Bool) (w : World) : Calls Try.prog 95 #[.bool b] w fun e w' => e = .returned (.int .u64 (if b then 11 else 3)) ∧ w' = w := by
  cases b
  all_goals
    go_enter Try.func95, Try.ntmps95
    go_wp2_with (go_at_call 68; refine (wput_is _ _ _ (by omega) (by omega)).mono ?_; rintro e w' ⟨rfl, rfl⟩)
    go_ret
    exact ⟨rfl, rfl⟩
theorem wnil_is (w : World) : Calls Try.prog 19 #[] w fun e w' => e = .returned (.int .u64 4) ∧ w' = w := by
  go_enter Try.func19, Try.ntmps19
  go_wp2_with (go_at_call 68; refine (wput_is _ _ _ (by omega) (by omega)).mono ?_; rintro e w' ⟨rfl, rfl⟩)
  go_ret
  exact ⟨rfl, rfl⟩
theorem wvoid_is (w : World) : Calls Try.prog 24 #[] w fun e w' => e = .returned (.int .u64 12) ∧ w' = w := by
  go_enter Try.func24, Try.ntmps24
  go_wp2_with (go_at_call 68; refine (wput_is _ _ _ (by omega) (by omega)).mono ?_; rintro e w' ⟨rfl, rfl⟩)
  go_ret
  exact ⟨rfl, rfl⟩
theorem wundef_is (w : World) : Calls Try.prog 58 #[] w fun e w' => e = .returned (.int .u64 20) ∧ w' = w := by
  go_enter Try.func58, Try.ntmps58
  go_wp2_with (go_at_call 68; refine (wput_is _ _ _ (by omega) (by omega)).mono ?_; rintro e w' ⟨rfl, rfl⟩)
  go_ret
  exact ⟨rfl, rfl⟩
theorem wkind_is (n : Int) (w : World) (hn : IsWd n) : Calls Try.prog 16 #[.int .u64 n] w fun e w' => e = .returned (.int .i64 (wkind n)) ∧ w' = w := by
  have h7 : n % 8 = 0 ∨ n % 8 = 1 ∨ n % 8 = 2 ∨ n % 8 = 3 ∨ n % 8 = 4 ∨ n % 8 = 5 ∨ n % 8 = 6 ∨ n % 8 = 7 := by omega
  have hb := bits_and7 hn
  clear hn
  rcases h7 with h | h | h | h | h | h | h | h
  · have hk : wkind n = 1 := by unfold wkind; rw [h]; simp
    have HK := Box.mk hk
    rw [h] at hb
    clear hk h
    go_enter Try.func16, Try.ntmps16
    go_wp2_with (go_at_call 61; refine (wnumber_is _ _).mono ?_; rintro e w' ⟨rfl, rfl⟩)
    go_ret
    exact ⟨by rw [HK.out]; rfl, rfl⟩
  · rw [h] at hb
    by_cases h0 : 0 ≤ wnum n
    · by_cases h1 : wnum n ≤ 1099511627776
      · have HK : Box (wkind n = 2) := ⟨by unfold wkind; rw [h]; simp [wmost, wtag, h0, h1]⟩
        clear h
        go_enter Try.func16, Try.ntmps16
        go_wp2_with (go_at_call 61; refine (wnumber_is _ _).mono ?_; rintro e w' ⟨rfl, rfl⟩)
        go_ret
        exact ⟨by rw [HK.out]; rfl, rfl⟩
      · have HK : Box (wkind n = 0) := ⟨by unfold wkind; rw [h]; simp [wmost]; omega⟩
        clear h
        go_enter Try.func16, Try.ntmps16
        go_wp2_with (go_at_call 61; refine (wnumber_is _ _).mono ?_; rintro e w' ⟨rfl, rfl⟩)
        go_ret
        exact ⟨by rw [HK.out]; rfl, rfl⟩
    · have HK : Box (wkind n = 0) := ⟨by unfold wkind; rw [h]; simp [wmost]; omega⟩
      clear h
      go_enter Try.func16, Try.ntmps16
      go_wp2_with (go_at_call 61; refine (wnumber_is _ _).mono ?_; rintro e w' ⟨rfl, rfl⟩)
      go_ret
      exact ⟨by rw [HK.out]; rfl, rfl⟩
  · rw [h] at hb
    by_cases h0 : 0 ≤ wnum n
    · by_cases h1 : wnum n ≤ 255
      · have HK : Box (wkind n = 3) := ⟨by unfold wkind; rw [h]; simp [wmost, wtag, h0, h1]⟩
        clear h
        go_enter Try.func16, Try.ntmps16
        go_wp2_with (go_at_call 61; refine (wnumber_is _ _).mono ?_; rintro e w' ⟨rfl, rfl⟩)
        go_ret
        exact ⟨by rw [HK.out]; rfl, rfl⟩
      · have HK : Box (wkind n = 0) := ⟨by unfold wkind; rw [h]; simp [wmost]; omega⟩
        clear h
        go_enter Try.func16, Try.ntmps16
        go_wp2_with (go_at_call 61; refine (wnumber_is _ _).mono ?_; rintro e w' ⟨rfl, rfl⟩)
        go_ret
        exact ⟨by rw [HK.out]; rfl, rfl⟩
    · have HK : Box (wkind n = 0) := ⟨by unfold wkind; rw [h]; simp [wmost]; omega⟩
      clear h
      go_enter Try.func16, Try.ntmps16
      go_wp2_with (go_at_call 61; refine (wnumber_is _ _).mono ?_; rintro e w' ⟨rfl, rfl⟩)
      go_ret
      exact ⟨by rw [HK.out]; rfl, rfl⟩
  · rw [h] at hb
    by_cases h0 : 0 ≤ wnum n
    · by_cases h1 : wnum n ≤ 1
      · have HK : Box (wkind n = 4) := ⟨by unfold wkind; rw [h]; simp [wmost, wtag, h0, h1]⟩
        clear h
        go_enter Try.func16, Try.ntmps16
        go_wp2_with (go_at_call 61; refine (wnumber_is _ _).mono ?_; rintro e w' ⟨rfl, rfl⟩)
        go_ret
        exact ⟨by rw [HK.out]; rfl, rfl⟩
      · have HK : Box (wkind n = 0) := ⟨by unfold wkind; rw [h]; simp [wmost]; omega⟩
        clear h
        go_enter Try.func16, Try.ntmps16
        go_wp2_with (go_at_call 61; refine (wnumber_is _ _).mono ?_; rintro e w' ⟨rfl, rfl⟩)
        go_ret
        exact ⟨by rw [HK.out]; rfl, rfl⟩
    · have HK : Box (wkind n = 0) := ⟨by unfold wkind; rw [h]; simp [wmost]; omega⟩
      clear h
      go_enter Try.func16, Try.ntmps16
      go_wp2_with (go_at_call 61; refine (wnumber_is _ _).mono ?_; rintro e w' ⟨rfl, rfl⟩)
      go_ret
      exact ⟨by rw [HK.out]; rfl, rfl⟩
  · rw [h] at hb
    by_cases h0 : 0 ≤ wnum n
    · by_cases h1 : wnum n ≤ 2
      · have HK : Box (wkind n = 5 + wnum n) := ⟨by unfold wkind; rw [h]; simp [wmost, wtag, h0, h1]⟩
        clear h
        go_enter Try.func16, Try.ntmps16
        go_wp2_with (go_at_call 61; refine (wnumber_is _ _).mono ?_; rintro e w' ⟨rfl, rfl⟩)
        go_ret
        exact ⟨by rw [HK.out]; rfl, rfl⟩
      · have HK : Box (wkind n = 0) := ⟨by unfold wkind; rw [h]; simp [wmost]; omega⟩
        clear h
        go_enter Try.func16, Try.ntmps16
        go_wp2_with (go_at_call 61; refine (wnumber_is _ _).mono ?_; rintro e w' ⟨rfl, rfl⟩)
        go_ret
        exact ⟨by rw [HK.out]; rfl, rfl⟩
    · have HK : Box (wkind n = 0) := ⟨by unfold wkind; rw [h]; simp [wmost]; omega⟩
      clear h
      go_enter Try.func16, Try.ntmps16
      go_wp2_with (go_at_call 61; refine (wnumber_is _ _).mono ?_; rintro e w' ⟨rfl, rfl⟩)
      go_ret
      exact ⟨by rw [HK.out]; rfl, rfl⟩
  · rw [h] at hb
    by_cases h0 : 0 ≤ wnum n
    · by_cases h1 : wnum n ≤ 4095
      · have HK : Box (wkind n = 8) := ⟨by unfold wkind; rw [h]; simp [wmost, wtag, h0, h1]⟩
        clear h
        go_enter Try.func16, Try.ntmps16
        go_wp2_with (go_at_call 61; refine (wnumber_is _ _).mono ?_; rintro e w' ⟨rfl, rfl⟩)
        go_ret
        exact ⟨by rw [HK.out]; rfl, rfl⟩
      · have HK : Box (wkind n = 0) := ⟨by unfold wkind; rw [h]; simp [wmost]; omega⟩
        clear h
        go_enter Try.func16, Try.ntmps16
        go_wp2_with (go_at_call 61; refine (wnumber_is _ _).mono ?_; rintro e w' ⟨rfl, rfl⟩)
        go_ret
        exact ⟨by rw [HK.out]; rfl, rfl⟩
    · have HK : Box (wkind n = 0) := ⟨by unfold wkind; rw [h]; simp [wmost]; omega⟩
      clear h
      go_enter Try.func16, Try.ntmps16
      go_wp2_with (go_at_call 61; refine (wnumber_is _ _).mono ?_; rintro e w' ⟨rfl, rfl⟩)
      go_ret
      exact ⟨by rw [HK.out]; rfl, rfl⟩
  · rw [h] at hb
    by_cases h0 : 0 ≤ wnum n
    · by_cases h1 : wnum n ≤ 255
      · have HK : Box (wkind n = 9) := ⟨by unfold wkind; rw [h]; simp [wmost, wtag, h0, h1]⟩
        clear h
        go_enter Try.func16, Try.ntmps16
        go_wp2_with (go_at_call 61; refine (wnumber_is _ _).mono ?_; rintro e w' ⟨rfl, rfl⟩)
        go_ret
        exact ⟨by rw [HK.out]; rfl, rfl⟩
      · have HK : Box (wkind n = 0) := ⟨by unfold wkind; rw [h]; simp [wmost]; omega⟩
        clear h
        go_enter Try.func16, Try.ntmps16
        go_wp2_with (go_at_call 61; refine (wnumber_is _ _).mono ?_; rintro e w' ⟨rfl, rfl⟩)
        go_ret
        exact ⟨by rw [HK.out]; rfl, rfl⟩
    · have HK : Box (wkind n = 0) := ⟨by unfold wkind; rw [h]; simp [wmost]; omega⟩
      clear h
      go_enter Try.func16, Try.ntmps16
      go_wp2_with (go_at_call 61; refine (wnumber_is _ _).mono ?_; rintro e w' ⟨rfl, rfl⟩)
      go_ret
      exact ⟨by rw [HK.out]; rfl, rfl⟩
  · have hk : wkind n = 0 := by unfold wkind; rw [h]; simp [wmost]; omega
    have HK := Box.mk hk
    rw [h] at hb
    clear hk h
    go_enter Try.func16, Try.ntmps16
    go_wp2_with (go_at_call 61; refine (wnumber_is _ _).mono ?_; rintro e w' ⟨rfl, rfl⟩)
    go_ret
    exact ⟨by rw [HK.out]; rfl, rfl⟩

theorem wkind_bd (n : Int) : 0 ≤ wkind n ∧ wkind n ≤ 9 := by
  have h7 : n % 8 = 0 ∨ n % 8 = 1 ∨ n % 8 = 2 ∨ n % 8 = 3 ∨ n % 8 = 4 ∨ n % 8 = 5 ∨ n % 8 = 6 ∨ n % 8 = 7 := by omega
  unfold wkind wtag wmost
  rcases h7 with h | h | h | h | h | h | h | h
  all_goals
    rw [h]
    simp only [reduceCtorEq, Int.reduceEq, if_true, if_false, ite_true, ite_false]
    first | omega | (split <;> omega)

theorem wvalue_is (n : Int) (w : World) (hn : IsWd n) : Calls Try.prog 53 #[.int .u64 n] w fun e w' => e = .returned (.int .i64 (wvalue n)) ∧ w' = w := by
  have hb := wkind_bd n
  have HV : Box (wvalue n = if wkind n = 0 then 0 else wnum n) := ⟨rfl⟩
  have H := Box.mk (wkind_is n w hn)
  clear hn
  generalize wkind n = k at hb HV H
  have hk : k = 0 ∨ k = 1 ∨ k = 2 ∨ k = 3 ∨ k = 4 ∨ k = 5 ∨ k = 6 ∨ k = 7 ∨ k = 8 ∨ k = 9 := by omega
  clear hb
  rcases hk with rfl | rfl | rfl | rfl | rfl | rfl | rfl | rfl | rfl | rfl
  all_goals
    go_enter Try.func53, Try.ntmps53
    go_wp2_with (first | (go_at_call 16; refine H.out.mono ?_; rintro e w' ⟨rfl, rfl⟩) | (go_at_call 61; refine (wnumber_is _ _).mono ?_; rintro e w' ⟨rfl, rfl⟩))
    go_ret
    exact ⟨by rw [HV.out]; rfl, rfl⟩


end Go.Proofs.Ytbjlapfcnldpoaa

/- The heap's small functions by contracts: sizes, head, word, opened, class, place, at. -/
namespace Go.Proofs.Ytbjlapfcnldpoaa
set_option linter.unusedVariables false
set_option linter.unusedSimpArgs false
open Go.RowKit

theorem bits_or_small (a b : Nat) (ha : a < 4294967296) (hb : b < 4294967296) : bits .or .i64 (a : Int) (b : Int) = ((a ||| b : Nat) : Int) := by
  have hx : a ||| b < 2 ^ 32 := Nat.or_lt_two_pow (by omega) (by omega)
  have h1 : (BitVec.ofInt 64 (a : Int)).toNat = a := by
    rw [BitVec.ofInt_natCast, BitVec.toNat_ofNat]; exact Nat.mod_eq_of_lt (by omega)
  have h2 : (BitVec.ofInt 64 (b : Int)).toNat = b := by
    rw [BitVec.ofInt_natCast, BitVec.toNat_ofNat]; exact Nat.mod_eq_of_lt (by omega)
  show IntKind.i64.wrap ((BitVec.ofInt 64 (a : Int) ||| BitVec.ofInt 64 (b : Int)).toNat : Int) = _
  rw [BitVec.toNat_or, h1, h2]
  generalize a ||| b = x at hx
  simp only [IntKind.wrap]
  simp [IntKind.bits, IntKind.signed]
  omega
theorem or_add (x y k : Nat) (hx : x < 2 ^ k) : x ||| (y * 2 ^ k) = x + y * 2 ^ k := by
  rw [Nat.or_comm, nat_join k _ _ (by simp) hx, Nat.add_comm]

/-- A header, as a value. -/
def hval (f t m n : Nat) : Value := .agg #[.int .i64 (f : Int), .int .i64 (t : Int), .int .i64 (m : Int), .int .i64 (n : Int)]

theorem sizes_is (w : World) : Calls Try.prog 55 #[] w fun e w' => e = .returned (.agg #[.int .i64 3, .int .i64 7, .int .i64 31, .int .i64 127]) ∧ Keeps (fun _ => False) w w' := by
  go_enter Try.func55, Try.ntmps55
  go_wp2
  exact bodyPost_ret (v := .agg #[.int .i64 3, .int .i64 7, .int .i64 31, .int .i64 127]) (by simp [results, Try.results55, go_sem]) rfl ⟨rfl, (Keeps.refl _ _).alloc _⟩

set_option maxRecDepth 100000 in
theorem head_is (c l : Nat) (w : World) (hc : c ≤ 100) (hl : l ≤ 100) : Calls Try.prog 70 #[.int .i64 c, .int .i64 l] w fun e w' => e = .returned (.int .i64 (thead c l : Nat)) ∧ w' = w := by
  obtain ⟨h, hh⟩ : ∃ h, thead c l = h := ⟨_, rfl⟩
  rw [hh]
  unfold thead at hh
  have h1 : 3 * (4 * (c : Int) + (l : Int)) = (h : Int) := by omega
  clear hh
  go_enter Try.func70, Try.ntmps70
  go_wp2
  go_ret
  exact ⟨rfl, rfl⟩

set_option maxRecDepth 100000 in
theorem hword_is (f t m n : Nat) (w : World) (hf : f < 4) (ht : t < 16) (hm : m < 4) (hn : n < 256) :
    Calls Try.prog 74 #[hval f t m n] w fun e w' => e = .returned (.int .u64 (hdr f t m n : Nat)) ∧ Keeps (fun _ => False) w w' := by
  have e1 : bits .or .i64 (t : Int) ((f : Int) * 16) = ((t + f * 16 : Nat) : Int) := by
    have := bits_or_small t (f * 16) (by omega) (by omega)
    rw [or_add t f 4 (by omega)] at this
    rw [← this]
    congr 1
  have e2 : bits .or .i64 ((t + f * 16 : Nat) : Int) ((m : Int) * 64) = ((t + f * 16 + m * 64 : Nat) : Int) := by
    have := bits_or_small (t + f * 16) (m * 64) (by omega) (by omega)
    rw [or_add (t + f * 16) m 6 (by omega)] at this
    rw [← this]
    congr 1
  have e3 : bits .or .i64 ((t + f * 16 + m * 64 : Nat) : Int) ((n : Int) * 256) = ((hdr f t m n : Nat) : Int) := by
    have := bits_or_small (t + f * 16 + m * 64) (n * 256) (by omega) (by omega)
    rw [or_add (t + f * 16 + m * 64) n 8 (by omega)] at this
    have e : hdr f t m n = t + f * 16 + m * 64 + n * 256 := by unfold hdr; omega
    rw [e]
    rw [← this]
    congr 1
  have hb : hdr f t m n < 65536 := by unfold hdr; omega
  generalize hdr f t m n = h at *
  generalize t + f * 16 + m * 64 = x2 at *
  generalize t + f * 16 = x1 at *
  unfold hval
  go_enter Try.func74, Try.ntmps74
  go_wp2
  go_ret
  exact ⟨rfl, (Keeps.refl _ _).alloc _⟩

set_option maxRecDepth 100000 in
theorem opened_is (h : Nat) (w : World) (hh : h < 65536) :
    Calls Try.prog 102 #[.int .u64 h] w fun e w' => e = .returned (hval (hform h) (htag h) (hmark h) (hn h)) ∧ Keeps (fun _ => False) w w' := by
  have a1 : bits .and .u64 ((h : Int) / 16) 3 = (hform h : Int) := by
    have := bits_and_u64_nat (h / 16) 3 (by omega) (by omega)
    rw [nat_mask2] at this
    unfold hform
    rw [← this]
    congr 1
  have a2 : bits .and .u64 (h : Int) 15 = (htag h : Int) := by
    have := bits_and_u64_nat h 15 (by omega) (by omega)
    rw [show h &&& 15 = h % 16 from Nat.and_two_pow_sub_one_eq_mod h 4] at this
    unfold htag
    rw [← this]
    congr 1
  have a3 : bits .and .u64 ((h : Int) / 64) 3 = (hmark h : Int) := by
    have := bits_and_u64_nat (h / 64) 3 (by omega) (by omega)
    rw [nat_mask2] at this
    unfold hmark
    rw [← this]
    congr 1
  have a4 : bits .and .u64 ((h : Int) / 256) 255 = (hn h : Int) := by
    have := bits_and_u64_nat (h / 256) 255 (by omega) (by omega)
    rw [show h / 256 &&& 255 = h / 256 % 256 from Nat.and_two_pow_sub_one_eq_mod (h / 256) 8] at this
    unfold hn
    rw [← this]
    congr 1
  have b1 : hform h < 4 := by unfold hform; omega
  have b2 : htag h < 16 := by unfold htag; omega
  have b3 : hmark h < 4 := by unfold hmark; omega
  have b4 : hn h < 256 := by unfold hn; omega
  generalize hform h = f at *
  generalize htag h = t at *
  generalize hmark h = m at *
  generalize hn h = n at *
  unfold hval
  go_enter Try.func102, Try.ntmps102
  go_wp2
  exact bodyPost_ret (v := .agg #[.int .i64 (f : Int), .int .i64 (t : Int), .int .i64 (m : Int), .int .i64 (n : Int)]) (by simp [results, Try.results102, go_sem]) rfl ⟨rfl, (Keeps.refl _ _).alloc _⟩

end Go.Proofs.Ytbjlapfcnldpoaa

