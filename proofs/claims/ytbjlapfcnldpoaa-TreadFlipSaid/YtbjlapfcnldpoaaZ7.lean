/- Part 7 of 11 of this proof's own texts, joined in build order by a program. -/
import Derived.Test.YtbjlapfcnldpoaaZ6
import Derived.LaidEqlPtr
import Derived.Laws.IdiomRangeMap
import Derived.Laws.Entries
import Derived.Deep.AppendLies
import Derived.Deep.QuietTactic
import Derived.Deep.RegionHeld3
import Derived.Carry
import Derived.BigQuiet
/- Sets of things: a map from pointers to bools that the call makes. -/
namespace Go.Proofs.Ytbjlapfcnldpoaa
set_option linter.unusedVariables false
set_option linter.unusedSimpArgs false
open Go.RowKit

def pkey (a : Nat) : Value := .pointer (some ⟨a, 0, none⟩)
def pents : List Nat → Nat → List MapEntry
  | [], _ => []
  | a :: l, i => ⟨pkey a, .bool true, i⟩ :: pents l (i + 1)
theorem pents_len : ∀ (l : List Nat) (i : Nat), (pents l i).length = l.length
  | [], _ => rfl
  | a :: l, i => by simp [pents, pents_len l]
theorem pents_app (x : Nat) : ∀ (l : List Nat) (i : Nat), pents (l ++ [x]) i = pents l i ++ [⟨pkey x, .bool true, i + l.length⟩]
  | [], i => rfl
  | a :: l, i => by
    simp only [List.cons_append, pents, pents_app x l, List.length_cons]
    rw [show i + 1 + l.length = i + (l.length + 1) from by omega]
theorem pents_mem {e : MapEntry} : ∀ {l : List Nat} {i : Nat}, e ∈ pents l i → ∃ a ∈ l, e.key = pkey a ∧ e.val = .bool true ∧ i ≤ e.born ∧ e.born < i + l.length
  | [], i, h => by cases h
  | a :: l, i, h => by
    rcases List.mem_cons.1 h with rfl | h
    · exact ⟨a, List.mem_cons_self, rfl, rfl, Nat.le_refl _, by simp⟩
    · obtain ⟨x, h1, h2, h3, h4, h5⟩ := pents_mem h
      exact ⟨x, List.mem_cons_of_mem _ h1, h2, h3, by omega, by simp only [List.length_cons]; omega⟩

/-- It is a thing's block. -/
def IsT (w : World) (a : Nat) : Prop := ∃ cs, w.heap[a]? = some (.cells cs 69 (0, 0))
/-- The set in block b has l, in this order. -/
structure IsSet (w : World) (b : Nat) (l : List Nat) : Prop where
  map : ∃ es : Array MapEntry, w.heap[b]? = some (.map es l.length) ∧ es.toList = pents l 0
  nd : l.Nodup
  blk : ∀ a ∈ l, IsT w a
theorem IsT.keeps {w w' : World} {a : Nat} {S : Nat → Prop} (h : IsT w a) (k : Keeps S w w') (hs : ¬ S a) : IsT w' a := by
  obtain ⟨cs, h⟩ := h
  exact ⟨cs, k.heap h hs⟩
theorem IsSet.keeps {w w' : World} {b : Nat} {l : List Nat} {S : Nat → Prop} (h : IsSet w b l) (k : Keeps S w w') (hs : ¬ S b) (hl : ∀ a ∈ l, ¬ S a) : IsSet w' b l := by
  obtain ⟨⟨es, h1, h2⟩, h3, h4⟩ := h
  exact ⟨⟨es, k.heap h1 hs, h2⟩, h3, fun a ha => (h4 a ha).keeps k (hl a ha)⟩
theorem IsSet.made (w : World) : IsSet (w.alloc (.map #[] 0)) w.heap.size [] := ⟨⟨#[], heap_alloc_new w _, rfl⟩, List.nodup_nil, fun a ha => by cases ha⟩

theorem thing_size : (Try.prog.info? 69).map (fun i => decide (i.size ≠ 0)) = some true := by kernel_rfl
theorem zeroB (w : World) : (zeroValue 4).run Try.prog w = .ok (.bool false) w := by kernel_rfl

theorem equal_same (w : World) (a : Nat) : (Op.equal 56 (pkey a) (pkey a)).run Try.prog w = .ok true w := by
  obtain ⟨i, hi, hz⟩ := Option.map_eq_some_iff.1 thing_size
  have h : ∀ d : Nat, (Op.equalIn (d + 1) 56 (pkey a) (pkey a)).run Try.prog w = .ok true w := fun d => by
    simp [Op.equalIn, pkey, run_underlying Try.underlying56, sizeOf, typeInfo, hi, run_sameAddr_same]
  simp [Op.equal, Op.maxDepth, h 9999]
theorem equal_other (w : World) {a b : Nat} (hne : a ≠ b) (ha : IsT w a) (hb : IsT w b) : (Op.equal 56 (pkey a) (pkey b)).run Try.prog w = .ok false w := by
  obtain ⟨i, hi, hz⟩ := Option.map_eq_some_iff.1 thing_size
  obtain ⟨ca, ha⟩ := ha
  obtain ⟨cb, hb⟩ := hb
  have hsz : i.size ≠ 0 := by simpa using hz
  have hn : (⟨a, 0, none⟩ : Addr) ≠ ⟨b, 0, none⟩ := fun e => hne (by injection e)
  have h : ∀ d : Nat, (Op.equalIn (d + 1) 56 (pkey a) (pkey b)).run Try.prog w = .ok false w := fun d => by
    simp [Op.equalIn, pkey, run_underlying Try.underlying56, sizeOf, typeInfo, hi, hsz, run_sameAddr_other w hn ha hb]
  simp [Op.equal, Op.maxDepth, h 9999]

theorem find_yes (w : World) {t : Nat} : ∀ (l : List Nat) (i j : Nat), t ∈ l → (∀ a ∈ l, IsT w a) → ∃ q, (Instr.findAsking 56 (pkey t) (pents l i) j).run Try.prog w = .ok (some (q, .bool true)) w
  | [], i, j, h, _ => by cases h
  | a :: l, i, j, h, hb => by
    by_cases e : t = a
    · subst e
      exact ⟨j, by simp [pents, Instr.findAsking, Sem.run_bind, equal_same, Result.andThen]⟩
    · have hm : t ∈ l := (List.mem_cons.1 h).resolve_left e
      obtain ⟨q, hq⟩ := find_yes w l (i + 1) (j + 1) hm (fun x hx => hb x (List.mem_cons_of_mem _ hx))
      have := equal_other w e (hb t h) (hb a List.mem_cons_self)
      exact ⟨q, by simp [pents, Instr.findAsking, Sem.run_bind, this, Result.andThen, hq]⟩
theorem find_no (w : World) {t : Nat} (ht : IsT w t) : ∀ (l : List Nat) (i j : Nat), t ∉ l → (∀ a ∈ l, IsT w a) → (Instr.findAsking 56 (pkey t) (pents l i) j).run Try.prog w = .ok none w
  | [], i, j, _, _ => rfl
  | a :: l, i, j, h, hb => by
    have e : t ≠ a := fun e => h (by rw [e]; exact List.mem_cons_self)
    have := equal_other w e ht (hb a List.mem_cons_self)
    simp [pents, Instr.findAsking, Sem.run_bind, this, Result.andThen, find_no w ht l (i + 1) (j + 1) (fun hm => h (List.mem_cons_of_mem _ hm)) (fun x hx => hb x (List.mem_cons_of_mem _ hx))]

theorem findKey_is (w : World) {t : Nat} (ht : IsT w t) (l : List Nat) (hb : ∀ a ∈ l, IsT w a) : ∃ r, (Instr.findKey 56 (pkey t) (pents l 0)).run Try.prog w = .ok r w ∧ (t ∈ l → ∃ q, r = some (q, .bool true)) ∧ (t ∉ l → r = none) := by
  have hn : ∀ (td : TypeId) (l : List Nat) (i : Nat), l ≠ [] → Instr.findNow (.pointer td) (pkey t) (pents l i) 0 = none := by
    intro td l i hl
    cases l with
    | nil => exact absurd rfl hl
    | cons a l => rfl
  unfold Instr.findKey
  simp only [Sem.run_bind, run_underlying Try.underlying56, Result.andThen]
  by_cases hl : l = []
  · subst hl
    exact ⟨none, rfl, (fun h => nomatch h), fun _ => rfl⟩
  · rw [hn _ l 0 hl]
    by_cases hm : t ∈ l
    · obtain ⟨q, hq⟩ := find_yes w l 0 0 hm hb
      exact ⟨_, hq, fun _ => ⟨q, rfl⟩, fun h => absurd hm h⟩
    · exact ⟨_, find_no w ht l 0 0 hm hb, fun h => absurd h hm, fun _ => rfl⟩

theorem lt_of_heap' {w : World} {b : Nat} {o : Obj} (h : w.heap[b]? = some o) : b < w.heap.size := (Array.getElem?_eq_some_iff.1 h).1
/-- 'out[t]'. -/
theorem set_look (w : World) {b t : Nat} {l : List Nat} (h : IsSet w b l) (ht : IsT w t) : (Instr.lookup 64 (.map (some b)) (pkey t) false).run Try.prog w = .ok (.bool (decide (t ∈ l))) w := by
  obtain ⟨⟨es, h1, h2⟩, h3, h4⟩ := h
  obtain ⟨r, hr, hy, hn⟩ := findKey_is w ht l h4
  have hck : ∀ e : Bool, (Instr.checkKey e 10000 56 (pkey t)).run Try.prog w = .ok () w := fun e => by
    unfold Instr.checkKey
    simp [Sem.run_bind, run_underlying Try.underlying56, Result.andThen, pkey]
  by_cases hm : t ∈ l
  · obtain ⟨q, rfl⟩ := hy hm
    simp [Instr.lookup, Sem.run_bind, run_underlying Try.underlying64, Result.andThen, getObj, Sem.run, h1, hck, h2, hr, hm]
  · have := hn hm
    subst this
    simp [Instr.lookup, Sem.run_bind, run_underlying Try.underlying64, Result.andThen, getObj, Sem.run, h1, hck, h2, hr, hm, zeroB]

/-- 'out[t] = true', of one that isn't in it. -/
theorem set_put (w : World) {b t : Nat} {l : List Nat} (h : IsSet w b l) (ht : IsT w t) (hm : t ∉ l) :
    ∃ w', (Instr.mapUpdate 64 (.map (some b)) (pkey t) (.bool true)).run Try.prog w = .ok () w' ∧ IsSet w' b (l ++ [t]) ∧ Keeps (fun z => z = b) w w' := by
  obtain ⟨⟨es, h1, h2⟩, h3, h4⟩ := h
  obtain ⟨r, hr, hy, hn⟩ := findKey_is w ht l h4
  have := hn hm
  subst this
  have hck : (Instr.checkKey false 10000 56 (pkey t)).run Try.prog w = .ok () w := by
    unfold Instr.checkKey
    simp [Sem.run_bind, run_underlying Try.underlying56, Result.andThen, pkey]
  have hlt := lt_of_heap' h1
  refine ⟨{ w with heap := w.heap.setIfInBounds b (.map (es.push ⟨pkey t, .bool true, l.length⟩) (l.length + 1)) }, ?_, ⟨⟨es.push ⟨pkey t, .bool true, l.length⟩, ?_, ?_⟩, ?_, ?_⟩, ⟨rfl, rfl, rfl, by simp, fun k hk hs => ?_⟩⟩
  · simp [Instr.mapUpdate, Sem.run_bind, run_underlying Try.underlying64, Result.andThen, getObj, setObj, Sem.run, h1, hck, h2, hr]
  · simp [hlt]
  · rw [Array.toList_push, h2, pents_app, Nat.zero_add]
  · refine List.nodup_append.2 ⟨h3, by simp, fun x hx y hy e => ?_⟩
    rw [List.mem_singleton.1 hy] at e
    exact hm (e ▸ hx)
  · intro a ha
    have hT : IsT w a := by
      rcases List.mem_append.1 ha with ha | ha
      · exact h4 a ha
      · rw [List.mem_singleton.1 ha]; exact ht
    obtain ⟨cs, hcs⟩ := hT
    have hne : a ≠ b := fun e => by rw [e, h1] at hcs; cases hcs
    exact ⟨cs, by simp [Ne.symm hne, hcs]⟩
  · simp [Ne.symm hs]

/-- The iterator in block r has k of the set's entries yet to hand out. -/
structure IsIt (w : World) (r b : Nat) (l : List Nat) (k : Nat) : Prop where
  h : ∃ (es : Array MapEntry) (seen : Array Nat), w.heap[b]? = some (.map es l.length) ∧ es.toList = pents l 0 ∧ w.heap[r]? = some (.mapIter (some b) l.length seen l.length) ∧ (leftOf es seen).size = k
theorem IsIt.keeps {w w' : World} {r b k : Nat} {l : List Nat} {S : Nat → Prop} (h : IsIt w r b l k) (kk : Keeps S w w') (hb : ¬ S b) (hr : ¬ S r) : IsIt w' r b l k := by
  obtain ⟨es, seen, h1, h2, h3, h4⟩ := h.h
  exact ⟨es, seen, kk.heap h1 hb, h2, kk.heap h3 hr, h4⟩
/-- 'range out'. -/
theorem set_range (w : World) {b : Nat} {l : List Nat} (h : IsSet w b l) :
    (Instr.range 64 (.map (some b))).run Try.prog w = .ok (.pointer (some ⟨w.heap.size, 0, none⟩)) (w.alloc (.mapIter (some b) l.length #[] l.length)) ∧ IsIt (w.alloc (.mapIter (some b) l.length #[] l.length)) w.heap.size b l l.length := by
  obtain ⟨⟨es, h1, h2⟩, -, -⟩ := h
  refine ⟨run_range_map w _ _ _ b es l.length Try.underlying64 h1, ⟨es, #[], ?_, h2, heap_alloc_new w _, ?_⟩⟩
  · rw [heap_alloc_old w _ (lt_of_heap' h1)]; exact h1
  · have : leftOf es #[] = es := by unfold leftOf; exact Array.filter_eq_self.2 (fun x _ => by simp)
    rw [this, ← Array.length_toList, h2, pents_len]
theorem pents_born_nd : ∀ (l : List Nat) (i : Nat), ((pents l i).map (·.born)).Nodup
  | [], _ => List.nodup_nil
  | a :: l, i => by
    refine List.nodup_cons.2 ⟨fun hm => ?_, pents_born_nd l (i + 1)⟩
    obtain ⟨e, he, hb⟩ := List.mem_map.1 hm
    obtain ⟨-, -, -, -, h4, -⟩ := pents_mem he
    have hb' : e.born = i := hb
    omega
/-- The next one. -/
theorem set_next (w : World) (ty : TypeId) {r b k : Nat} {l : List Nat} (h : IsIt w r b l k) (hrb : r ≠ b) :
    (k = 0 ∧ (Instr.next (.pointer (some ⟨r, 0, none⟩)) false ty).run Try.prog w = .ok (.tuple #[.bool false]) w) ∨
    ∃ a ∈ l, ∃ w' k', k' < k ∧ (Instr.next (.pointer (some ⟨r, 0, none⟩)) false ty).run Try.prog w = .ok (.tuple #[.bool true, pkey a, .bool true]) w' ∧ (Instr.entry (.pointer (some ⟨r, 0, none⟩))).run Try.prog w' = .ok (.tuple #[pkey a, .bool true]) w' ∧ IsIt w' r b l k' ∧ Keeps (fun z => z = r) w w' := by
  obtain ⟨es, seen, h1, h2, h3, h4⟩ := h.h
  have hold : ∀ x ∈ es.toList, x.born < l.length := fun x hx => by
    rw [h2] at hx
    obtain ⟨-, -, -, -, -, h⟩ := pents_mem hx
    omega
  have hlr := lt_of_heap' h3
  have hlb := lt_of_heap' h1
  simp only [Instr.next, getObj, Sem.run_bind, Sem.run, h3, h1, Result.andThen, next_test_false seen es l.length l.length hold (Nat.le_refl _), Bool.false_eq_true, if_false]
  have hmemL : ∀ x ∈ (leftOf es seen).toList, x.born < l.length := fun x hx => hold x (mem_left hx).1
  have hsh := fun e he => left_shrinks es seen e he
  have hin : ∀ x ∈ (leftOf es seen).toList, x ∈ es.toList := fun x hx => (mem_left hx).1
  show (_ ∧ _) ∨ _
  unfold leftOf at h4 hmemL hsh hin
  generalize Array.filter (fun e => !seen.contains e.born) es = L at h4 hmemL hsh hin ⊢
  have e1 : L.filter (fun x => decide (x.born < l.length)) = L := Array.filter_eq_self.2 (fun x hx => by simpa using hmemL x (by simpa using hx))
  have e2 : L.filter (fun x => decide (x.born ≥ l.length)) = #[] := by
    rw [Array.filter_eq_empty_iff]
    intro x hx
    have := hmemL x (by simpa using hx)
    simp
    omega
  simp only [e1, e2, Array.append_empty]
  by_cases h0 : L.size = 0
  · left
    have : L = #[] := Array.eq_empty_of_size_eq_zero h0
    subst this
    refine ⟨by simpa using h4.symm, ?_⟩
    simp [choose, Sem.run, Question.forced]
  · right
    have hne : L.isEmpty = false := by simp [Array.isEmpty, h0]
    simp only [hne, Bool.false_eq_true, if_false, Array.empty_append, Array.size_map]
    have hch : ∃ (j : Nat) (w1 : World), j < L.size ∧ Keeps (fun _ => False) w w1 ∧ w1.heap = w.heap ∧ (choose (Question.mapNext L.size)).run Try.prog w = .ok j w1 := by
      by_cases hf : L.size ≤ 1
      · exact ⟨0, w, by omega, Keeps.refl _ w, rfl, by simp [choose, Sem.run, Question.forced, hf]⟩
      · exact ⟨_, w.drew, Nat.mod_lt _ (by omega), (Keeps.refl (fun _ => False) w).drewN 1, rfl, by
          simp only [choose, Sem.run, Question.forced, decide_eq_true_eq, hf, if_false, Question.cut]
          rfl⟩
    obtain ⟨j, w1, hj, hk1, hh1, hrun⟩ := hch
    have hLm : L[j] ∈ L.toList := by simp
    have hes := hin L[j] hLm
    rw [h2] at hes
    obtain ⟨a, ha, hkey, hval, -, -⟩ := pents_mem hes
    have hset : (setObj r (.mapIter (some b) l.length (seen.push L[j].born) l.length)).run Try.prog w1 = .ok () { w1 with heap := w1.heap.setIfInBounds r (.mapIter (some b) l.length (seen.push L[j].born) l.length) } := by
      simp only [setObj, Sem.run, hh1, h3]
    have hbn : ({ w1 with heap := w1.heap.setIfInBounds r (.mapIter (some b) l.length (seen.push L[j].born) l.length) } : World).heap[b]? = some (.map es l.length) := by
      show (w1.heap.setIfInBounds r _)[b]? = _
      rw [hh1]
      simp [hrb, h1]
    have hrn : ({ w1 with heap := w1.heap.setIfInBounds r (.mapIter (some b) l.length (seen.push L[j].born) l.length) } : World).heap[r]? = some (.mapIter (some b) l.length (seen.push L[j].born) l.length) := by
      show (w1.heap.setIfInBounds r _)[r]? = _
      rw [hh1]
      simp [hlr]
    refine ⟨a, ha, _, _, ?_, ?_, ?_, ⟨es, _, hbn, h2, hrn, rfl⟩, ⟨hk1.os, hk1.tape, hk1.output, by simpa using hk1.size, fun q hq hs => ?_⟩⟩
    · rw [← h4]
      exact hsh L[j] hLm
    · simp only [hrun, Array.getElem?_map, Array.getElem?_eq_getElem hj, Option.map_some, Sem.run_bind, hset, Result.andThen]
      rw [hkey, hval]
      rfl
    · have hf : es.find? (·.born == L[j].born) = some L[j] := by
        rw [← Array.find?_toList]
        exact find_born L[j] es.toList (by rw [h2]; exact pents_born_nd l 0) (hin L[j] hLm)
      simp only [Instr.entry, getObj, Sem.run_bind, Sem.run, hrn, hbn, Result.andThen, Array.back?_push, bne_self_eq_false, Bool.false_eq_true, if_false, hf]
      rw [hkey, hval]
      rfl
    · show (w1.heap.setIfInBounds r _)[q]? = _
      rw [hh1]
      simp [Ne.symm hs]

end Go.Proofs.Ytbjlapfcnldpoaa

/- The closure put, by its contract. -/
namespace Go.Proofs.Ytbjlapfcnldpoaa
set_option linter.unusedVariables false
set_option linter.unusedSimpArgs false
open Go.RowKit

theorem info_ptr : (Try.prog.info? 56).map (fun i => (i.zero, i.size, i.bytes)) = some (some (.pointer none), 1, 8) := by kernel_rfl

theorem Keeps.own2 {S : Nat → Prop} {w w' : World} {base : Nat} {e : TypeId} {size : Nat} {v : Value} {n : Nat} {xs : List Value} (k : Keeps S w w') (h : w.ownsRow base e size v n xs) (hs : ∀ z, v.ownBlock = some z → ¬ S z) : w'.ownsRow base e size v n xs := by
  refine ⟨h.1, ?_⟩
  rcases h.2 with ⟨h1, h2⟩ | ⟨g, cap, cur, hv, hg, hh, r⟩
  · exact .inl ⟨h1, h2⟩
  · exact .inr ⟨g, cap, cur, hv, hg, k.heap hh (hs g (by rw [hv]; rfl)), r⟩
/-- reached's own: the set l, and those td that are yet to be gone into. -/
structure RS (w : World) (base ob tb mb : Nat) (l td : List Nat) : Prop where
  out : w.heap[ob]? = some (.cells #[.map (some mb)] 64 (0, 0))
  todo : ∃ tv, w.heap[tb]? = some (.cells #[tv] 60 (0, 0)) ∧ w.ownsRow base 56 1 tv td.length (td.map pkey) ∧ ∀ z, tv.ownBlock = some z → z ≠ ob ∧ z ≠ tb ∧ z ≠ mb
  set : IsSet w mb l
  ne : ob ≠ tb ∧ ob ≠ mb ∧ tb ≠ mb
  ge : base ≤ ob ∧ base ≤ tb ∧ base ≤ mb
  lo : ∀ a ∈ l, a < base
  bd : l.length ≤ 100000 ∧ td.length ≤ 100000

theorem RS.keeps {w w' : World} {base ob tb mb : Nat} {l td : List Nat} {S : Nat → Prop} (h : RS w base ob tb mb l td) (k : Keeps S w w') (hS : ∀ z, z < w.heap.size → ¬ S z) : RS w' base ob tb mb l td := by
  obtain ⟨tv, h1, h2, h3⟩ := h.todo
  have hob := lt_of_heap h.out
  have htb := lt_of_heap h1
  obtain ⟨es, hm, -⟩ := h.set.map
  have hmb := lt_of_heap' hm
  refine ⟨k.heap h.out (hS _ hob), ⟨tv, k.heap h1 (hS _ htb), ?_, h3⟩, h.set.keeps k (hS _ hmb) (fun a ha => ?_), h.ne, h.ge, h.lo, h.bd⟩
  · obtain ⟨q1, q2⟩ := h2
    refine ⟨q1, q2.imp id (fun ⟨g, cap, cur, e1, e2, e3, e4⟩ => ⟨g, cap, cur, e1, e2, k.heap e3 (hS _ (lt_of_heap e3)), e4⟩)⟩
  · obtain ⟨cs, hcs⟩ := h.set.blk a ha
    exact hS _ (lt_of_heap hcs)

section
variable {w : World} {base ob tb mb : Nat} {l td : List Nat}
set_option maxRecDepth 100000 in
theorem put_num (h : RS w base ob tb mb l td) (x : Int) :
    Calls Try.prog 84 #[.agg #[.int .u64 x, .pointer none], .pointer (some ⟨ob, 0, none⟩), .pointer (some ⟨tb, 0, none⟩)] w fun e w' => e = .returned (.tuple #[]) ∧ RS w' base ob tb mb l td ∧ Keeps (fun _ => False) w w' := by
  have H := Box.mk (h.keeps ((Keeps.refl (fun _ => False) w).alloc (.cells #[.int .u64 x, .pointer none] 58)) (fun _ _ h => h))
  have K := Box.mk ((Keeps.refl (fun _ => False) w).alloc (.cells #[.int .u64 x, .pointer none] 58))
  clear h
  go_enter Try.func84, Try.ntmps84
  go_wp2_with fail
  go_end0
  exact ⟨rfl, H.out, K.out⟩
set_option maxRecDepth 100000 in
theorem put_in (h : RS w base ob tb mb l td) (x : Int) {t : Nat} (ht : t ∈ l) :
    Calls Try.prog 84 #[.agg #[.int .u64 x, pkey t], .pointer (some ⟨ob, 0, none⟩), .pointer (some ⟨tb, 0, none⟩)] w fun e w' => e = .returned (.tuple #[]) ∧ RS w' base ob tb mb l td ∧ Keeps (fun _ => False) w w' := by
  have hr := h.keeps ((Keeps.refl (fun _ => False) w).alloc (.cells #[.int .u64 x, pkey t] 58)) (fun _ _ h => h)
  have H := Box.mk hr
  have K := Box.mk ((Keeps.refl (fun _ => False) w).alloc (.cells #[.int .u64 x, pkey t] 58))
  have hob := cell_of_heap hr.out 0
  simp at hob
  have hlk := set_look _ hr.set (hr.set.blk t ht)
  rw [show decide (t ∈ l) = true from decide_eq_true ht] at hlk
  unfold pkey at hlk H K hob ⊢
  clear h hr ht
  go_enter Try.func84, Try.ntmps84
  go_wp2_with fail
  go_end0
  exact ⟨rfl, H.out, K.out⟩
set_option maxRecDepth 100000 in
set_option maxHeartbeats 4000000 in
theorem put_new (h : RS w base ob tb mb l td) (x : Int) {t : Nat} (ht : t ∉ l) (hT : IsT w t) (htb : t < base) (hb1 : l.length < 100000 ∧ td.length < 100000) (hbase : base ≤ w.heap.size) :
    Calls Try.prog 84 #[.agg #[.int .u64 x, pkey t], .pointer (some ⟨ob, 0, none⟩), .pointer (some ⟨tb, 0, none⟩)] w fun e w' => e = .returned (.tuple #[]) ∧ RS w' base ob tb mb (l ++ [t]) (td ++ [t]) ∧ Keeps (fun z => base ≤ z) w w' := by
  obtain ⟨wb, hwb⟩ : ∃ wb, w.alloc (.cells #[.int .u64 x, pkey t] 58) = wb := ⟨_, rfl⟩
  have k0 : Keeps (fun _ => False) w wb := by rw [← hwb]; exact (Keeps.refl (fun _ => False) w).alloc _
  have hbx : wb.heap[w.heap.size]? = some (.cells #[.int .u64 x, pkey t] 58 (0, 0)) := by rw [← hwb]; exact heap_alloc_new w _
  have hr := h.keeps k0 (fun _ _ h => h)
  have hTb := hT.keeps k0 (fun h => h)
  obtain ⟨w1, hmu, hset1, k1⟩ := set_put wb hr.set hTb ht
  obtain ⟨tv, ht1, ht2, ht3⟩ := hr.todo
  obtain ⟨es, hm, -⟩ := h.set.map
  have hmb := lt_of_heap' hm
  have htd := ht1
  have hc1 := cell_of_heap hr.out 0
  have hbox1 := cell_of_heap (k1.heap hbx (show ¬ w.heap.size = mb by omega)) 1
  have htc := k1.heap ht1 hr.ne.2.2
  have htc0 := cell_of_heap htc 0
  have htf0 := frozen_of_heap htc 0
  have hlk := set_look _ hr.set hTb
  rw [show decide (t ∈ l) = false from decide_eq_false ht] at hlk
  have hbc := cell_of_heap hbx 1
  have HS1 := Box.mk hset1
  have HO1 : Box (w1.ownsRow base 56 1 tv td.length (td.map pkey)) := ⟨k1.own2 ht2 (fun z hz e => (ht3 z hz).2.2 e)⟩
  have HT3 := Box.mk ht3
  have HR := Box.mk hr
  have K1 : Box (Keeps (fun z => base ≤ z) w w1) := ⟨(k0.mono (fun _ _ h => h.elim)).trans (k1.mono (fun z _ e => by rw [e]; exact hr.ge.2.2))⟩
  have HTC := Box.mk htc
  have Hbd := Box.mk hb1
  have HOb := Box.mk (k1.heap hr.out hr.ne.2.1)
  simp at hc1 hbox1 htc0 hbc
  have Hi := Box.mk (info_parts info_ptr)
  unfold pkey at hlk hmu hbox1 hbc ⊢ hwb
  clear h hr hTb k0 hbx k1 ht1 ht2 ht3 hm hset1 ht hT htd htc
  go_enter Try.func84, Try.ntmps84
  obtain ⟨i0, hi0, hz0, hz1, hz2⟩ := Hi.out
  have Hi2 := Box.mk (And.intro hi0 (And.intro hz0 (And.intro hz1 hz2)))
  clear hi0 hz0 hz1 hz2
  have hb1w : base ≤ w1.heap.size := Nat.le_trans hbase K1.out.size
  go_wp2_with (at_builtin; refine wpList_append_own _ rfl _ _ 60 rfl base 56 i0 _ 1 8 Try.underlying60 Hi2.out.1 Hi2.out.2.1 Hi2.out.2.2.1 Hi2.out.2.2.2 rfl (by decide) tv td.length _ rfl (HO1.out.alloc _) ⟨w1.heap.size, 0, none⟩ 1 1 [.pointer (some ⟨t, 0, none⟩)] rfl rfl ?c1 ?c2 ?c3 ?c4 ?c5 ?c6)
  case c1 => exact World.news_of_block (cs := #[.pointer (some ⟨t, 0, none⟩)]) (t := 56) (fr := (0, 0)) (heap_alloc_new _ _)
  case c2 => intro u hu; simp at hu; subst hu; rfl
  case c3 => have := Hbd.out; unfold maxLen; omega
  case c4 => omega
  case c5 => simp; omega
  case c6 =>
    intro v' w6 hown6 hgrow _
    obtain ⟨g9, c9, hv9, -, -⟩ := hown6.form (by omega)
    have k6 : Keeps (fun z => tv.ownBlock = some z) w1 w6 := ((Keeps.refl (fun z => tv.ownBlock = some z) w1).alloc _).grown hgrow (fun k hk _ => hk)
    have htc6 := k6.heap HTC.out (fun e => (HT3.out tb e).2.1 rfl)
    have hc6 := cell_of_heap htc6 0
    have hf6 := frozen_of_heap htc6 0
    simp at hc6
    have hob6 := k6.heap HOb.out (fun e => (HT3.out ob e).1 rfl)
    have hset6 := HS1.out.keeps k6 (fun e => (HT3.out mb e).2.2 rfl) (fun a ha e => by
      have h1 := (HO1.out.lt a e).1
      have h2 : a < base := by
        rcases List.mem_append.1 ha with ha | ha
        · exact HR.out.lo a ha
        · rw [List.mem_singleton.1 ha]; exact htb
      omega)
    have hown7 : w6.ownsRow base 56 1 v' (td ++ [t]).length ((td ++ [t]).map pkey) := by
      rw [List.length_append, List.map_append]; exact hown6
    have hv' : ∀ z, v'.ownBlock = some z → z ≠ ob ∧ z ≠ tb ∧ z ≠ mb := by
      intro z hz
      rcases hown7.2 with ⟨e1, -⟩ | ⟨g, cap, cur, e1, -, hh, -⟩
      · rw [e1] at hz; cases hz
      · rw [e1] at hz
        have : g = z := by injection hz
        subst this
        refine ⟨fun e => ?_, fun e => ?_, fun e => ?_⟩
        · subst e
          rw [hob6] at hh
          injection hh with hh
          injection hh with _ h2
          cases h2
        · subst e
          rw [htc6] at hh
          injection hh with hh
          injection hh with _ h2
          cases h2
        · subst e
          obtain ⟨es6, hm6, -⟩ := hset6.map
          rw [hm6] at hh
          cases hh
    have kt := (Keeps.refl (fun z => z = tb) w6).setCell (p := ⟨tb, 0, none⟩) (fun _ => rfl) v'
    have hne := HR.out.ne
    have hge := HR.out.ge
    have HRS : Box (RS (w6.setCell ⟨tb, 0, none⟩ v') base ob tb mb (l ++ [t]) (td ++ [t])) := ⟨⟨kt.heap hob6 hne.1, ⟨v', by have := heap_setCell_at htc6 0 v'; simpa using this, kt.own2 hown7 (fun z hz e => (hv' z hz).2.1 e), hv'⟩, hset6.keeps kt (Ne.symm hne.2.2) (fun a ha e => by
      have h2 : a < base := by
        rcases List.mem_append.1 ha with ha | ha
        · exact HR.out.lo a ha
        · rw [List.mem_singleton.1 ha]; exact htb
      omega), hne, hge, fun a ha => by
        rcases List.mem_append.1 ha with ha | ha
        · exact HR.out.lo a ha
        · rw [List.mem_singleton.1 ha]; exact htb, by have := Hbd.out; simp; omega⟩⟩
    have HK : Box (Keeps (fun z => base ≤ z) w (w6.setCell ⟨tb, 0, none⟩ v')) := ⟨(K1.out.trans (k6.mono (fun z _ e => (HO1.out.lt z e).1))).trans (kt.mono (fun z _ e => by rw [e]; exact hge.2.1))⟩
    subst hv9
    clear hown6 hgrow k6 htc6 hv' hob6 hset6 hown7 kt hne hge
    go_wp2_with fail
    go_end0
    exact ⟨rfl, HRS.out, HK.out⟩
end

end Go.Proofs.Ytbjlapfcnldpoaa

/- Law 5's world as a plain graph, and how it lies in the heap. -/
namespace Go.Proofs.Ytbjlapfcnldpoaa
set_option linter.unusedVariables false
set_option linter.unusedSimpArgs false
open Go.RowKit

/-- A word, or a thing by its number. -/
inductive PV where
  | num (w : Nat)
  | ref (i : Nat)
deriving DecidableEq
structure PTh where
  form : Nat
  fields : List PV
structure PG where
  regs : List PV
  all : List PTh
/-- Reached from the registers; with weak ones' things, if their keys are. -/
inductive PR (G : PG) : Nat → Prop where
  | reg {i : Nat} (h : PV.ref i ∈ G.regs) : PR G i
  | fld {i j : Nat} {t : PTh} (h : PR G i) (ht : G.all[i]? = some t) (hf : t.form = 1) (hm : PV.ref j ∈ t.fields) : PR G j
  | weakN {i j x : Nat} {t : PTh} (h : PR G i) (ht : G.all[i]? = some t) (hf : t.form = 3) (hk : t.fields[0]? = some (.num x)) (hm : t.fields[1]? = some (.ref j)) : PR G j
  | weakR {i j k : Nat} {t : PTh} (h : PR G i) (ht : G.all[i]? = some t) (hf : t.form = 3) (hk : t.fields[0]? = some (.ref k)) (hk2 : PR G k) (hm : t.fields[1]? = some (.ref j)) : PR G j

/-- A value's cells. -/
def pvw : PV → Nat
  | .num w => w
  | .ref _ => 0
def pvp (T : List Nat) : PV → Value
  | .num _ => .pointer none
  | .ref i => pkey (T.getD i 0)
def pvc (T : List Nat) (v : PV) : List Value := [.int .u64 (pvw v : Nat), pvp T v]
/-- A value as the heap has it. -/
def pword (U : List Nat) : PV → Nat
  | .num w => w
  | .ref i => 8 * U.getD i 0 + 1

/-- Numbers that are things'. -/
structure PG.WF (G : PG) : Prop where
  regs : ∀ i, PV.ref i ∈ G.regs → i < G.all.length
  flds : ∀ t ∈ G.all, ∀ i, PV.ref i ∈ t.fields → i < G.all.length
  len : G.regs.length = 8
  weak : ∀ t ∈ G.all, t.form = 3 → t.fields.length = 2
  small : ∀ t ∈ G.all, t.fields.length ≤ 200
theorem PR.lt {G : PG} (h : G.WF) {i : Nat} (hi : PR G i) : i < G.all.length := by
  cases hi with
  | reg h1 => exact h.regs _ h1
  | fld _ ht _ hm => exact h.flds _ (List.mem_of_getElem? ht) _ hm
  | weakN _ ht _ _ hm => exact h.flds _ (List.mem_of_getElem? ht) _ (List.mem_of_getElem? hm)
  | weakR _ ht _ _ _ hm => exact h.flds _ (List.mem_of_getElem? ht) _ (List.mem_of_getElem? hm)

/-- The world's cells. -/
def xcells (hb : Nat) (G : PG) (T : List Nat) (av : Value) (bad full : Bool) : List Value := .pointer (some ⟨hb, 0, none⟩) :: (G.regs.flatMap (pvc T) ++ [av, .bool bad, .bool full])
/-- How the world lies in the heap. -/
structure RX (w : World) (xb hb : Nat) (G : PG) (T U : List Nat) (bad full : Bool) : Prop where
  head : ∃ av base, w.heap[xb]? = some (.cells (xcells hb G T av bad full).toArray 62 (0, 0)) ∧ w.ownsRow base 56 1 av T.length (T.map pkey)
  thing : ∀ i t, G.all[i]? = some t → ∃ fv base, w.heap[T.getD i 0]? = some (.cells #[.int .i64 (t.form : Nat), fv, .int .u64 ((8 * U.getD i 0 + 1 : Nat) : Int)] 69 (0, 0)) ∧ w.ownsRow base 58 2 fv t.fields.length (t.fields.flatMap (pvc T))
  lens : T.length = G.all.length ∧ U.length = G.all.length
  wf : G.WF
  nd : T.Nodup
theorem RX.keeps0 {w w' : World} {xb hb : Nat} {G : PG} {T U : List Nat} {bad full : Bool} (h : RX w xb hb G T U bad full) (k : Keeps (fun _ => False) w w') : RX w' xb hb G T U bad full := by
  refine ⟨?_, fun i t ht => ?_, h.lens, h.wf, h.nd⟩
  · obtain ⟨av, base, h1, h2⟩ := h.head
    exact ⟨av, base, k.heap h1 (fun h => h), k.own2 h2 (fun _ _ h => h)⟩
  · obtain ⟨fv, base, h1, h2⟩ := h.thing i t ht
    exact ⟨fv, base, k.heap h1 (fun h => h), k.own2 h2 (fun _ _ h => h)⟩
theorem RX.isT {w : World} {xb hb : Nat} {G : PG} {T U : List Nat} {bad full : Bool} (h : RX w xb hb G T U bad full) {i : Nat} (hi : i < G.all.length) : IsT w (T.getD i 0) := by
  obtain ⟨fv, base, h1, -⟩ := h.thing i _ (List.getElem?_eq_getElem hi)
  exact ⟨_, h1⟩

end Go.Proofs.Ytbjlapfcnldpoaa

/- Law 5's small ones: word, reg. -/
namespace Go.Proofs.Ytbjlapfcnldpoaa
set_option linter.unusedVariables false
set_option linter.unusedSimpArgs false
open Go.RowKit

theorem reg_is (n : Int) (w : World) : Calls Try.prog 81 #[.int .i64 n] w fun e w' => e = .returned (.int .i64 (wrap64 ((IntKind.u64.wrap n).tmod 8))) ∧ w' = w := by
  go_enter Try.func81, Try.ntmps81
  go_wp2_with fail
  go_ret
  exact ⟨rfl, rfl⟩
theorem word_num (x : Int) (w : World) : Calls Try.prog 32 #[.agg #[.int .u64 x, .pointer none]] w fun e w' => e = .returned (.int .u64 x) ∧ Keeps (fun _ => False) w w' := by
  have K := Box.mk ((Keeps.refl (fun _ => False) w).alloc (.cells #[.int .u64 x, .pointer none] 58))
  go_enter Try.func32, Try.ntmps32
  go_wp2_with fail
  go_ret
  exact ⟨rfl, K.out⟩
theorem word_ref (x : Int) {a : Nat} {f : Value} {fv : Value} {c : Int} (w : World) (h : w.heap[a]? = some (.cells #[f, fv, .int .u64 c] 69 (0, 0))) : Calls Try.prog 32 #[.agg #[.int .u64 x, pkey a]] w fun e w' => e = .returned (.int .u64 c) ∧ Keeps (fun _ => False) w w' := by
  obtain ⟨wb, hwb⟩ : ∃ wb, w.alloc (.cells #[.int .u64 x, pkey a] 58) = wb := ⟨_, rfl⟩
  have k : Keeps (fun _ => False) w wb := by rw [← hwb]; exact (Keeps.refl _ w).alloc _
  have K := Box.mk k
  have y2 := cell_of_heap (k.heap h (fun h => h)) 2
  have hbx : wb.heap[w.heap.size]? = some (.cells #[.int .u64 x, pkey a] 58 (0, 0)) := by rw [← hwb]; exact heap_alloc_new w _
  have b0 := cell_of_heap hbx 0
  have b1 := cell_of_heap hbx 1
  simp at y2 b0 b1
  unfold pkey at b1 hwb ⊢
  clear k h hbx
  go_enter Try.func32, Try.ntmps32
  go_wp2_with fail
  go_ret
  exact ⟨rfl, K.out⟩
/-- A value's word. -/
theorem word_is {w : World} {xb hb : Nat} {G : PG} {T U : List Nat} {bad full : Bool} (h : RX w xb hb G T U bad full) (v : PV) (hv : ∀ i, v = .ref i → i < G.all.length) :
    Calls Try.prog 32 #[.agg #[.int .u64 (pvw v : Nat), pvp T v]] w fun e w' => e = .returned (.int .u64 (pword U v : Nat)) ∧ Keeps (fun _ => False) w w' := by
  cases v with
  | num x => exact word_num _ w
  | ref i =>
    obtain ⟨fv, fb, h1, -⟩ := h.thing i _ (List.getElem?_eq_getElem (hv i rfl))
    exact word_ref _ w h1

end Go.Proofs.Ytbjlapfcnldpoaa

/- Law 5's world: a register's cells. No program in sight. -/
namespace Go.Proofs.Ytbjlapfcnldpoaa
set_option linter.unusedVariables false
set_option linter.unusedSimpArgs false
open Go.RowKit

theorem own_ne {w : World} {base : Nat} {e : TypeId} {size n : Nat} {v : Value} {xs : List Value} (h : w.ownsRow base e size v n xs) {xb : Nat} {cs : Array Value} {t : TypeId} (hx : w.heap[xb]? = some (.cells cs t (0, 0))) (hne : t ≠ e) : ∀ z, v.ownBlock = some z → z ≠ xb := by
  intro z hz he
  rcases h.2 with ⟨e1, -⟩ | ⟨g, cap, cur, e1, -, hh, -⟩
  · rw [e1] at hz; cases hz
  · rw [e1] at hz
    have : g = z := by injection hz
    subst this
    subst he
    rw [hx] at hh
    injection hh with hh
    injection hh with _ h2
    exact hne h2
theorem blk_ne {w : World} {a xb : Nat} {ca cs : Array Value} {ta t : TypeId} (ha : w.heap[a]? = some (.cells ca ta (0, 0))) (hx : w.heap[xb]? = some (.cells cs t (0, 0))) (hne : t ≠ ta) : a ≠ xb := by
  intro e
  subst e
  rw [hx] at ha
  injection ha with ha
  injection ha with _ h2
  exact hne h2
theorem list_set8 (hb : Nat) (T : List Nat) (av : Value) (bad full : Bool) (G : PG) (h8 : G.regs.length = 8) (r : Nat) (hr : r < 8) (v : PV) :
    ((xcells hb G T av bad full).set (1 + 2 * r) (.int .u64 (pvw v : Nat))).set (2 + 2 * r) (pvp T v) = xcells hb { G with regs := G.regs.set r v } T av bad full := by
  have key : ∀ (l : List PV) (r : Nat) (tail : List Value), r < l.length → ((l.flatMap (pvc T) ++ tail).set (2 * r) (.int .u64 (pvw v : Nat))).set (1 + 2 * r) (pvp T v) = (l.set r v).flatMap (pvc T) ++ tail := by
    intro l
    induction l with
    | nil => intro r tail h; simp at h
    | cons a l ih =>
      intro r tail h
      cases r with
      | zero => rfl
      | succ r =>
        have := ih r tail (by simpa using h)
        simp only [List.flatMap_cons, pvc, List.cons_append, List.nil_append, List.set_cons_succ]
        rw [show 2 * (r + 1) = (2 * r + 1) + 1 from by omega, show 1 + (2 * r + 1 + 1) = ((1 + 2 * r) + 1) + 1 from by omega]
        simp only [List.set_cons_succ]
        rw [this]
  have h := key G.regs r [av, .bool bad, .bool full] (by omega)
  unfold xcells
  rw [show 1 + 2 * r = 2 * r + 1 from by omega, show 2 + 2 * r = (1 + 2 * r) + 1 from by omega]
  simp only [List.set_cons_succ]
  rw [h]
theorem flat_len (T : List Nat) : ∀ l : List PV, (l.flatMap (pvc T)).length = 2 * l.length
  | [] => rfl
  | a :: l => by
    simp only [List.flatMap_cons, List.length_append, flat_len T l, List.length_cons]
    simp [pvc]; omega
theorem xcells_len {hb : Nat} {G : PG} {T : List Nat} {av : Value} {bad full : Bool} (h8 : G.regs.length = 8) : (xcells hb G T av bad full).length = 20 := by
  unfold xcells
  simp only [List.length_cons, List.length_append, flat_len, h8]
  rfl
theorem RX.cell {w : World} {xb hb : Nat} {G : PG} {T U : List Nat} {bad full : Bool} (h : RX w xb hb G T U bad full) {i : Nat} (hi : i < 20) : ∃ u, w.cell? ⟨xb, i, none⟩ = some u ∧ w.frozen? ⟨xb, i, none⟩ = false := by
  obtain ⟨av, base, h1, -⟩ := h.head
  have hl := xcells_len (hb := hb) (T := T) (av := av) (bad := bad) (full := full) h.wf.len
  exact ⟨(xcells hb G T av bad full)[i]'(by omega), by rw [cell_of_heap h1]; simp [List.getElem?_eq_getElem (show i < (xcells hb G T av bad full).length by omega)], frozen_of_heap h1 i⟩
theorem RX.setReg {w : World} {xb hb : Nat} {G : PG} {T U : List Nat} {bad full : Bool} (h : RX w xb hb G T U bad full) {r : Nat} (hr : r < 8) (v : PV) (hv : ∀ i, v = .ref i → i < G.all.length) :
    RX ((w.setCell ⟨xb, 1 + 2 * r, none⟩ (.int .u64 (pvw v : Nat))).setCell ⟨xb, 2 + 2 * r, none⟩ (pvp T v)) xb hb { G with regs := G.regs.set r v } T U bad full ∧ Keeps (fun z => z = xb) w ((w.setCell ⟨xb, 1 + 2 * r, none⟩ (.int .u64 (pvw v : Nat))).setCell ⟨xb, 2 + 2 * r, none⟩ (pvp T v)) := by
  obtain ⟨av, base, h1, h2⟩ := h.head
  have k1 := (Keeps.refl (fun z => z = xb) w).setCell (p := ⟨xb, 1 + 2 * r, none⟩) (fun _ => rfl) (.int .u64 (pvw v : Nat))
  have k := k1.setCell (p := ⟨xb, 2 + 2 * r, none⟩) (fun _ => rfl) (pvp T v)
  have e1 := heap_setCell_at h1 (1 + 2 * r) (.int .u64 (pvw v : Nat))
  have e2 := heap_setCell_at e1 (2 + 2 * r) (pvp T v)
  refine ⟨⟨⟨av, base, ?_, k.own2 h2 (own_ne h2 h1 (by decide))⟩, fun i t ht => ?_, h.lens, ⟨fun i hi => ?_, h.wf.flds, ?_, h.wf.weak, h.wf.small⟩, h.nd⟩, k⟩
  · rw [e2, ← list_set8 hb T av bad full G h.wf.len r hr v]
    simp
  · obtain ⟨fv, fb, q1, q2⟩ := h.thing i t ht
    exact ⟨fv, fb, k.heap q1 (blk_ne q1 h1 (by decide)), k.own2 q2 (own_ne q2 h1 (by decide))⟩
  · rcases List.mem_or_eq_of_mem_set hi with e | e
    · exact h.wf.regs i e
    · exact hv i e.symm
  · show (G.regs.set r v).length = 8
    rw [List.length_set]; exact h.wf.len

end Go.Proofs.Ytbjlapfcnldpoaa

/- Law 5's world beside the heap: what the heap's doings leave. No program in sight. -/
namespace Go.Proofs.Ytbjlapfcnldpoaa
set_option linter.unusedVariables false
set_option linter.unusedSimpArgs false
open Go.RowKit

/-- None of the world's kinds of blocks. -/
def NotX (t : TypeId) : Prop := t ≠ 62 ∧ t ≠ 69 ∧ t ≠ 56 ∧ t ≠ 58
theorem RX.keepsT {w w' : World} {xb hb : Nat} {G : PG} {T U : List Nat} {bad full : Bool} (h : RX w xb hb G T U bad full) {S : Nat → Prop} (k : Keeps S w w') (hS : ∀ z cs t, S z → w.heap[z]? = some (.cells cs t (0, 0)) → NotX t) : RX w' xb hb G T U bad full := by
  have own : ∀ {base : Nat} {e : TypeId} {size n : Nat} {v : Value} {xs : List Value}, ¬ NotX e → w.ownsRow base e size v n xs → w'.ownsRow base e size v n xs := by
    intro base e size n v xs he ho
    refine k.own2 ho (fun z hz hs => ?_)
    rcases ho.2 with ⟨e1, -⟩ | ⟨g, cap, cur, e1, -, hh, -⟩
    · rw [e1] at hz; cases hz
    · rw [e1] at hz
      have : g = z := by injection hz
      subst this
      exact he (hS g cur e hs hh)
  obtain ⟨av, base, h1, h2⟩ := h.head
  refine ⟨⟨av, base, k.heap h1 (fun hs => (hS _ _ _ hs h1).1 rfl), own (fun q => q.2.2.1 rfl) h2⟩, fun i t ht => ?_, h.lens, h.wf, h.nd⟩
  obtain ⟨fv, fb, q1, q2⟩ := h.thing i t ht
  exact ⟨fv, fb, k.heap q1 (fun hs => (hS _ _ _ hs q1).2.1 rfl), own (fun q => q.2.2.2 rfl) q2⟩

theorem foot3_notX {w : World} {hb b g : Nat} {s : TH} (h : IsTH w hb b g s) : ∀ z cs t, foot3 hb b g z → w.heap[z]? = some (.cells cs t (0, 0)) → NotX t := by
  obtain ⟨c, k, hs⟩ := h.iw
  intro z cs t hz hc
  rcases hz with rfl | rfl | rfl
  · rw [h.head] at hc
    injection hc with hc
    injection hc with _ h2
    subst h2
    exact ⟨by decide, by decide, by decide, by decide⟩
  · rw [hs.head] at hc
    injection hc with hc
    injection hc with _ h2
    subst h2
    exact ⟨by decide, by decide, by decide, by decide⟩
  · rcases hs.row.2 with ⟨e1, -⟩ | ⟨q, cap, cur, e1, -, hh, -⟩
    · cases e1
    · injection e1 with e1
      injection e1 with e1
      injection e1 with e1
      subst e1
      rw [hh] at hc
      injection hc with hc
      injection hc with _ h2
      subst h2
      exact ⟨by decide, by decide, by decide, by decide⟩
/-- The heap's doings leave the world. -/
theorem RX.heap {w w' : World} {xb hb hb' b g : Nat} {G : PG} {T U : List Nat} {bad full : Bool} {s : TH} (h : RX w xb hb' G T U bad full) (hI : IsTH w hb b g s) (k : Keeps (foot3 hb b g) w w') : RX w' xb hb' G T U bad full := h.keepsT k (foot3_notX hI)

end Go.Proofs.Ytbjlapfcnldpoaa

/- Law 5's set, by its contract. -/
namespace Go.Proofs.Ytbjlapfcnldpoaa
set_option linter.unusedVariables false
set_option linter.unusedSimpArgs false
open Go.RowKit

theorem Keeps.same {S : Nat → Prop} {w w' : World} (k : Keeps S w w') {p : Addr} (hb : p.block < w.heap.size) (hs : ¬ S p.block) : w'.cell? p = w.cell? p := World.cell?_of_block (k.block _ hb hs)
/-- What set leaves. -/
structure SetXSaid (w : World) (xb hb b g : Nat) (G : PG) (T U : List Nat) (bad full : Bool) (s : TH) (r : Nat) (v : PV) (e : Ending) (w' : World) : Prop where
  said : e = .returned (.tuple #[])
  rx : RX w' xb hb { G with regs := G.regs.set r v } T U bad full
  th : IsTH w' hb b g (setRoot s r (pword U v))
  keeps : Keeps (fun z => z = xb ∨ foot3 hb b g z) w w'
  all : w'.cell? ⟨xb, 17, none⟩ = w.cell? ⟨xb, 17, none⟩

set_option maxRecDepth 100000 in
set_option maxHeartbeats 4000000 in
theorem setx_is {w : World} {xb hb b g : Nat} {G : PG} {T U : List Nat} {bad full : Bool} {s : TH} (hR : RX w xb hb G T U bad full) (hI : IsTH w hb b g s) {r : Nat} (hr : r < 8) (v : PV) (hv : ∀ i, v = .ref i → i < G.all.length) (hx : pword U v < 18446744073709551616) (ht : tvalue s (pword U v) = true) :
    Calls Try.prog 83 #[.pointer (some ⟨xb, 0, none⟩), .int .i64 r, .agg #[.int .u64 (pvw v : Nat), pvp T v]] w (SetXSaid w xb hb b g G T U bad full s r v) := by
  obtain ⟨o, ho⟩ : ∃ o, pvp T v = .pointer o := by cases v <;> exact ⟨_, rfl⟩
  obtain ⟨wb, hwb⟩ : ∃ wb, w.alloc (.cells #[.int .u64 (pvw v : Nat), .pointer o] 58) = wb := ⟨_, rfl⟩
  have k : Keeps (fun _ => False) w wb := by rw [← hwb]; exact (Keeps.refl _ w).alloc _
  have hbx : wb.heap[w.heap.size]? = some (.cells #[.int .u64 (pvw v : Nat), .pointer o] 58 (0, 0)) := by rw [← hwb]; exact heap_alloc_new w _
  have hRb := hR.keeps0 k
  obtain ⟨av, base, hxh, -⟩ := hRb.head
  have b0 := cell_of_heap hbx 0
  have b1 := cell_of_heap hbx 1
  have hfx := fun i => frozen_of_heap hxh i
  have hcx : ∀ i, i < 20 → ∃ u, wb.cell? ⟨xb, i, none⟩ = some u := fun i hi => by
    obtain ⟨u, hu, -⟩ := hRb.cell hi
    exact ⟨u, hu⟩
  obtain ⟨u1, hu1⟩ := hcx (1 + 2 * r) (by omega)
  obtain ⟨u2, hu2⟩ := hcx (2 + 2 * r) (by omega)
  simp at b0 b1
  have hu1' : wb.cell? ⟨xb, 1 + r * 2, none⟩ = some u1 := by rw [Nat.mul_comm r 2]; exact hu1
  have hu2' : wb.cell? ⟨xb, 1 + r * 2 + 1, none⟩ = some u2 := by rw [show 1 + r * 2 + 1 = 2 + 2 * r from by omega]; exact hu2
  have hf1 := hfx (1 + r * 2)
  have hf2 := hfx (1 + r * 2 + 1)
  have hne : ¬ w.heap.size = xb := by
    have := lt_of_heap hR.head.choose_spec.choose_spec.1
    omega
  have kk := (((Keeps.refl (fun z => z = xb) wb).setCell (p := ⟨xb, 1 + r * 2, none⟩) (fun _ => rfl) (.int .u64 (pvw v : Nat))).setCell (p := ⟨xb, 1 + r * 2 + 1, none⟩) (fun _ => rfl) (.pointer o))
  have c0 := kk.cell b0 hne
  have c1 := kk.cell b1 hne
  clear hu1 hu2 hfx hcx
  rw [ho]
  have hr0 : (0 : Int) ≤ (r : Int) := by omega
  have hr8 : (r : Int) < 8 := by omega
  go_enter Try.func83, Try.ntmps83
  go_wp2_with fail
  go_region_held3 (fun w' => w'.cell? ⟨w.heap.size, 0, none⟩ = some (.int .u64 (pvw v : Nat)) ∧ w'.cell? ⟨w.heap.size, 1, none⟩ = some (.pointer o)) (first | exact ⟨b0, b1⟩ | exact ⟨c0, c1⟩ | go_keep) (first | fail)
  have hrx := hRb.setReg hr v hv
  rw [ho, show 1 + 2 * r = 1 + r * 2 from by omega, show 2 + 2 * r = 1 + r * 2 + 1 from by omega] at hrx
  obtain ⟨w2, hw2⟩ : ∃ w2, ((wb.setCell ⟨xb, 1 + r * 2, none⟩ (.int .u64 (pvw v : Nat))).setCell ⟨xb, 1 + r * 2 + 1, none⟩ (.pointer o)) = w2 := ⟨_, rfl⟩
  have hxl : xb < wb.heap.size := lt_of_heap hxh
  have hxlw : xb < w.heap.size := lt_of_heap hR.head.choose_spec.choose_spec.1
  have E17 : Box (w2.cell? ⟨xb, 17, none⟩ = w.cell? ⟨xb, 17, none⟩ ∧ xb < w2.heap.size) := ⟨by
    rw [← hw2]
    refine ⟨?_, by simpa using hxl⟩
    rw [World.cell?_setCell_other _ _ _ _ (fun e => by injection e with _ e2 _; omega), World.cell?_setCell_other _ _ _ _ (fun e => by injection e with _ e2 _; omega)]
    exact k.same hxlw (fun h => h)⟩
  clear hxl hxlw
  rw [hw2] at hrx c0 c1
  have hI2 : IsTH w2 hb b g s := by
    have hIb := hI.keeps0 k
    have hn := foot3_notX hIb
    refine hIb.keeps hrx.2 (fun e => ?_) (fun e => ?_) (fun e => ?_)
    · exact (hn xb _ _ (Or.inl e.symm) hxh).1 rfl
    · exact (hn xb _ _ (Or.inr (Or.inl e.symm)) hxh).1 rfl
    · exact (hn xb _ _ (Or.inr (Or.inr e.symm)) hxh).1 rfl
  have HW : ∀ W : World, Keeps (fun _ => False) w2 W → Calls Try.prog 32 #[.agg #[.int .u64 (pvw v : Nat), .pointer o]] W fun e w' => e = .returned (.int .u64 (pword U v : Nat)) ∧ Keeps (fun _ => False) W w' := fun W kW => by
    have h := word_is (hrx.1.keeps0 kW) v hv
    rw [ho] at h; exact h
  have HWB := Box.mk HW
  have hnx : ¬ foot3 hb b g xb := fun e => (foot3_notX (hI.keeps0 k) xb _ _ e hxh).1 rfl
  have hnw : ¬ foot3 hb b g w.heap.size := by have := hI.lt; unfold foot3; omega
  have x0 : w2.cell? ⟨xb, 0, none⟩ = some (.pointer (some ⟨hb, 0, none⟩)) := by
    obtain ⟨av2, base2, hh, -⟩ := hrx.1.head
    rw [cell_of_heap hh]; rfl
  have HI2 := Box.mk hI2
  have HRX := Box.mk hrx
  have HX := Box.mk (And.intro hx ht)
  clear HW hrx hI2
  go_wp2_with fail
  go_region_held3 (fun w' => w'.cell? ⟨xb, 0, none⟩ = some (.pointer (some ⟨hb, 0, none⟩)) ∧ w'.cell? ⟨w.heap.size, 0, none⟩ = some (.int .u64 (pvw v : Nat)) ∧ w'.cell? ⟨w.heap.size, 1, none⟩ = some (.pointer o)) (first | exact ⟨x0, c0, c1⟩ | exact ⟨kj.cell x0 (fun h => h), kj.cell c0 (fun h => h), kj.cell c1 (fun h => h)⟩ | exact ⟨k5.cell (kj.cell x0 (fun h => h)) hnx, k5.cell (kj.cell c0 (fun h => h)) hnw, k5.cell (kj.cell c1 (fun h => h)) hnw⟩ | go_keep) (first | (go_at_call 32; refine (HWB.out _ ((Keeps.refl (fun _ => False) w2).drewN 2)).mono ?_; rintro e w4 ⟨rfl, kj⟩) | (go_at_call 17; refine (setroot_is (i := r) (x := pword U v) (HI2.out.keeps0 (((Keeps.refl (fun _ => False) w2).drewN 2).trans kj)) (by omega) HX.out.1 HX.out.2).mono ?_; rintro e w5 ⟨rfl, hI5, k5⟩))
  have k24 : Keeps (fun _ => False) w2 w4 := ((Keeps.refl (fun _ => False) w2).drewN 2).trans kj
  have hI4 := HI2.out.keeps0 k24
  have hR5 := (HRX.out.1.keeps0 k24).heap hI4 k5
  have kall : Keeps (fun z => z = xb ∨ foot3 hb b g z) w w5 := (((k.mono (S' := fun z => z = xb ∨ foot3 hb b g z) (fun _ _ h => h.elim)).trans (HRX.out.2.mono (fun _ _ h => Or.inl h))).trans (k24.mono (fun _ _ h => h.elim))).trans (k5.mono (fun _ _ h => Or.inr h))
  have E5 : Box (w5.cell? ⟨xb, 17, none⟩ = w.cell? ⟨xb, 17, none⟩) := ⟨by
    rw [k5.same (Nat.lt_of_lt_of_le E17.out.2 k24.size) hnx, k24.same E17.out.2 (fun h => h)]; exact E17.out.1⟩
  have R5 := Box.mk hR5
  have I5 := Box.mk hI5
  have KK5 := Box.mk kall
  clear hR5 hI5 kall k24 hI4 kj k5
  go_wp2_with fail
  go_end0
  exact ⟨rfl, R5.out, I5.out, KK5.out, E5.out⟩

end Go.Proofs.Ytbjlapfcnldpoaa

/- Law 5's script as a relation over the plain world and the heap's state. No program in sight. -/
namespace Go.Proofs.Ytbjlapfcnldpoaa
set_option linter.unusedVariables false
set_option linter.unusedSimpArgs false
open Go.RowKit

theorem PR.ex {G : PG} (h : G.WF) {i : Nat} (hi : PR G i) : ∃ t, G.all[i]? = some t := ⟨_, List.getElem?_eq_getElem (hi.lt h)⟩
/-- The plain world, the things' places, the heap, and whether it was full. -/
structure PSt where
  G : PG
  U : List Nat
  s : TH
  full : Bool
/-- What is played. -/
structure POp where
  kind : Int
  a : Int
  b : Int
  c : Int
  n : Int
/-- int(uint(n) % k). -/
def um (n k : Int) : Nat := (wrap64 ((IntKind.u64.wrap n).tmod k)).toNat
theorem um_eq (n k : Int) (h : 0 < k) (hk : k ≤ 1000000) : wrap64 ((IntKind.u64.wrap n).tmod k) = (um n k : Int) := by
  have := umod_bd n k h hk
  unfold um
  omega
theorem um_lt (n : Int) (k : Nat) (h : 0 < k) (hk : k ≤ 1000000) : um n k < k := by
  have h1 := umod_bd n k (by omega) (by omega)
  have h2 := um_eq n k (by omega) (by omega)
  omega
def PSt.set (P : PSt) (r : Nat) (v : PV) : PSt := { P with G := { P.G with regs := P.G.regs.set r v }, s := setRoot P.s r (pword P.U v) }
def fillv (form : Nat) : Nat := if form = 2 then 0 else 12
/-- A new cell's state. -/
def PSt.made (P : PSt) (r form n u : Nat) (s2 : TH) : PSt := ⟨⟨P.G.regs.set r (.ref P.G.all.length), P.G.all ++ [⟨form, List.replicate n (.num (fillv form))⟩]⟩, P.U ++ [u], setRoot s2 r (8 * u + 1), P.full⟩
/-- A field's state. -/
def PSt.put (P : PSt) (i q : Nat) (t : PTh) (v : PV) (s' : TH) : PSt := { P with G := { P.G with all := P.G.all.set i ⟨t.form, t.fields.set q v⟩ }, s := s' }
/-- made: no cell is free, or a new one. -/
inductive MadeTo (P : PSt) (r form n : Nat) : PSt → Prop
  | full {s1 : TH} (h1 : tincr P.s.k P.s = some s1) (h0 : lget s1 (tcls n) 0 = 0) : MadeTo P r form n { P with s := s1, full := true }
  | cell {s2 : TH} {u : Nat} (h : talloc P.s form 0 n = some (s2, 8 * u + 1)) (hv : tvalue s2 (8 * u + 1) = true) (hu : ∀ i, PR P.G i → P.U.getD i 0 ≠ u) (ub : 8 * u + 1 < 18446744073709551616) :
      MadeTo P r form n (P.made r form n u s2)
/-- do. -/
inductive Did (P : PSt) (o : POp) : PSt → Prop
  | made1 {P' : PSt} (hk : o.kind = 1) (h : MadeTo P (um o.a 8) 1 (um o.n 128) P') : Did P o P'
  | made2 {P' : PSt} (hk : o.kind = 8) (h : MadeTo P (um o.a 8) 2 (um o.n 128) P') : Did P o P'
  | move {v : PV} (hk : o.kind = 2) (hv : P.G.regs[um o.b 8]? = some v) : Did P o (P.set (um o.a 8) v)
  | load {i : Nat} {t : PTh} {v : PV} (hk : o.kind = 3) (hb : P.G.regs[um o.b 8]? = some (.ref i)) (ht : P.G.all[i]? = some t) (h0 : 0 < t.fields.length) (hf : t.form = 1) (hv : t.fields[um o.n t.fields.length]? = some v) : Did P o (P.set (um o.a 8) v)
  | load0 {v : PV} (hk : o.kind = 3) (hb : P.G.regs[um o.b 8]? = some v) (hno : ∀ i t, v = .ref i → P.G.all[i]? = some t → t.fields.length = 0 ∨ t.form ≠ 1) : Did P o P
  | store {i : Nat} {t : PTh} {v : PV} {s' : TH} (hk : o.kind = 4) (ha : P.G.regs[um o.a 8]? = some (.ref i)) (ht : P.G.all[i]? = some t) (h0 : 0 < t.fields.length) (hf : t.form = 1) (hv : P.G.regs[um o.b 8]? = some v)
      (hs : tset P.s (P.U.getD i 0) (um o.n t.fields.length) (pword P.U v) = some s') : Did P o (P.put i (um o.n t.fields.length) t v s')
  | store0 {v : PV} (hk : o.kind = 4) (hb : P.G.regs[um o.a 8]? = some v) (hno : ∀ i t, v = .ref i → P.G.all[i]? = some t → t.fields.length = 0 ∨ t.form ≠ 1) : Did P o P
  | fix (hk : o.kind = 5) (h0 : -1152921504606846976 ≤ o.n) (h1 : o.n ≤ 1152921504606846975) : Did P o (P.set (um o.a 8) (.num ((o.n * 8) % 18446744073709551616).toNat))
  | fix0 (hk : o.kind = 5) (h : o.n < -1152921504606846976 ∨ 1152921504606846975 < o.n) : Did P o P
  | incr {s1 : TH} (hk : o.kind = 6) (h : tincr (min (max o.n 0) 300).toNat P.s = some s1) : Did P o { P with s := s1 }
  | other (hk : o.kind < 1 ∨ 8 < o.kind) : Did P o P

/-- The heap has the things that are reached. -/
structure Fit (P : PSt) : Prop where
  now : P.s.now ≤ 1
  k : P.s.k ≤ 64
  obj : ∀ i t, PR P.G i → P.G.all[i]? = some t → ∃ c hd, tplace P.s (8 * P.U.getD i 0 + 1) = some (P.U.getD i 0, c) ∧ rdh P.s.W (P.U.getD i 0) = some hd ∧ hform hd = t.form ∧ hn hd = t.fields.length ∧ P.U.getD i 0 ≤ 1048576 ∧ (t.form = 1 ∨ t.form = 2) ∧
    ∀ j v, t.fields[j]? = some v → P.U.getD i 0 + 3 + j < P.s.W.length ∧ wat P.s.W (P.U.getD i 0 + 3 + j) = pword P.U v
  val : ∀ v, v ∈ P.G.regs → pword P.U v < 18446744073709551616 ∧ tvalue P.s (pword P.U v) = true
  fval : ∀ i t, PR P.G i → P.G.all[i]? = some t → t.form = 1 → ∀ v ∈ t.fields, pword P.U v < 18446744073709551616 ∧ tvalue P.s (pword P.U v) = true

end Go.Proofs.Ytbjlapfcnldpoaa

/- The heap's Alloc where no cell is free, by its contract. -/
namespace Go.Proofs.Ytbjlapfcnldpoaa
set_option linter.unusedVariables false
set_option linter.unusedSimpArgs false
open Go.RowKit

set_option maxRecDepth 100000 in
set_option maxHeartbeats 4000000 in
theorem alloc_full {hb b g form tag n : Nat} {s s1 : TH} {w : World} (hI : IsTH w hb b g s) (hs1 : tincr s.k s = some s1) (h0 : lget s1 (tcls n) 0 = 0) (hnow : s.now ≤ 1) (hkk : s.k ≤ 64) (hf1 : 1 ≤ form) (hf2 : form ≤ 2) (htag : tag ≤ 15) (hn : n ≤ 127) :
    Calls Try.prog 21 #[.pointer (some ⟨hb, 0, none⟩), .int .i64 form, .int .i64 tag, .int .i64 n] w fun e w' => e = .returned (.tuple #[.int .u64 0, .iface 97 (.int .i64 4)]) ∧ IsTH w' hb b g s1 ∧ Keeps (foot3 hb b g) w w' := by
  have hc4 := tcls_lt n
  have Hcls := Box.mk (cls_is n · hn)
  obtain ⟨c, hc⟩ : ∃ c, tcls n = c := ⟨_, rfl⟩
  rw [hc] at h0 hc4 Hcls
  obtain ⟨k, hk⟩ : ∃ x, s.k = x := ⟨_, rfl⟩
  rw [hk] at hs1 hkk
  have Hs1 := Box.mk hs1
  have H0 := Box.mk h0
  have Hnow := Box.mk hnow
  have Hk := Box.mk hk
  have hkc := hI.k
  rw [hk] at hkc
  have e3 : ((form : Int) == 3) = false := by rw [beq_eq_false_iff_ne]; omega
  have H := Box.mk hI
  clear hs1 h0 hnow hk hI
  go_enter Try.func21, Try.ntmps21
  go_wp2_with fail
  refine (Hcls.out _).mono ?_
  rintro e w1 ⟨rfl, k1⟩
  have H1 := Box.mk (H.out.keeps0 k1)
  have K1 := Box.mk (k1.mono (S' := foot3 hb b g) (fun _ _ h => h.elim))
  have hkc1 := H1.out.k
  rw [Hk.out] at hkc1
  clear H k1 hkc
  clear hc
  go_wp2_with fail
  refine (incr_is H1.out Hs1.out Hnow.out (by omega)).mono ?_
  rintro e w2 ⟨rfl, hI2, k2⟩
  have H2 := Box.mk hI2
  have K2 := Box.mk (K1.out.trans k2)
  have hc0 := hI2.lists (i := 4 * c + 0) (by omega)
  rw [show s1.lists.getD (4 * c + 0) 0 = 0 from H0.out, show 10 + (4 * c + 0) = 10 + c * 4 by omega] at hc0
  have hcI0 : (0 : Int) ≤ (c : Int) := by omega
  have hcI1 : (c : Int) < 4 := by omega
  clear hI2 k2 H1 K1 hkc1 Hs1 Hnow
  go_wp2_with fail
  go_ret2
  exact ⟨rfl, H2.out, K2.out⟩

end Go.Proofs.Ytbjlapfcnldpoaa

/- What reached asks: put's contract for a value; the sets. -/
namespace Go.Proofs.Ytbjlapfcnldpoaa
set_option linter.unusedVariables false
set_option linter.unusedSimpArgs false
open Go.RowKit

/-- What put makes of a value. -/
structure PutSaid (w : World) (base ob tb mb : Nat) (T l td : List Nat) (v : PV) (e : Ending) (w' : World) : Prop where
  said : e = .returned (.tuple #[])
  rs : ∃ l' td', RS w' base ob tb mb l' td' ∧ (∀ a, a ∈ l' ↔ a ∈ l ∨ ∃ i, v = .ref i ∧ a = T.getD i 0) ∧ ((l' = l ∧ td' = td) ∨ ∃ a, a ∉ l ∧ l' = l ++ [a] ∧ td' = td ++ [a])
  keeps : Keeps (fun z => base ≤ z) w w'
theorem put_pv {w : World} {base ob tb mb : Nat} {T l td : List Nat} (h : RS w base ob tb mb l td) (v : PV) (hT : ∀ i, v = .ref i → IsT w (T.getD i 0) ∧ T.getD i 0 < base) (hb : l.length < 100000 ∧ td.length < 100000) (hbase : base ≤ w.heap.size) :
    Calls Try.prog 84 #[.agg #[.int .u64 (pvw v : Nat), pvp T v], .pointer (some ⟨ob, 0, none⟩), .pointer (some ⟨tb, 0, none⟩)] w (PutSaid w base ob tb mb T l td v) := by
  cases v with
  | num x =>
    refine (put_num h _).mono ?_
    rintro e w' ⟨h1, h2, h3⟩
    exact ⟨h1, ⟨l, td, h2, fun a => ⟨Or.inl, fun q => q.elim id (fun ⟨i, e, _⟩ => nomatch e)⟩, Or.inl ⟨rfl, rfl⟩⟩, h3.mono (fun _ _ h => h.elim)⟩
  | ref i =>
    obtain ⟨h1, h2⟩ := hT i rfl
    by_cases hm : T.getD i 0 ∈ l
    · refine (put_in h _ hm).mono ?_
      rintro e w' ⟨q1, q2, q3⟩
      refine ⟨q1, ⟨l, td, q2, fun a => ⟨Or.inl, fun q => q.elim id (fun ⟨j, e, h⟩ => ?_)⟩, Or.inl ⟨rfl, rfl⟩⟩, q3.mono (fun _ _ h => h.elim)⟩
      injection e with e
      rw [h, ← e]; exact hm
    · refine (put_new h _ hm h1 h2 hb hbase).mono ?_
      rintro e w' ⟨q1, q2, q3⟩
      refine ⟨q1, ⟨_, _, q2, fun a => ?_, Or.inr ⟨_, hm, rfl, rfl⟩⟩, q3⟩
      constructor
      · intro ha
        rcases List.mem_append.1 ha with ha | ha
        · exact Or.inl ha
        · exact Or.inr ⟨i, rfl, List.mem_singleton.1 ha⟩
      · rintro (ha | ⟨j, e, ha⟩)
        · exact List.mem_append_left _ ha
        · injection e with e
          rw [ha, ← e]
          exact List.mem_append_right _ (List.mem_singleton.2 rfl)

theorem idx8_0 (w : World) (a0 a1 a2 a3 a4 a5 a6 a7 a8 a9 b0 b1 b2 b3 b4 b5 : Value) : (Instr.index 59 (.agg #[a0, a1, a2, a3, a4, a5, a6, a7, a8, a9, b0, b1, b2, b3, b4, b5]) (.int .i64 0)).run Try.prog w = .ok (.agg #[a0, a1]) w := by kernel_rfl
theorem idx8_1 (w : World) (a0 a1 a2 a3 a4 a5 a6 a7 a8 a9 b0 b1 b2 b3 b4 b5 : Value) : (Instr.index 59 (.agg #[a0, a1, a2, a3, a4, a5, a6, a7, a8, a9, b0, b1, b2, b3, b4, b5]) (.int .i64 1)).run Try.prog w = .ok (.agg #[a2, a3]) w := by kernel_rfl
theorem idx8_2 (w : World) (a0 a1 a2 a3 a4 a5 a6 a7 a8 a9 b0 b1 b2 b3 b4 b5 : Value) : (Instr.index 59 (.agg #[a0, a1, a2, a3, a4, a5, a6, a7, a8, a9, b0, b1, b2, b3, b4, b5]) (.int .i64 2)).run Try.prog w = .ok (.agg #[a4, a5]) w := by kernel_rfl
theorem idx8_3 (w : World) (a0 a1 a2 a3 a4 a5 a6 a7 a8 a9 b0 b1 b2 b3 b4 b5 : Value) : (Instr.index 59 (.agg #[a0, a1, a2, a3, a4, a5, a6, a7, a8, a9, b0, b1, b2, b3, b4, b5]) (.int .i64 3)).run Try.prog w = .ok (.agg #[a6, a7]) w := by kernel_rfl
theorem idx8_4 (w : World) (a0 a1 a2 a3 a4 a5 a6 a7 a8 a9 b0 b1 b2 b3 b4 b5 : Value) : (Instr.index 59 (.agg #[a0, a1, a2, a3, a4, a5, a6, a7, a8, a9, b0, b1, b2, b3, b4, b5]) (.int .i64 4)).run Try.prog w = .ok (.agg #[a8, a9]) w := by kernel_rfl
theorem idx8_5 (w : World) (a0 a1 a2 a3 a4 a5 a6 a7 a8 a9 b0 b1 b2 b3 b4 b5 : Value) : (Instr.index 59 (.agg #[a0, a1, a2, a3, a4, a5, a6, a7, a8, a9, b0, b1, b2, b3, b4, b5]) (.int .i64 5)).run Try.prog w = .ok (.agg #[b0, b1]) w := by kernel_rfl
theorem idx8_6 (w : World) (a0 a1 a2 a3 a4 a5 a6 a7 a8 a9 b0 b1 b2 b3 b4 b5 : Value) : (Instr.index 59 (.agg #[a0, a1, a2, a3, a4, a5, a6, a7, a8, a9, b0, b1, b2, b3, b4, b5]) (.int .i64 6)).run Try.prog w = .ok (.agg #[b2, b3]) w := by kernel_rfl
theorem idx8_7 (w : World) (a0 a1 a2 a3 a4 a5 a6 a7 a8 a9 b0 b1 b2 b3 b4 b5 : Value) : (Instr.index 59 (.agg #[a0, a1, a2, a3, a4, a5, a6, a7, a8, a9, b0, b1, b2, b3, b4, b5]) (.int .i64 7)).run Try.prog w = .ok (.agg #[b4, b5]) w := by kernel_rfl
/-- The j-th register of the array's value. -/
theorem idx8 (w : World) (T : List Nat) (r0 r1 r2 r3 r4 r5 r6 r7 : PV) (j : Nat) (hj : j < 8) : ∃ v, [r0, r1, r2, r3, r4, r5, r6, r7][j]? = some v ∧
    (Instr.index 59 (.agg #[.int .u64 (pvw r0 : Nat), pvp T r0, .int .u64 (pvw r1 : Nat), pvp T r1, .int .u64 (pvw r2 : Nat), pvp T r2, .int .u64 (pvw r3 : Nat), pvp T r3, .int .u64 (pvw r4 : Nat), pvp T r4, .int .u64 (pvw r5 : Nat), pvp T r5, .int .u64 (pvw r6 : Nat), pvp T r6, .int .u64 (pvw r7 : Nat), pvp T r7]) (.int .i64 (j : Int))).run Try.prog w = .ok (.agg #[.int .u64 (pvw v : Nat), pvp T v]) w := by
  have : j = 0 ∨ j = 1 ∨ j = 2 ∨ j = 3 ∨ j = 4 ∨ j = 5 ∨ j = 6 ∨ j = 7 := by omega
  rcases this with rfl | rfl | rfl | rfl | rfl | rfl | rfl | rfl
  · exact ⟨_, rfl, idx8_0 ..⟩
  · exact ⟨_, rfl, idx8_1 ..⟩
  · exact ⟨_, rfl, idx8_2 ..⟩
  · exact ⟨_, rfl, idx8_3 ..⟩
  · exact ⟨_, rfl, idx8_4 ..⟩
  · exact ⟨_, rfl, idx8_5 ..⟩
  · exact ⟨_, rfl, idx8_6 ..⟩
  · exact ⟨_, rfl, idx8_7 ..⟩
theorem list8 {α : Type} {l : List α} (h : l.length = 8) : ∃ a0 a1 a2 a3 a4 a5 a6 a7, l = [a0, a1, a2, a3, a4, a5, a6, a7] := by
  match l, h with
  | [a0, a1, a2, a3, a4, a5, a6, a7], _ => exact ⟨_, _, _, _, _, _, _, _, rfl⟩

/-- What holds of the set and of those that are yet to be gone into; X: those that are amid it. -/
structure RQ (G : PG) (T l td : List Nat) (X : Nat → Prop) : Prop where
  im : ∀ a ∈ l, ∃ i, PR G i ∧ a = T.getD i 0
  sub : ∀ a ∈ td, a ∈ l
  nd : td.Nodup
  clo : ∀ i t j, PR G i → T.getD i 0 ∈ l → T.getD i 0 ∉ td → ¬ X (T.getD i 0) → G.all[i]? = some t → t.form = 1 → PV.ref j ∈ t.fields → T.getD j 0 ∈ l
theorem RQ.start (G : PG) (T : List Nat) (X : Nat → Prop) : RQ G T [] [] X := ⟨(fun a h => nomatch h), (fun a h => nomatch h), List.nodup_nil, (fun i t j _ h => nomatch h)⟩
theorem RQ.put {G : PG} {T l td l' td' : List Nat} {X : Nat → Prop} {v : PV} (h : RQ G T l td X) (hv : ∀ i, v = .ref i → PR G i) (hl : ∀ a, a ∈ l' ↔ a ∈ l ∨ ∃ i, v = .ref i ∧ a = T.getD i 0) (hc : (l' = l ∧ td' = td) ∨ ∃ a, a ∉ l ∧ l' = l ++ [a] ∧ td' = td ++ [a]) : RQ G T l' td' X := by
  rcases hc with ⟨rfl, rfl⟩ | ⟨a, ha, rfl, rfl⟩
  · exact h
  · have hma : a ∈ l ++ [a] := List.mem_append_right _ (List.mem_singleton.2 rfl)
    obtain ⟨i, hi, hai⟩ := ((hl a).1 hma).resolve_left ha
    refine ⟨fun b hb => ?_, fun b hb => ?_, ?_, fun i' t j h1 h2 h3 h4 h5 h6 h7 => ?_⟩
    · rcases List.mem_append.1 hb with hb | hb
      · exact h.im b hb
      · exact ⟨i, hv i hi, by rw [List.mem_singleton.1 hb]; exact hai⟩
    · rcases List.mem_append.1 hb with hb | hb
      · exact List.mem_append_left _ (h.sub b hb)
      · exact List.mem_append_right _ hb
    · refine List.nodup_append.2 ⟨h.nd, by simp, fun x hx y hy e => ?_⟩
      rw [List.mem_singleton.1 hy] at e
      exact ha (e ▸ h.sub x hx)
    · have hn : T.getD i' 0 ≠ a := fun e => h3 (by rw [e]; exact List.mem_append_right _ (List.mem_singleton.2 rfl))
      have h2' : T.getD i' 0 ∈ l := by
        rcases List.mem_append.1 h2 with h2 | h2
        · exact h2
        · exact absurd (List.mem_singleton.1 h2) hn
      exact List.mem_append_left _ (h.clo i' t j h1 h2' (fun e => h3 (List.mem_append_left _ e)) h4 h5 h6 h7)
theorem RQ.len {G : PG} {T l td : List Nat} {X : Nat → Prop} (h : RQ G T l td X) (hG : G.WF) (hT : T.length = G.all.length) (hn : l.Nodup) : l.length ≤ T.length ∧ td.length ≤ T.length := by
  have hs : ∀ a ∈ l, a ∈ T := fun a ha => by
    obtain ⟨i, hi, rfl⟩ := h.im a ha
    have := hi.lt hG
    have hi2 : i < T.length := by omega
    simp [List.getD, List.getElem?_eq_getElem hi2]
  exact ⟨nodup_le l T hn hs, nodup_le td T h.nd (fun a ha => hs a (h.sub a ha))⟩

def mapSize (w : World) (b : Nat) : Nat := match w.heap[b]? with | some (.map es _) => es.size | _ => 0
def rowLen (w : World) (b : Nat) : Nat := match w.heap[b]? with | some (.cells cs _ _) => (match cs.getD 0 undef with | Value.slice _ n _ => n | _ => 0) | _ => 0
theorem RS.size {w : World} {base ob tb mb : Nat} {l td : List Nat} (h : RS w base ob tb mb l td) : mapSize w mb = l.length ∧ rowLen w tb = td.length := by
  obtain ⟨es, h1, h2⟩ := h.set.map
  obtain ⟨tv, h3, h4, -⟩ := h.todo
  constructor
  · unfold mapSize; rw [h1]
    show es.size = _
    rw [← Array.length_toList, h2, pents_len]
  · unfold rowLen; rw [h3]
    rcases h4.2 with ⟨e, e2⟩ | ⟨g, cap, cur, e, -⟩
    · rw [e]; exact e2.symm
    · rw [e]; rfl
/-- The last of those that are yet to be gone into is taken. -/
theorem RS.pop {w : World} {base ob tb mb : Nat} {l td : List Nat} {a : Nat} (h : RS w base ob tb mb l (td ++ [a])) :
    ∃ g cap, w.cell? ⟨tb, 0, none⟩ = some (.slice (some ⟨g, 0, none⟩) (td.length + 1) cap) ∧ w.frozen? ⟨tb, 0, none⟩ = false ∧ w.cell? ⟨g, td.length, none⟩ = some (pkey a) ∧ td.length + 1 ≤ cap ∧ RS (w.setCell ⟨tb, 0, none⟩ (.slice (some ⟨g, 0, none⟩) td.length cap)) base ob tb mb l td ∧ Keeps (fun z => base ≤ z) w (w.setCell ⟨tb, 0, none⟩ (.slice (some ⟨g, 0, none⟩) td.length cap)) := by
  obtain ⟨tv, h3, h4, h5⟩ := h.todo
  rw [List.length_append, List.map_append] at h4
  rcases h4.2 with ⟨e, e2⟩ | ⟨g, cap, cur, e, e1, e2, e3, e4, e5, e6⟩
  · simp at e2
  subst e
  have hne := h.ne
  have hge := h.ge
  have kt := (Keeps.refl (fun z => z = tb) w).setCell (p := ⟨tb, 0, none⟩) (fun _ => rfl) (.slice (some ⟨g, 0, none⟩) td.length cap)
  have hg := h5 g rfl
  have hcl := h4.cellAt td.length (by simp)
  refine ⟨g, cap, by rw [cell_of_heap h3 0]; rfl, frozen_of_heap h3 0, by rw [hcl]; simp, by simpa using e3, ⟨kt.heap h.out hne.1, ⟨_, by have := heap_setCell_at h3 0 (.slice (some ⟨g, 0, none⟩) td.length cap); simpa using this, ⟨by simp, .inr ⟨g, cap, cur, rfl, e1, kt.heap e2 hg.2.1, by simp at e3; omega, e4, e5, ?_⟩⟩, fun z hz => by injection hz with hz; subst hz; exact hg⟩, h.set.keeps kt (Ne.symm hne.2.2) (fun x hx e => by have := h.lo x hx; omega), hne, hge, h.lo, by have := h.bd; simp at this; omega⟩, kt.mono (fun z _ e => by rw [e]; exact hge.2.1)⟩
  have : cur.toList.take (td.length * 1) = (cur.toList.take ((td.length + [a].length) * 1)).take td.length := by
    rw [List.take_take]
    congr 1
    simp
  rw [this, e6]
  simp

theorem RS.nilCell {w : World} {base ob tb mb : Nat} {l : List Nat} (h : RS w base ob tb mb l []) : ∃ va vc, w.cell? ⟨tb, 0, none⟩ = some (.slice va 0 vc) := by
  obtain ⟨tv, h3, h4, h5⟩ := h.todo
  rcases h4.2 with ⟨e, -⟩ | ⟨g, cap, cur, e, -⟩
  · exact ⟨none, 0, by rw [cell_of_heap h3 0, e]; rfl⟩
  · exact ⟨_, cap, by rw [cell_of_heap h3 0, e]; rfl⟩
theorem flat_pvc (T : List Nat) : ∀ (fs : List PV) (q : Nat) (v : PV), fs[q]? = some v → (fs.flatMap (pvc T))[2 * q]? = some (.int .u64 (pvw v : Nat)) ∧ (fs.flatMap (pvc T))[2 * q + 1]? = some (pvp T v)
  | [], q, v, h => by cases h
  | a :: fs, 0, v, h => by
    simp only [List.getElem?_cons_zero, Option.some.injEq] at h
    subst h
    exact ⟨rfl, rfl⟩
  | a :: fs, q + 1, v, h => by
    have ih := flat_pvc T fs q v (by simpa using h)
    simp only [List.flatMap_cons, pvc, List.cons_append, List.nil_append]
    rw [show 2 * (q + 1) = 2 * q + 1 + 1 from by omega, show 2 * q + 1 + 1 + 1 = (2 * q + 1) + 1 + 1 from rfl]
    simp only [List.getElem?_cons_succ]
    exact ih
theorem T_inj {T : List Nat} (h : T.Nodup) {i j : Nat} (hi : i < T.length) (hj : j < T.length) (e : T.getD i 0 = T.getD j 0) : i = j := by
  simp only [List.getD, List.getElem?_eq_getElem hi, List.getElem?_eq_getElem hj, Option.getD_some] at e
  have hp := List.pairwise_iff_getElem.1 h
  rcases Nat.lt_trichotomy i j with q | q | q
  · exact absurd e (hp i j hi hj q)
  · exact q
  · exact absurd e.symm (hp j i hj hi q)
/-- One that isn't plain is gone into. -/
theorem RQ.skip {G : PG} {T l td : List Nat} {i : Nat} {t : PTh} (h : RQ G T l (td ++ [T.getD i 0]) (fun _ => False)) (hG : G.WF) (hT : T.length = G.all.length) (hnd : T.Nodup) (hi : PR G i) (ht : G.all[i]? = some t) (hf : t.form ≠ 1) : RQ G T l td (fun _ => False) :=
  ⟨h.im, fun a ha => h.sub a (List.mem_append_left _ ha), (List.nodup_append.1 h.nd).1, fun i' t' j h1 h2 h3 h4 h5 h6 h7 => by
    by_cases e : T.getD i' 0 = T.getD i 0
    · have := T_inj hnd (by have := h1.lt hG; omega) (by have := hi.lt hG; omega) e
      subst this
      rw [ht] at h5
      injection h5 with h5
      subst h5
      exact absurd h6 hf
    · exact h.clo i' t' j h1 h2 (fun hm => by
        rcases List.mem_append.1 hm with hm | hm
        · exact h3 hm
        · exact e (List.mem_singleton.1 hm)) h4 h5 h6 h7⟩
/-- A plain one is begun. -/
theorem RQ.begin {G : PG} {T l td : List Nat} {a : Nat} (h : RQ G T l (td ++ [a]) (fun _ => False)) : RQ G T l td (fun x => x = a) :=
  ⟨h.im, fun b hb => h.sub b (List.mem_append_left _ hb), (List.nodup_append.1 h.nd).1, fun i' t' j h1 h2 h3 h4 h5 h6 h7 => h.clo i' t' j h1 h2 (fun hm => by
    rcases List.mem_append.1 hm with hm | hm
    · exact h3 hm
    · exact h4 (List.mem_singleton.1 hm)) (fun h => h) h5 h6 h7⟩
/-- A plain one is done. -/
theorem RQ.ended {G : PG} {T l td : List Nat} {i : Nat} {t : PTh} (h : RQ G T l td (fun x => x = T.getD i 0)) (hG : G.WF) (hT : T.length = G.all.length) (hnd : T.Nodup) (hi : PR G i) (ht : G.all[i]? = some t) (hall : ∀ j, PV.ref j ∈ t.fields → T.getD j 0 ∈ l) : RQ G T l td (fun _ => False) :=
  ⟨h.im, h.sub, h.nd, fun i' t' j h1 h2 h3 h4 h5 h6 h7 => by
    by_cases e : T.getD i' 0 = T.getD i 0
    · have := T_inj hnd (by have := h1.lt hG; omega) (by have := hi.lt hG; omega) e
      subst this
      rw [ht] at h5
      injection h5 with h5
      subst h5
      exact hall j h7
    · exact h.clo i' t' j h1 h2 h3 e h5 h6 h7⟩

/-- What reached says. -/
structure ReachSaid (G : PG) (T : List Nat) (w : World) (e : Ending) (w' : World) : Prop where
  said : ∃ mb l, e = .returned (.map (some mb)) ∧ IsSet w' mb l ∧ w.heap.size ≤ mb ∧ (∀ a ∈ l, ∃ i, PR G i ∧ a = T.getD i 0) ∧ ∀ i, PR G i → T.getD i 0 ∈ l
  keeps : Keeps (fun _ => False) w w'

end Go.Proofs.Ytbjlapfcnldpoaa

/- reached, by its contract. -/
namespace Go.Proofs.Ytbjlapfcnldpoaa
set_option linter.unusedVariables false
set_option linter.unusedSimpArgs false
open Go.RowKit

set_option maxRecDepth 100000 in
set_option maxHeartbeats 4000000 in
theorem reached_is {w : World} {xb hb : Nat} {G : PG} {T U : List Nat} {bad full : Bool} (hR : RX w xb hb G T U bad full) (hlen : T.length ≤ 10000) (hnw : ∀ t ∈ G.all, t.form ≠ 3) :
    Calls Try.prog 31 #[.pointer (some ⟨xb, 0, none⟩)] w (ReachSaid G T w) := by
  obtain ⟨r0, r1, r2, r3, r4, r5, r6, r7, hregs⟩ := list8 hR.wf.len
  have HR := Box.mk hR
  obtain ⟨av, abase, hx, hown⟩ := hR.head
  obtain ⟨aa, ac, rfl⟩ : ∃ aa ac, av = .slice aa T.length ac := by
    rcases hown.2 with ⟨e, e2⟩ | ⟨g, cap, cur, e, -⟩
    · exact ⟨none, 0, by rw [e, e2]⟩
    · exact ⟨_, _, e⟩
  have HX := Box.mk (And.intro hx hown)
  have hxlt := lt_of_heap hx
  have Hregs := Box.mk hregs
  have hTl : Box (∀ a ∈ T, IsT w a ∧ a < w.heap.size) := ⟨fun a ha => by
    obtain ⟨i, hi, rfl⟩ := List.mem_iff_getElem.1 ha
    have h1 := hR.isT (i := i) (by have := hR.lens.1; omega)
    rw [show T.getD i 0 = T[i] from by simp [List.getD, List.getElem?_eq_getElem hi]] at h1
    obtain ⟨cs, hcs⟩ := h1
    exact ⟨⟨cs, hcs⟩, lt_of_heap hcs⟩⟩
  obtain ⟨w1, hw1⟩ : ∃ w1, w.alloc (.map #[] 0) = w1 := ⟨_, rfl⟩
  obtain ⟨w2, hw2⟩ : ∃ w2, w1.alloc (.cells #[.map (some w.heap.size)] 64) = w2 := ⟨_, rfl⟩
  obtain ⟨w3, hw3⟩ : ∃ w3, w2.alloc (.cells #[.slice none 0 0] 60) = w3 := ⟨_, rfl⟩
  have k1 : Keeps (fun _ => False) w w1 := by rw [← hw1]; exact (Keeps.refl _ w).alloc _
  have k2 : Keeps (fun _ => False) w1 w2 := by rw [← hw2]; exact (Keeps.refl _ w1).alloc _
  have k3 : Keeps (fun _ => False) w2 w3 := by rw [← hw3]; exact (Keeps.refl _ w2).alloc _
  have hs1 : w1.heap.size = w.heap.size + 1 := by rw [← hw1]; simp
  have hs2 : w2.heap.size = w.heap.size + 2 := by rw [← hw2]; simp [hs1]
  have hs3 : w3.heap.size = w.heap.size + 3 := by rw [← hw3]; simp [hs2]
  have hm0 : IsSet w1 w.heap.size [] := by rw [← hw1]; exact IsSet.made w
  have K3 := Box.mk ((k1.trans k2).trans k3)
  have HRS : Box (RS w3 w.heap.size w1.heap.size w2.heap.size w.heap.size [] []) := ⟨⟨k3.heap (by rw [← hw2]; exact heap_alloc_new w1 _) (fun h => h), ⟨.slice none 0 0, by rw [← hw3]; exact heap_alloc_new w2 _, World.ownsRow_nil _ _ _ _, fun z hz => by cases hz⟩, (hm0.keeps k2 (fun h => h) (fun _ _ h => h)).keeps k3 (fun h => h) (fun _ _ h => h), by omega, by omega, (fun a ha => by cases ha), by simp⟩⟩
  have hx3 := K3.out.heap hx (fun h => h)
  have hxc : ∀ i, w3.cell? ⟨xb, i, none⟩ = (xcells hb G T (.slice aa T.length ac) bad full)[i]? := fun i => by rw [cell_of_heap hx3]; simp
  unfold xcells at hxc
  rw [hregs] at hxc
  simp only [List.flatMap_cons, List.flatMap_nil, pvc, List.cons_append, List.nil_append, List.append_nil] at hxc
  have x1 := hxc 1; have x2 := hxc 2; have x3 := hxc 3; have x4 := hxc 4; have x5 := hxc 5; have x6 := hxc 6; have x7 := hxc 7; have x8 := hxc 8
  have x9 := hxc 9; have x10 := hxc 10; have x11 := hxc 11; have x12 := hxc 12; have x13 := hxc 13; have x14 := hxc 14; have x15 := hxc 15; have x16 := hxc 16
  simp only [List.getElem?_cons_succ, List.getElem?_cons_zero] at x1 x2 x3 x4 x5 x6 x7 x8 x9 x10 x11 x12 x13 x14 x15 x16
  have hmm := fun (W : World) => run_makeMap (P := Try.prog) 64 W
  have Hs := Box.mk (And.intro hs1 (And.intro hs2 hs3))
  clear hxc hx hx3 hown hR hregs k1 k2 k3 hm0 hs1 hs2 hs3
  go_enter Try.func31, Try.ntmps31
  go_wp2_with fail
  obtain ⟨base, hbase⟩ : ∃ base, w.heap.size = base := ⟨_, rfl⟩
  obtain ⟨ob, hob⟩ : ∃ ob, w1.heap.size = ob := ⟨_, rfl⟩
  obtain ⟨tb, htb⟩ : ∃ tb, w2.heap.size = tb := ⟨_, rfl⟩
  rw [hbase, hob, htb] at HRS
  have Hbs := Box.mk hbase
  rw [hbase, hob, htb]
  have Hbo := Box.mk (And.intro hob htb)
  have K3b : Box (Keeps (fun z => base ≤ z) w w3) := ⟨K3.out.mono (fun _ _ h => h.elim)⟩
  have hw3s : Box (base ≤ w3.heap.size) := ⟨by have := Hs.out; omega⟩
  have Hnw := Box.mk hnw
  have Hxb : Box (xb < base) := ⟨by rw [← hbase]; exact hxlt⟩
  clear hbase hob htb hnw
  go_loopw [19] (fun i wr => ∃ (j : Nat) (l td : List Nat), j ≤ 8 ∧ i = .int .i64 j ∧ Box (RS wr base ob tb base l td) ∧ Box (RQ G T l td (fun _ => False)) ∧ Box (∀ q i, q < j → G.regs[q]? = some (.ref i) → T.getD i 0 ∈ l) ∧ Box (Keeps (fun z => base ≤ z) w wr) ∧ Box (base ≤ wr.heap.size)) (fun i _ => 8 - (intOf i).toNat)
  case atStart => exact ⟨0, [], [], by omega, rfl, HRS, ⟨RQ.start _ _ _⟩, ⟨fun q i h => absurd h (Nat.not_lt_zero _)⟩, K3b, hw3s⟩
  case round =>
    clear HRS K3 K3b hw3s
    obtain ⟨j, l, td, hj, rfl, HRS, HQ, HP, K, HB⟩ := hrel
    by_cases hj8 : j < 8
    · have hj0 : (0 : Int) ≤ (j : Int) := by omega
      obtain ⟨v, hv, -⟩ := idx8 wr T r0 r1 r2 r3 r4 r5 r6 r7 j hj8
      have hix : ∀ W : World, (Instr.index 59 (.agg #[.int .u64 (pvw r0 : Nat), pvp T r0, .int .u64 (pvw r1 : Nat), pvp T r1, .int .u64 (pvw r2 : Nat), pvp T r2, .int .u64 (pvw r3 : Nat), pvp T r3, .int .u64 (pvw r4 : Nat), pvp T r4, .int .u64 (pvw r5 : Nat), pvp T r5, .int .u64 (pvw r6 : Nat), pvp T r6, .int .u64 (pvw r7 : Nat), pvp T r7]) (.int .i64 (j : Int))).run Try.prog W = .ok (.agg #[.int .u64 (pvw v : Nat), pvp T v]) W := fun W => by
        obtain ⟨v', hv', h⟩ := idx8 W T r0 r1 r2 r3 r4 r5 r6 r7 j hj8
        rw [hv] at hv'
        injection hv' with hv'
        rw [hv']; exact h
      have Hv : Box (G.regs[j]? = some v) := ⟨by rw [Hregs.out]; exact hv⟩
      clear hv
      obtain ⟨o, ho⟩ : ∃ o, pvp T v = .pointer o := by cases v <;> exact ⟨_, rfl⟩
      rw [ho] at hix
      have HPut := Box.mk (fun (W : World) (hW : RS W base ob tb base l td) (hb : base ≤ W.heap.size) (hk : Keeps (fun z => base ≤ z) w W) => put_pv (T := T) hW v (fun i e => by
        subst e
        have hl := HR.out.lens.1
        have h1 := HR.out.wf.regs i (List.mem_of_getElem? Hv.out)
        have hm : T.getD i 0 ∈ T := by
          have : i < T.length := by omega
          simp [List.getD, List.getElem?_eq_getElem this]
        obtain ⟨⟨cs, hcs⟩, h3⟩ := hTl.out _ hm
        rw [Hbs.out] at h3
        exact ⟨IsT.keeps ⟨cs, hcs⟩ hk (by omega), h3⟩) (by have := HQ.out.len HR.out.wf HR.out.lens.1 hW.set.nd; omega) hb)
      rw [ho] at HPut
      clear ho
      have kA : Keeps (fun _ => False) wr (wr.alloc (.cells #[.int .u64 (pvw v : Nat), .pointer o] 58)) := (Keeps.refl _ wr).alloc _
      have HRA := Box.mk (HRS.out.keeps kA (fun _ _ h => h))
      have KA := Box.mk (K.out.trans (kA.mono (S' := fun z => base ≤ z) (fun _ _ h => h.elim)))
      have HBA : Box (base ≤ (wr.alloc (.cells #[.int .u64 (pvw v : Nat), .pointer o] 58)).heap.size) := ⟨Nat.le_trans HB.out kA.size⟩
      clear kA HRS K HB
      go_wp2_with fail
      refine (HPut.out _ HRA.out HBA.out KA.out).mono ?_
      rintro e w5 ⟨rfl, ⟨l', td', hrs, hl, hc⟩, k5⟩
      have HRS5 := Box.mk hrs
      have K5 := Box.mk (KA.out.trans k5)
      have HB5 : Box (base ≤ w5.heap.size) := ⟨Nat.le_trans HBA.out k5.size⟩
      have HQ5 := Box.mk (HQ.out.put (fun i e => by subst e; exact .reg (List.mem_of_getElem? Hv.out)) hl hc)
      have HP5 : Box (∀ q i, q < j + 1 → G.regs[q]? = some (.ref i) → T.getD i 0 ∈ l') := ⟨fun q i hq e => by
        by_cases eq : q = j
        · subst eq
          rw [Hv.out] at e
          injection e with e
          exact (hl _).2 (Or.inr ⟨i, e, rfl⟩)
        · exact (hl _).2 (Or.inl (HP.out q i (by omega) e))⟩
      clear hrs hl hc k5 HRA KA HBA HPut HQ HP Hv
      go_wp2_with fail
      go_roundw
      case rel => exact ⟨j + 1, l', td', by omega, by go_num, HRS5, HQ5, HP5, K5, HB5⟩
      case measure => simp [intOf]; omega
    · have hj8e : j = 8 := by omega
      have hPall : Box (∀ i, PV.ref i ∈ G.regs → T.getD i 0 ∈ l) := ⟨fun i hi => by
        obtain ⟨q, hq, e⟩ := List.mem_iff_getElem.1 hi
        exact HP.out q i (by have := HR.out.wf.len; omega) (by rw [List.getElem?_eq_getElem hq, e])⟩
      clear HP hj8e
      go_wp2_with fail
      go_loopw [] (fun wr => ∃ (l td : List Nat), Box (RS wr base ob tb base l td) ∧ Box (RQ G T l td (fun _ => False)) ∧ Box (∀ i, PV.ref i ∈ G.regs → T.getD i 0 ∈ l) ∧ Box (Keeps (fun z => base ≤ z) w wr) ∧ Box (base ≤ wr.heap.size)) (fun wr => 2 * (T.length - mapSize wr base) + rowLen wr tb)
      case atStart => exact ⟨l, td, HRS, HQ, hPall, K, HB⟩
      case round =>
        clear HRS HQ hPall K HB
        obtain ⟨l, td, HRS, HQ, HP, K, HB⟩ := hrel
        have HM : Box (mapSize wr base = l.length ∧ rowLen wr tb = td.length ∧ l.length ≤ T.length) := ⟨HRS.out.size.1, HRS.out.size.2, (HQ.out.len HR.out.wf HR.out.lens.1 HRS.out.set.nd).1⟩
        obtain ⟨M, hM⟩ : ∃ M, 2 * (T.length - mapSize wr base) + rowLen wr tb = M := ⟨_, rfl⟩
        rw [hM]
        have HMM : Box (2 * (T.length - l.length) + td.length ≤ M) := ⟨by have := HM.out; omega⟩
        have HM1 : Box (2 * (T.length - l.length) + td.length = M) := ⟨by have := HM.out; omega⟩
        clear hM HM
        go_wp2_with fail
        go_loopw [] (fun wr => ∃ (l td : List Nat), Box (RS wr base ob tb base l td) ∧ Box (RQ G T l td (fun _ => False)) ∧ Box (∀ i, PV.ref i ∈ G.regs → T.getD i 0 ∈ l) ∧ Box (Keeps (fun z => base ≤ z) w wr) ∧ Box (base ≤ wr.heap.size) ∧ Box (2 * (T.length - l.length) + td.length ≤ M)) (fun wr => 2 * (T.length - mapSize wr base) + rowLen wr tb)
        case atStart => exact ⟨l, td, HRS, HQ, HP, K, HB, HMM⟩
        case round =>
          clear HRS HQ HP K HB HMM
          obtain ⟨l, td, HRS, HQ, HP, K, HB, HMM⟩ := hrel
          have HM : Box (mapSize wr base = l.length ∧ rowLen wr tb = td.length ∧ l.length ≤ T.length) := ⟨HRS.out.size.1, HRS.out.size.2, (HQ.out.len HR.out.wf HR.out.lens.1 HRS.out.set.nd).1⟩
          rcases List.eq_nil_or_concat td with rfl | ⟨td0, a, rfl⟩
          · obtain ⟨va, vc, hcell⟩ := HRS.out.nilCell
            have hxw := K.out.heap HX.out.1 (by have := Hxb.out; omega)
            have y17 : wr.cell? ⟨xb, 17, none⟩ = some (.slice aa T.length ac) := by
              rw [cell_of_heap hxw]
              unfold xcells
              rw [Hregs.out]
              rfl
            obtain ⟨n, hn⟩ : ∃ n, T.length = n := ⟨_, rfl⟩
            have Hn := Box.mk hn
            have hnb : n ≤ 10000 := by omega
            rw [hn] at y17
            clear hxw hn
            go_wp2_with fail
            go_loopw [63] (fun i wr => ∃ (q : Nat), q ≤ n ∧ i = .int .i64 q ∧ Box (RS wr base ob tb base l []) ∧ Box (Keeps (fun z => base ≤ z) w wr)) (fun i _ => n - (intOf i).toNat)
            case atStart => exact ⟨0, Nat.zero_le _, rfl, HRS, K⟩
            case round =>
              clear HRS K
              obtain ⟨q, hq, rfl, HRS, K⟩ := hrel
              by_cases hqn : q < n
              · have hq0 : (0 : Int) ≤ (q : Int) := by omega
                have hown := HX.out.2
                rw [Hn.out] at hown
                obtain ⟨ag, acap, hae, hab, hal⟩ := hown.form (by omega)
                simp only [Value.slice.injEq, true_and] at hae
                obtain ⟨rfl, rfl⟩ := hae
                have z1 := hown.cellAt q (by omega)
                have hqT : q < T.length := by rw [Hn.out]; exact hqn
                rw [List.getElem?_map, List.getElem?_eq_getElem hqT, Option.map_some] at z1
                have hag : ag < base := by rw [← Hbs.out]; exact hal
                have z1' := K.out.cell z1 (show ¬ base ≤ ag by omega)
                obtain ⟨th, hth⟩ : ∃ th, G.all[q]? = some th := ⟨_, List.getElem?_eq_getElem (by have := HR.out.lens.1; omega)⟩
                obtain ⟨fv, fb, hT1, hT2⟩ := HR.out.thing q th hth
                rw [show T.getD q 0 = T[q] from by simp [List.getD, List.getElem?_eq_getElem hqT]] at hT1
                obtain ⟨a, ha⟩ : ∃ a, T[q] = a := ⟨_, rfl⟩
                rw [ha] at hT1 z1'
                unfold pkey at z1'
                have hab2 : a < base := by rw [← Hbs.out]; exact lt_of_heap hT1
                have hTn := K.out.heap hT1 (show ¬ base ≤ a by omega)
                have y0 := cell_of_heap hTn 0
                simp at y0
                have hf3 : ((th.form : Int) == 3) = false := by
                  have := Hnw.out th (List.mem_of_getElem? hth)
                  rw [beq_eq_false_iff_ne]; omega
                clear z1 hown hT1 hT2 hTn ha hth
                go_wp2_with fail
                go_quiet (fail)
                have HRS5 := Box.mk (HRS.out.keeps ((Keeps.refl (fun _ => False) wr).drewN nq) (fun _ _ h => h))
                have K5 := Box.mk (K.out.drewN nq)
                clear HRS K
                go_wp2_with fail
                go_roundw
                case rel => exact ⟨q + 1, by omega, by go_num, HRS5, K5⟩
                case measure => simp [intOf]; omega
              · have hqn2 : ¬ ((q : Int) < (n : Int)) := by omega
                obtain ⟨va2, vc2, hcell2⟩ := HRS.out.nilCell
                have hobc := cell_of_heap HRS.out.out 0
                simp at hobc
                have hall : Box (∀ i, PR G i → T.getD i 0 ∈ l) := ⟨fun i hi => by
                  induction hi with
                  | reg h => exact HP.out _ h
                  | fld h ht hf hm ih => exact HQ.out.clo _ _ _ h ih (fun h => nomatch h) (fun h => h) ht hf hm
                  | weakN _ ht hf _ _ _ => exact absurd hf (Hnw.out _ (List.mem_of_getElem? ht))
                  | weakR _ ht hf _ _ _ _ _ => exact absurd hf (Hnw.out _ (List.mem_of_getElem? ht))⟩
                have hK : Box (Keeps (fun _ => False) w wr) := ⟨⟨K.out.os, K.out.tape, K.out.output, K.out.size, fun k hk _ => K.out.block k hk (by rw [Hbs.out] at hk; omega)⟩⟩
                go_wp2_with fail
                go_ret
                exact ⟨⟨base, l, rfl, HRS.out.set, by rw [Hbs.out]; exact Nat.le_refl _, HQ.out.im, hall.out⟩, hK.out⟩
          · rw [List.concat_eq_append] at HRS HQ HMM HM
            obtain ⟨rg, rcap, p1, p2, p3, p4, hrs0, hk0⟩ := HRS.out.pop
            obtain ⟨i, hi, hai⟩ := HQ.out.im a (HQ.out.sub a (List.mem_append_right _ (List.mem_singleton.2 rfl)))
            have hil := hi.lt HR.out.wf
            obtain ⟨th, hth⟩ : ∃ th, G.all[i]? = some th := ⟨_, List.getElem?_eq_getElem hil⟩
            obtain ⟨fv, fb, hT1, hT2⟩ := HR.out.thing i th hth
            rw [← hai] at hT1
            obtain ⟨fa, fc, rfl⟩ : ∃ fa fc, fv = .slice fa th.fields.length fc := by
              rcases hT2.2 with ⟨e, e2⟩ | ⟨g, cap, cur, e, -⟩
              · exact ⟨none, 0, by rw [e, e2]⟩
              · exact ⟨_, _, e⟩
            have Hth := Box.mk hth
            have Hi3 := Box.mk hi
            have Hai := Box.mk hai
            have HRS0 := Box.mk hrs0
            have K0 := Box.mk (K.out.trans hk0)
            have hab : a < base := by
              have := HRS.out.lo a (HQ.out.sub a (List.mem_append_right _ (List.mem_singleton.2 rfl)))
              exact this
            have hTn := K0.out.heap hT1 (by omega)
            have y0 := cell_of_heap hTn 0
            have y1 := cell_of_heap hTn 1
            simp at y0 y1
            obtain ⟨n, hn⟩ : ∃ n, td0.length = n := ⟨_, rfl⟩
            rw [hn] at p1 p3 p4 hrs0 hk0 y0 y1 HRS0 K0 hTn
            have hnb : n ≤ 10000 := by
              have h1 := (HQ.out.len HR.out.wf HR.out.lens.1 HRS.out.set.nd).2
              rw [List.length_append] at h1
              omega
            unfold pkey at p3
            have HT1 := Box.mk hT1
            have HT2 := Box.mk hT2
            have HTn := Box.mk hTn
            clear hrs0 hk0 hi hth hai hT1 hT2 hTn HRS K hil
            by_cases hf : th.form = 1
            · have hf1 : ((th.form : Int) == 1) = true := by rw [hf]; rfl
              have HQ0 : Box (RQ G T l td0 (fun z => z = a)) := ⟨HQ.out.begin⟩
              have HB0 : Box (base ≤ (wr.setCell ⟨tb, 0, none⟩ (.slice (some ⟨rg, 0, none⟩) n rcap)).heap.size) := ⟨by simpa using HB.out⟩
              have hnf := HR.out.wf.small th (List.mem_of_getElem? Hth.out)
              obtain ⟨nf, hnf2⟩ : ∃ nf, th.fields.length = nf := ⟨_, rfl⟩
              have HT2' := HT2.out
              rw [hnf2] at hnf HT2' y1
              have HT2 := Box.mk HT2'
              have Hnf := Box.mk hnf2
              have Hln : Box (2 * (T.length - l.length) + td0.length ≤ 2 * (T.length - l.length) + td0.length) := ⟨Nat.le_refl _⟩
              have Hms : Box (2 * (T.length - l.length) + td0.length < 2 * (T.length - mapSize wr base) + rowLen wr tb) := ⟨by
                have h2 := HM.out
                rw [h2.1, h2.2.1, List.length_append]
                simp⟩
              clear HT2' hnf2
              go_wp2_with fail
              go_loopw [50] (fun i wr => ∃ (q : Nat) (l1 td1 : List Nat), q ≤ nf ∧ i = .int .i64 q ∧ Box (RS wr base ob tb base l1 td1) ∧ Box (RQ G T l1 td1 (fun z => z = a)) ∧ Box (∀ i, PV.ref i ∈ G.regs → T.getD i 0 ∈ l1) ∧ Box (∀ q' i, q' < q → th.fields[q']? = some (.ref i) → T.getD i 0 ∈ l1) ∧ Box (Keeps (fun z => base ≤ z) w wr) ∧ Box (base ≤ wr.heap.size) ∧ Box (2 * (T.length - l1.length) + td1.length ≤ 2 * (T.length - l.length) + td0.length)) (fun i _ => nf - (intOf i).toNat)
              case atStart => exact ⟨0, l, td0, Nat.zero_le _, rfl, HRS0, HQ0, HP, ⟨fun q' i h => absurd h (Nat.not_lt_zero _)⟩, K0, HB0, Hln⟩
              case round =>
                clear HRS0 HQ0 HP K0 HB0 Hln
                obtain ⟨q, l1, td1, hq, rfl, HRS1, HQ1, HP1, HF1, K1, HB1, HL1⟩ := hrel
                by_cases hqn : q < nf
                · have hq0 : (0 : Int) ≤ (q : Int) := by omega
                  obtain ⟨v, hv⟩ : ∃ v, th.fields[q]? = some v := ⟨_, List.getElem?_eq_getElem (by have := Hnf.out; omega)⟩
                  obtain ⟨fg, fcap, hfe, hfb, hfl⟩ := HT2.out.form (by omega)
                  simp only [Value.slice.injEq, true_and] at hfe
                  obtain ⟨rfl, rfl⟩ := hfe
                  have z1 := HT2.out.cellAt (2 * q) (by omega)
                  have z2 := HT2.out.cellAt (2 * q + 1) (by omega)
                  rw [(flat_pvc T th.fields q v hv).1] at z1
                  rw [(flat_pvc T th.fields q v hv).2] at z2
                  have hfg : fg < base := by rw [← Hbs.out]; exact hfl
                  have z1' := K1.out.cell z1 (show ¬ base ≤ fg by omega)
                  have z2' := K1.out.cell z2 (show ¬ base ≤ fg by omega)
                  have Hv := Box.mk hv
                  obtain ⟨o, ho⟩ : ∃ o, pvp T v = .pointer o := by cases v <;> exact ⟨_, rfl⟩
                  have HPut := Box.mk (fun (W : World) (hW : RS W base ob tb base l1 td1) (hb : base ≤ W.heap.size) (hk : Keeps (fun z => base ≤ z) w W) => put_pv (T := T) hW v (fun i e => by
                    subst e
                    have hl := HR.out.lens.1
                    have h1 := HR.out.wf.flds th (List.mem_of_getElem? Hth.out) i (List.mem_of_getElem? Hv.out)
                    have hm : T.getD i 0 ∈ T := by
                      have : i < T.length := by omega
                      simp [List.getD, List.getElem?_eq_getElem this]
                    obtain ⟨⟨cs, hcs⟩, h3⟩ := hTl.out _ hm
                    rw [Hbs.out] at h3
                    exact ⟨IsT.keeps ⟨cs, hcs⟩ hk (by omega), h3⟩) (by have := HQ1.out.len HR.out.wf HR.out.lens.1 hW.set.nd; omega) hb)
                  rw [ho] at HPut z2'
                  rw [Nat.mul_comm] at z1' z2'
                  clear ho z1 z2 hv
                  have kA : Keeps (fun _ => False) wr (wr.alloc (.cells #[.int .u64 (pvw v : Nat), .pointer o] 58)) := (Keeps.refl _ wr).alloc _
                  have HRA := Box.mk (HRS1.out.keeps kA (fun _ _ h => h))
                  have KA := Box.mk (K1.out.trans (kA.mono (S' := fun z => base ≤ z) (fun _ _ h => h.elim)))
                  have HBA : Box (base ≤ (wr.alloc (.cells #[.int .u64 (pvw v : Nat), .pointer o] 58)).heap.size) := ⟨Nat.le_trans HB1.out kA.size⟩
                  have hlT := (HQ1.out.len HR.out.wf HR.out.lens.1 HRS1.out.set.nd).1
                  have HlT := Box.mk hlT
                  clear kA HRS1 K1 HB1 hlT
                  go_wp2_with fail
                  refine (HPut.out _ HRA.out HBA.out KA.out).mono ?_
                  rintro e w5 ⟨rfl, ⟨l2, td2, hrs, hl, hc⟩, k5⟩
                  have HRS5 := Box.mk hrs
                  have K5 := Box.mk (KA.out.trans k5)
                  have HB5 : Box (base ≤ w5.heap.size) := ⟨Nat.le_trans HBA.out k5.size⟩
                  have hq5 := HQ1.out.put (fun i e => by subst e; exact .fld Hi3.out Hth.out hf (List.mem_of_getElem? Hv.out)) hl hc
                  have HQ5 := Box.mk hq5
                  have HP5 : Box (∀ i, PV.ref i ∈ G.regs → T.getD i 0 ∈ l2) := ⟨fun i hi => (hl _).2 (Or.inl (HP1.out i hi))⟩
                  have HF5 : Box (∀ q' i, q' < q + 1 → th.fields[q']? = some (.ref i) → T.getD i 0 ∈ l2) := ⟨fun q' i hq' e => by
                    by_cases eq : q' = q
                    · subst eq
                      rw [Hv.out] at e
                      injection e with e
                      exact (hl _).2 (Or.inr ⟨i, e, rfl⟩)
                    · exact (hl _).2 (Or.inl (HF1.out q' i (by omega) e))⟩
                  have HL5 : Box (2 * (T.length - l2.length) + td2.length ≤ 2 * (T.length - l.length) + td0.length) := ⟨by
                    have h1 := HL1.out
                    have h2 := (hq5.len HR.out.wf HR.out.lens.1 hrs.set.nd).1
                    rcases hc with ⟨e1, e2⟩ | ⟨b, -, e1, e2⟩
                    · rw [e1, e2]; exact h1
                    · rw [e1] at h2 ⊢
                      rw [e2]
                      simp only [List.length_append, List.length_singleton] at h2 ⊢
                      omega⟩
                  clear hrs hl hc k5 hq5 HRA KA HBA HPut HQ1 HP1 HF1 HL1 Hv z1' z2'
                  go_wp2_with fail
                  go_roundw
                  case rel => exact ⟨q + 1, l2, td2, by omega, by go_num, HRS5, HQ5, HP5, HF5, K5, HB5, HL5⟩
                  case measure => simp [intOf]; omega
                · have hqn2 : ¬ ((q : Int) < (nf : Int)) := by omega
                  have HQe : Box (RQ G T l1 td1 (fun _ => False)) := ⟨by
                    have h := HQ1.out
                    rw [Hai.out] at h
                    refine h.ended HR.out.wf HR.out.lens.1 HR.out.nd Hi3.out Hth.out (fun j hj => ?_)
                    obtain ⟨q', hq', e⟩ := List.mem_iff_getElem.1 hj
                    exact HF1.out q' j (by have := Hnf.out; omega) (by rw [List.getElem?_eq_getElem hq', e])⟩
                  have HMe : Box (2 * (T.length - l1.length) + td1.length ≤ M) := ⟨by
                    have h1 := HL1.out
                    have h2 := HMM.out
                    rw [List.length_append] at h2
                    omega⟩
                  have Hme : Box (2 * (T.length - mapSize wr base) + rowLen wr tb = 2 * (T.length - l1.length) + td1.length) := ⟨by
                    have h := HRS1.out.size
                    rw [h.1, h.2]⟩
                  go_wp2_with fail
                  go_roundw
                  case rel => exact ⟨l1, td1, HRS1, HQe, HP1, K1, HB1, HMe⟩
                  case measure =>
                    rw [Hme.out]
                    exact Nat.lt_of_le_of_lt HL1.out Hms.out
            · have hf1 : ((th.form : Int) == 1) = false := by rw [beq_eq_false_iff_ne]; omega
              have HQ0 : Box (RQ G T l td0 (fun _ => False)) := ⟨by
                have h := HQ.out
                rw [Hai.out] at h
                exact h.skip HR.out.wf HR.out.lens.1 HR.out.nd Hi3.out Hth.out hf⟩
              have HB0 : Box (base ≤ (wr.setCell ⟨tb, 0, none⟩ (.slice (some ⟨rg, 0, none⟩) n rcap)).heap.size) := ⟨by simpa using HB.out⟩
              have HMM0 : Box (2 * (T.length - l.length) + td0.length ≤ M) := ⟨by have := HMM.out; rw [List.length_append] at this; omega⟩
              have Hms : Box (2 * (T.length - mapSize (wr.setCell ⟨tb, 0, none⟩ (.slice (some ⟨rg, 0, none⟩) n rcap)) base) + rowLen (wr.setCell ⟨tb, 0, none⟩ (.slice (some ⟨rg, 0, none⟩) n rcap)) tb < 2 * (T.length - mapSize wr base) + rowLen wr tb) := ⟨by
                have h1 := HRS0.out.size
                have h2 := HM.out
                rw [h1.1, h1.2, h2.1, h2.2.1, List.length_append]
                simp⟩
              go_wp2_with fail
              go_roundw
              case rel => exact ⟨l, td0, HRS0, HQ0, HP, K0, HB0, HMM0⟩
              case measure => exact Hms.out

end Go.Proofs.Ytbjlapfcnldpoaa

