/- Appends of a row of numbers, whatever the row: none or somewhere. -/
import Derived.Test.YtlbmknnpglandaaRingRs
import Derived.Laws.AppendOwnNone
import Derived.Deep.RegionLaw
import Derived.Deep.CutRange
namespace Go.Proofs.Ytlbmknnpglandaa
set_option linter.unusedVariables false
set_option linter.unusedSimpArgs false
open Go.RowKit

def zcells (zs : List Int) : List Value := zs.map (Value.int .i64)

section
variable {ops : Array Oper} {rest : List Oper} {o : Oper} {a : Act} {w : World} {K : Act → World → Prop} {Q : Exit → Act → World → Prop}

theorem wp_append_row (s x : Operand) (ho : o.op = .call { callee := .builtin .append, args := #[s, x], argTypes := #[34, 34] })
    (base : Nat) (v : Value) (n : Nat) (xs : List Value) (hs : a.eval s = v) (hown : w.ownsRow base 3 1 v n xs)
    (a' : Option Addr) (n' c' : Nat) (zs : List Int) (hx : a.eval x = .slice a' n' c') (hrow : IsRow .i64 w (.slice a' n' c') zs) (hn : n + n' ≤ 100000) (hbase : base ≤ w.heap.size)
    (h : ∀ a1 c1 w', w'.ownsRow base 3 1 (.slice a1 (n + n') c1) (n + n') (xs ++ zcells zs) → w.grownBy w' v.ownBlock → K (a.put o.dst (.slice a1 (n + n') c1)) w') : Oper.wp Try.prog o a w K Q := by
  obtain ⟨i0, hi0, hz0, hz1, hz2⟩ := info_parts info_int
  have h : ∀ v' w', w'.ownsRow base 3 1 v' (n + n') (xs ++ zcells zs) → w.grownBy w' v.ownBlock → K (a.put o.dst v') w' := by
    intro v' w' h2 h3
    rcases h2.2 with ⟨rfl, h0⟩ | ⟨q, c, cur, rfl, _⟩
    · rw [h0] at h h2
      exact h none 0 w' h2 h3
    · exact h _ _ w' h2 h3
  cases a' with
  | none =>
    cases hrow with
    | empty =>
      have hrun := run_append_owned_none (P := Try.prog) (w := w) base 34 o.type 3 i0 1 Try.underlying34 hi0 v n xs hown
      unfold Oper.wp
      simp [execOp, ho, resolve, invoke, builtin, hs, hx, hrun, Result.andThen]
      exact h v w (by simpa [zcells] using hown) ⟨rfl, rfl, rfl, Nat.le_refl _, fun _ _ _ => rfl⟩
  | some ad =>
    obtain ⟨hl, hm⟩ := hrow.len
    have hcells : ∀ i, i < n' → w.cell? (ad.add i) = some (.int .i64 (zs.getD i 0)) := by
      cases hrow with
      | full _ _ _ hc _ => exact hc
    refine wp_append_own w s x 34 ho base 3 i0 _ 1 8 Try.underlying34 hi0 hz0 hz1 hz2 rfl (by decide) v n xs hs hown ad n' c' (zcells zs) hx (by simp [zcells, hl]) (fun j u hj => ?_) (fun u hu => ?_) (by unfold maxLen; omega) (by omega) hbase (fun v' w' h2 h3 _ => h v' w' h2 h3)
    · have hjl : j < zs.length := by
        have := (List.getElem?_eq_some_iff.1 hj).1
        simpa [zcells] using this
      rw [hcells j (by omega)]
      simp [zcells, hjl] at hj
      rw [← hj]
      simp [List.getD, hjl]
    · simp only [zcells, List.mem_map] at hu
      obtain ⟨z, -, rfl⟩ := hu
      rfl
theorem step_append_row {E : Prop} (hgd : o.guard = none) (s x : Operand) (ho : o.op = .call { callee := .builtin .append, args := #[s, x], argTypes := #[34, 34] })
    (base : Nat) (v : Value) (n : Nat) (xs : List Value) (hs : a.eval s = v) (hown : w.ownsRow base 3 1 v n xs)
    (a' : Option Addr) (n' c' : Nat) (zs : List Int) (hx : a.eval x = .slice a' n' c') (hrow : IsRow .i64 w (.slice a' n' c') zs) (tot : Nat) (htot : n + n' = tot) (hn : tot ≤ 100000) (hbase : base ≤ w.heap.size)
    (h : ∀ a1 c1 w', w'.ownsRow base 3 1 (.slice a1 tot c1) tot (xs ++ zcells zs) → w.grownBy w' v.ownBlock → K (a.put o.dst (.slice a1 tot c1)) w') :
    if Region.wanted o (yielded ops a.tmps) = true then Oper.wp Try.prog o a w K Q else E := by
  subst htot
  have hw : Region.wanted o (yielded ops a.tmps) = true := by simp [Region.wanted, hgd]
  rw [if_pos hw]
  exact wp_append_row s x ho base v n xs hs hown a' n' c' zs hx hrow hn hbase h
theorem wpList_append_row (hgd : o.guard = none) (s x : Operand) (ho : o.op = .call { callee := .builtin .append, args := #[s, x], argTypes := #[34, 34] })
    (base : Nat) (v : Value) (n : Nat) (xs : List Value) (hs : a.eval s = v) (hown : w.ownsRow base 3 1 v n xs)
    (a' : Option Addr) (n' c' : Nat) (zs : List Int) (hx : a.eval x = .slice a' n' c') (hrow : IsRow .i64 w (.slice a' n' c') zs) (tot : Nat) (htot : n + n' = tot) (hn : tot ≤ 100000) (hbase : base ≤ w.heap.size)
    (h : ∀ a1 c1 w', w'.ownsRow base 3 1 (.slice a1 tot c1) tot (xs ++ zcells zs) → w.grownBy w' v.ownBlock → wpList Try.prog ops Q rest (a.put o.dst (.slice a1 tot c1)) w') : wpList Try.prog ops Q (o :: rest) a w := by
  subst htot
  refine wpList_plain hgd fun K' hK' => ?_
  exact wp_append_row s x ho base v n xs hs hown a' n' c' zs hx hrow hn hbase (fun a1 c1 w' h2 h3 => hK' _ _ (h a1 c1 w' h2 h3))
end

theorem IsRow.heap {w w' : World} {k : IntKind} {v : Value} {zs : List Int} (h : IsRow k w v zs) (hh : w'.heap = w.heap) : IsRow k w' v zs := by
  cases h with
  | empty => exact .empty
  | full hl hm hz hc hw => exact .full hl hm hz (fun i hi => by rw [World.cell?_of_block (w := w) (by rw [hh])]; exact hc i hi) hw
theorem ungrow {w w1 w2 : World} {row : Option Nat} (h : w1.grownBy w2 row) (ho : w1.os = w.os) (ht : w1.tape = w.tape) (hp : w1.output = w.output) (hh : w1.heap = w.heap) : w.grownBy w2 row :=
  ⟨h.os.trans ho, h.tape.trans ht, h.output.trans hp, by have := h.size; rwa [hh] at this, fun k hk hn => by have := h.block k (by rw [hh]; exact hk) hn; rwa [hh] at this⟩
theorem zcells_nat (l : List Nat) : zcells (l.map (fun x : Nat => (x : Int))) = icells l := by simp [zcells, icells]
theorem Mem.row {b g rb mb B n m : Nat} {w : World} {W W' : List Nat} {v : Nat → Value} {R : Nat → List Nat} {f f' : Nat → Option Nat} (h : Mem b g rb mb B w n W v R f) (hr : RS m W' R f') (hm : m ≤ 1000) {k : Nat} (hk : k < 3) :
    ∃ a c, v k = .slice a (R k).length c ∧ IsRow .i64 w (.slice a (R k).length c) ((R k).map (fun x : Nat => (x : Int))) := by
  have h1 := row_of_own (h.own k hk) (fun x hx => hr.small hm hk hx)
  obtain ⟨a, l, c, hv⟩ := h1.form
  rw [hv] at h1
  have hl := h1.len.1
  simp at hl
  subst hl
  exact ⟨a, c, hv, h1⟩
theorem take_upd (L : List Nat) (f : Nat → Option Nat) (h j : Nat) (hj : j < L.length) : upd (fun x => if x ∈ L.take j then some h else f x) (L.getD j 0) (some h) = fun x => if x ∈ L.take (j + 1) then some h else f x := by
  funext y
  have e : L.take (j + 1) = L.take j ++ [L.getD j 0] := by
    rw [List.take_add_one, List.getElem?_eq_getElem hj]
    simp [List.getD, hj]
  rw [e]
  by_cases h1 : y = L.getD j 0
  · subst h1
    rw [upd_at]
    simp
  · rw [upd_ne _ _ h1]
    have h2 : (y ∈ L.take j ++ [L.getD j 0]) = (y ∈ L.take j) := by
      apply propext
      simp only [List.mem_append, List.mem_singleton]
      exact ⟨fun h => h.resolve_right h1, Or.inl⟩
    simp only [h2]
theorem filter_step (L : List Nat) (q j : Nat) (hj : j < L.length) : (L.take (j + 1)).filter (fun x => x != q) = if L.getD j 0 = q then (L.take j).filter (fun x => x != q) else (L.take j).filter (fun x => x != q) ++ [L.getD j 0] := by
  have e : L.take (j + 1) = L.take j ++ [L.getD j 0] := by
    rw [List.take_add_one, List.getElem?_eq_getElem hj]
    simp [List.getD, hj]
  rw [e, List.filter_append]
  generalize L.getD j 0 = x
  by_cases h : x = q
  · subst h; simp
  · rw [if_neg h]
    congr 1
    simp [h]
theorem lowerI {w : World} {base base' : Nat} {v : Value} {n : Nat} {xs : List Value} (hb : base' ≤ base) (h : w.ownsRow base 3 1 v n xs) : w.ownsRow base' 3 1 v n xs :=
  ⟨h.1, h.2.imp id (fun ⟨g, cap, cur, h1, h2, h3⟩ => ⟨g, cap, cur, h1, Nat.le_trans hb h2, h3⟩)⟩
theorem IsRow.keeps {w w' : World} {k : IntKind} {v : Value} {zs : List Int} (h : IsRow k w v zs) {S : Nat → Prop} (hk : Keeps S w w') (hs : ∀ b o n c, v = .slice (some ⟨b, o, none⟩) n c → 0 < n → ¬ S b) : IsRow k w' v zs := by
  cases h with
  | empty => exact .empty
  | full hl hm hz hc hw =>
    rename_i a len cap
    refine .full hl hm hz (fun i hi => ?_) hw
    obtain ⟨bb, oo, rfl, -⟩ := (IsRow.full hl hm hz hc hw : IsRow k w (.slice (some a) len cap) zs).at (by omega)
    have h1 := hc i hi
    rw [Addr.add_lit] at h1 ⊢
    exact hk.cell h1 (hs bb oo _ _ rfl (by omega))

end Go.Proofs.Ytlbmknnpglandaa
