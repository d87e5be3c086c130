/- Who is in which row: a map from int to int. -/
import Derived.Test.YtlbmknnpglandaaRing5
import Derived.Test.YtlbmknnpglandaaRingRows
import Derived.Maps.OwnSet
namespace Go.Proofs.Ytlbmknnpglandaa
set_option linter.unusedVariables false
set_option linter.unusedSimpArgs false
open Go.RowKit Go.Maps

theorem lawInt : Keyed Try.prog 3 := int_keyed Try.underlying3
theorem zeroInt (w : World) : (zeroValue 3).run Try.prog w = .ok (.int .i64 0) w := by kernel_rfl
theorem wf_small (x : Nat) (h : x ≤ 1048576) : (Lit.int .i64 (x : Int)).wf = true := by
  simp [Lit.wf, IntKind.min, IntKind.max, IntKind.bits, IntKind.signed]
  omega

/-- The map in block b has f's entries; n: at most so many. -/
def IsIn (w : World) (b n : Nat) (f : Nat → Option Nat) : Prop :=
  ∃ D : DataW Unit, w.ownsMap Try.prog 3 (plainElem Try.prog 3) b n D ∧ ∀ x : Nat, x ≤ 1048576 → Go.Maps.has D (.int .i64 (x : Int)) = (f x).isSome ∧ ∀ k, f x = some k → D.atKey (.int .i64 (x : Int)) (.lit (.int .i64 0)) = .lit (.int .i64 (k : Int))

theorem IsIn.keeps {w w' : World} {b n : Nat} {f : Nat → Option Nat} (h : IsIn w b n f) {S : Nat → Prop} (k : Keeps S w w') (hs : ¬ S b) : IsIn w' b n f := by
  obtain ⟨D, ⟨es, c, h1, h2⟩, h3⟩ := h
  exact ⟨D, ⟨es, c, k.heap h1 hs, h2⟩, h3⟩
theorem IsIn.lt {w : World} {b n : Nat} {f : Nat → Option Nat} (h : IsIn w b n f) : b < w.heap.size := by
  obtain ⟨D, h1, -⟩ := h
  exact h1.lt
theorem IsIn.more {w : World} {b n n' : Nat} {f : Nat → Option Nat} (h : IsIn w b n f) (hn : n ≤ n') : IsIn w b n' f := by
  obtain ⟨D, h1, h2⟩ := h
  exact ⟨D, h1.mono hn, h2⟩
theorem IsIn.made (w : World) : IsIn (w.alloc (.map #[] 0)) w.heap.size 0 (fun _ => none) :=
  ⟨.map [], World.ownsMap_made _ _ _ _, fun x _ => ⟨rfl, fun k h => by cases h⟩⟩
theorem key_ne {x y : Nat} (h : y ≠ x) : Lit.int .i64 (y : Int) ≠ Lit.int .i64 (x : Int) := by
  intro e
  injection e with _ e
  omega

section
variable (w : World) {ops : Array Oper} {rest : List Oper} {o : Oper} {a : Act} {Q : Exit → Act → World → Prop}

theorem wpList_in_look (hg : o.guard = none) (m x : Operand) (hop : o.op = Op.lookup 65 m x true) (b n : Nat) (f : Nat → Option Nat)
    (hm : a.eval m = .map (some b)) (hown : IsIn w b n f) (key : Nat) (hk : key ≤ 1048576) (hx : a.eval x = .int .i64 (key : Int))
    (hK : ∀ c : Int, (∀ k, f key = some k → c = (k : Int)) → wpList Try.prog ops Q rest (a.put o.dst (.tuple #[.int .i64 c, .bool (f key).isSome])) w) : wpList Try.prog ops Q (o :: rest) a w := by
  obtain ⟨D, h1, h2⟩ := hown
  obtain ⟨h3, h4⟩ := h2 key hk
  refine wpList_lookup_own_ok_int w hg m x _ hop 3 3 .i64 lawInt Try.underlying65 Try.underlying3 (zeroInt w) b n D hm h1 _ _ hx (keyOf_int_mk Try.underlying3 (wf_small key hk)) ?_
  intro c hc hw
  rw [h3]
  refine hK c (fun k hfk => ?_)
  have := h4 k hfk
  rw [hc] at this
  injection this with this
  injection this

theorem wpList_in_put (hg : o.guard = none) (m x v : Operand) (hop : o.op = Op.mapUpdate 65 m x v) (b n : Nat) (f : Nat → Option Nat)
    (hm : a.eval m = .map (some b)) (hown : IsIn w b n f) (hn : n < maxLen) (key k : Nat) (hk : key ≤ 1048576) (hkk : k ≤ 1048576) (hx : a.eval x = .int .i64 (key : Int)) (hv : a.eval v = .int .i64 (k : Int))
    (hK : ∀ w', IsIn w' b (n + 1) (upd f key (some k)) → Keeps (fun z => z = b) w w' → wpList Try.prog ops Q rest (a.put o.dst undef) w') : wpList Try.prog ops Q (o :: rest) a w := by
  obtain ⟨D, h1, h2⟩ := hown
  have hIM := h1.isMap
  refine wpList_mapUpdate_own w hg m x v _ hop 3 3 lawInt Try.underlying65 _ b n D hm h1 hn _ _ _ hx hv (keyOf_int_mk Try.underlying3 (wf_small key hk)) _ [] (plainElem_int Try.underlying3 (wf_small k hkk)) ?_
  intro w' ho hgr
  refine hK w' ⟨_, ho, fun y hy => ?_⟩ ((Keeps.refl _ w).grown hgr (fun j hj _ => by injection hj with hj; exact hj.symm))
  by_cases e : y = key
  · subst e
    rw [upd_at]
    refine ⟨has_put_same hIM ?_ _, fun k' hk' => ?_⟩
    · first | trivial | exact Go.WideAt.IsKeyLit.int _ _ | simp [Go.WideAt.IsKeyLit]
    · injection hk' with hk'
      subst hk'
      exact atKey_put_same hIM (by first | trivial | exact Go.WideAt.IsKeyLit.int _ _ | simp [Go.WideAt.IsKeyLit]) _ _
  · rw [upd_ne _ _ e]
    obtain ⟨h3, h4⟩ := h2 y hy
    rw [has_put_other (key_ne e), atKey_put_other (key_ne e)]
    exact ⟨h3, h4⟩

theorem wpList_in_del (hg : o.guard = none) (m x : Operand) (hop : o.op = Op.call { callee := Callee.builtin Builtin.delete, args := #[m, x], argTypes := #[65, 3] }) (b n : Nat) (f : Nat → Option Nat)
    (hm : a.eval m = .map (some b)) (hown : IsIn w b n f) (key : Nat) (hk : key ≤ 1048576) (hx : a.eval x = .int .i64 (key : Int))
    (hK : ∀ w', IsIn w' b n (upd f key none) → Keeps (fun z => z = b) w w' → wpList Try.prog ops Q rest (a.put o.dst (.tuple #[])) w') : wpList Try.prog ops Q (o :: rest) a w := by
  obtain ⟨D, h1, h2⟩ := hown
  refine wpList_delete_own w hg m x _ _ hop 3 lawInt Try.underlying65 _ b n D hm h1 _ _ hx (keyOf_int_mk Try.underlying3 (wf_small key hk)) ?_
  intro w' ho ht
  refine hK w' ⟨_, ho, fun y hy => ?_⟩ ((Keeps.refl _ w).grown ht.grown (fun j hj _ => by injection hj with hj; exact hj.symm))
  by_cases e : y = key
  · subst e
    rw [upd_at]
    exact ⟨has_del_same, fun k' hk' => by cases hk'⟩
  · rw [upd_ne _ _ e]
    obtain ⟨h3, h4⟩ := h2 y hy
    rw [has_del_other (key_ne e), atKey_del_other (key_ne e)]
    exact ⟨h3, h4⟩
end

/-- The three rows' slices, in block b. -/
def IsRows (w : World) (b : Nat) (v : Nat → Value) : Prop := w.heap[b]? = some (.cells #[v 0, v 1, v 2] 64 (0, 0))
theorem IsRows.keeps {w w' : World} {b : Nat} {v : Nat → Value} (h : IsRows w b v) {S : Nat → Prop} (k : Keeps S w w') (hs : ¬ S b) : IsRows w' b v := k.heap h hs
theorem IsRows.cell {w : World} {b : Nat} {v : Nat → Value} (h : IsRows w b v) {k : Nat} (hk : k < 3) : w.cell? ⟨b, k, none⟩ = some (v k) := by
  rw [cell_of_heap h]
  match k, hk with
  | 0, _ => rfl
  | 1, _ => rfl
  | 2, _ => rfl
theorem IsRows.frozen {w : World} {b : Nat} {v : Nat → Value} (h : IsRows w b v) (k : Nat) : w.frozen? ⟨b, k, none⟩ = false := frozen_of_heap h k
theorem IsRows.put {w : World} {b : Nat} {v : Nat → Value} (h : IsRows w b v) {k : Nat} (hk : k < 3) (x : Value) : IsRows (w.setCell ⟨b, k, none⟩ x) b (upd v k x) := by
  have := heap_setCell_at h k x
  unfold IsRows
  rw [this]
  match k, hk with
  | 0, _ => simp [upd]
  | 1, _ => simp [upd]
  | 2, _ => simp [upd]

end Go.Proofs.Ytlbmknnpglandaa
