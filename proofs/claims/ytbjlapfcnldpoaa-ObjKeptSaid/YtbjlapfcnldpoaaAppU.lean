/- Appends of a row of words to an own row, whatever the row: none or somewhere. -/
import Derived.Test.YtbjlapfcnldpoaaPlain
import Derived.Laws.AppendOwnNone
import Derived.Deep.AppendLies
namespace Go.Proofs.Ytbjlapfcnldpoaa
set_option linter.unusedVariables false
set_option linter.unusedSimpArgs false
open Go.RowKit

def ucells (zs : List Int) : List Value := zs.map (Value.int .u64)

section
variable {ops : Array Oper} {rest : List Oper} {o : Oper} {a : Act} {w : World} {K : Act → World → Prop} {Q : Exit → Act → World → Prop}

theorem wp_append_u (s x : Operand) (ho : o.op = .call { callee := .builtin .append, args := #[s, x], argTypes := #[22, 22] })
    (base : Nat) (v : Value) (n : Nat) (xs : List Value) (hs : a.eval s = v) (hown : w.ownsRow base 30 1 v n xs)
    (a' : Option Addr) (n' c' : Nat) (zs : List Int) (hx : a.eval x = .slice a' n' c') (hrow : IsRow .u64 w (.slice a' n' c') zs) (hn : n + n' ≤ 100000) (hbase : base ≤ w.heap.size)
    (h : ∀ a1 c1 w', w'.ownsRow base 30 1 (.slice a1 (n + n') c1) (n + n') (xs ++ ucells zs) → w.grownBy w' v.ownBlock → K (a.put o.dst (.slice a1 (n + n') c1)) w') : Oper.wp Try.prog o a w K Q := by
  obtain ⟨i0, hi0, hz0, hz1, hz2⟩ := info_parts info_u64
  have h : ∀ v' w', w'.ownsRow base 30 1 v' (n + n') (xs ++ ucells zs) → w.grownBy w' v.ownBlock → K (a.put o.dst v') w' := by
    intro v' w' h2 h3
    rcases h2.2 with ⟨rfl, h0⟩ | ⟨q, c, cur, rfl, _⟩
    · rw [h0] at h h2
      exact h none 0 w' h2 h3
    · exact h _ _ w' h2 h3
  cases a' with
  | none =>
    cases hrow with
    | empty =>
      have hrun := run_append_owned_none (P := Try.prog) (w := w) base 22 o.type 30 i0 1 Try.underlying22 hi0 v n xs hown
      unfold Oper.wp
      simp [execOp, ho, resolve, invoke, builtin, hs, hx, hrun, Result.andThen]
      exact h v w (by simpa [ucells] using hown) ⟨rfl, rfl, rfl, Nat.le_refl _, fun _ _ _ => rfl⟩
  | some ad =>
    obtain ⟨hl, hm⟩ := hrow.len
    have hcells : ∀ i, i < n' → w.cell? (ad.add i) = some (.int .u64 (zs.getD i 0)) := by
      cases hrow with
      | full _ _ _ hc _ => exact hc
    have hwf : ∀ z ∈ zs, (Lit.int .u64 z).wf = true := by
      cases hrow with
      | full _ _ _ _ hw => exact hw
    refine wp_append_own w s x 22 ho base 30 i0 _ 1 8 Try.underlying22 hi0 hz0 hz1 hz2 rfl (by decide) v n xs hs hown ad n' c' (ucells zs) hx (by simp [ucells, hl]) (fun j u hj => ?_) (fun u hu => ?_) (by unfold maxLen; omega) (by omega) hbase (fun v' w' h2 h3 _ => h v' w' h2 h3)
    · have hjl : j < zs.length := by
        have := (List.getElem?_eq_some_iff.1 hj).1
        simpa [ucells] using this
      rw [hcells j (by omega)]
      simp [ucells, hjl] at hj
      rw [← hj]
      simp [List.getD, hjl]
    · simp only [ucells, List.mem_map] at hu
      obtain ⟨z, -, rfl⟩ := hu
      rfl

theorem wpList_append_u (hgd : o.guard = none) (s x : Operand) (ho : o.op = .call { callee := .builtin .append, args := #[s, x], argTypes := #[22, 22] })
    (base : Nat) (v : Value) (n : Nat) (xs : List Value) (hs : a.eval s = v) (hown : w.ownsRow base 30 1 v n xs)
    (a' : Option Addr) (n' c' : Nat) (zs : List Int) (hx : a.eval x = .slice a' n' c') (hrow : IsRow .u64 w (.slice a' n' c') zs) (tot : Nat) (htot : n + n' = tot) (hn : tot ≤ 100000) (hbase : base ≤ w.heap.size)
    (h : ∀ a1 c1 w', w'.ownsRow base 30 1 (.slice a1 tot c1) tot (xs ++ ucells zs) → w.grownBy w' v.ownBlock → wpList Try.prog ops Q rest (a.put o.dst (.slice a1 tot c1)) w') : wpList Try.prog ops Q (o :: rest) a w := by
  subst htot
  refine wpList_plain hgd fun K' hK' => ?_
  exact wp_append_u s x ho base v n xs hs hown a' n' c' zs hx hrow hn hbase (fun a1 c1 w' h2 h3 => hK' _ _ (h a1 c1 w' h2 h3))
end

theorem IsRow.keeps {w w' : World} {k : IntKind} {v : Value} {zs : List Int} (h : IsRow k w v zs) {S : Nat → Prop} (hk : Keeps S w w') (hs : ∀ b o n c, v = .slice (some ⟨b, o, none⟩) n c → 0 < n → ¬ S b) : IsRow k w' v zs := by
  cases h with
  | empty => exact .empty
  | full hl hm hz hc hw =>
    rename_i a len cap
    refine .full hl hm hz (fun i hi => ?_) hw
    obtain ⟨bb, oo, rfl, -⟩ := (IsRow.full hl hm hz hc hw : IsRow k w (.slice (some a) len cap) zs).at (by omega)
    have h1 := hc i hi
    rw [Addr.add_lit] at h1 ⊢
    exact hk.cell h1 (hs bb oo _ _ rfl (by omega))
/-- An own row of words as WsAt. -/
theorem wsAt_own {w : World} {base : Nat} {a : Option Addr} {n c : Nat} {zs : List Int} {ws : Nat → Nat} {S : Nat → Prop} (h : w.ownsRow base 30 1 (.slice a n c) n (ucells zs)) (hz : zs.length = n) (hw : ∀ i, i < n → zs.getD i 0 = (ws i : Int)) (hS : ∀ z, base ≤ z → ¬ S z) : WsAt w a n ws S := by
  intro i hi
  obtain ⟨g, cap, e, hb, hl⟩ := h.form (by omega)
  simp only [Value.slice.injEq, true_and] at e
  obtain ⟨rfl, rfl⟩ := e
  refine ⟨g, 0, rfl, hS g hb, hl, ?_⟩
  rw [Nat.zero_add, h.cellAt i (by omega), ← hw i hi]
  simp [ucells, List.getD, show i < zs.length from by omega]
theorem wsAt_row {w : World} {a : Option Addr} {n c : Nat} {zs : List Int} {ws : Nat → Nat} (h : IsRow .u64 w (.slice a n c) zs) (hw : ∀ i, i < n → zs.getD i 0 = (ws i : Int)) {S : Nat → Prop} (hS : ∀ z, z < w.heap.size → ¬ S z) : WsAt w a n ws S := by
  intro i hi
  obtain ⟨b, o, rfl, hb, hc⟩ := h.cell hi
  exact ⟨b, o, rfl, hS b hb, hb, by rw [hc, hw i hi]⟩

end Go.Proofs.Ytbjlapfcnldpoaa
