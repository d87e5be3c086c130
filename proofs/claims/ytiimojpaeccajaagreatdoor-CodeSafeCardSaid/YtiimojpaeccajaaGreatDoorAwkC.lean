/- Law 16's awake by its contract. -/
import Derived.Test.YtiimojpaeccajaaGreatDoorAwkP
import Derived.Test.YtiimojpaeccajaaGreatDoorErr
namespace Go.Proofs.YtiimojpaeccajaaGreatDoor
set_option linter.unusedVariables false
set_option linter.unusedSimpArgs false
open Go.RowKit Go.Proofs.YtiimojpaeccajaaGreatDoorW.PrintWords Go.Proofs.YtiimojpaeccajaaGreatDoorW.PrintLast Go.Proofs.YtiimojpaeccajaaGreatDoorW.PrintMore

theorem flat_get : ∀ (l : List Ins) (j : Nat) (x : Ins) (i : Nat) (u : Value), l[j]? = some x → (encI x)[i]? = some u → (l.flatMap encI)[j * 8 + i]? = some u
  | [], j, x, i, u, h, _ => by simp at h
  | a :: l, 0, x, i, u, h, hu => by
    simp at h
    subst h
    have hi := (List.getElem?_eq_some_iff.1 hu).1
    rw [List.flatMap_cons, List.getElem?_append_left (by omega)]
    rw [Nat.zero_mul, Nat.zero_add]; exact hu
  | a :: l, j + 1, x, i, u, h, hu => by
    have ih := flat_get l j x i u (by simpa using h) hu
    have he : (encI a).length = 8 := rfl
    rw [List.flatMap_cons, List.getElem?_append_right (by rw [he]; omega), he, show (j + 1) * 8 + i - 8 = j * 8 + i from by omega]
    exact ih
theorem block_C {w : World} {b : Nat} {T : TypeId} {f : Nat × Nat} (l : List Ins) (hl : ∀ x ∈ l, x.f4.f3 = []) (hn : l.length ≤ 9223372036854775807) (hb : w.heap[b]? = some (.cells (l.flatMap encI).toArray T f)) : Kd.C insK w (some ⟨b, 0, none⟩) l.length l :=
  insC_of l hl hn (fun j x hx i u hu => by rw [cell_of_heap hb, List.getElem?_toArray]; exact flat_get l j x i u hx hu)
theorem insC_take {w : World} {b n m : Nat} {l : List Ins} (h : Kd.C insK w (some ⟨b, 0, none⟩) n l) (hm : m ≤ n) : Kd.C insK w (some ⟨b, 0, none⟩) m (l.take m) := by
  obtain ⟨h1, h2, h3⟩ := h
  refine ⟨by rw [List.length_take]; omega, by omega, fun h0 => ?_⟩
  obtain ⟨ad, e, hc⟩ := h3 (by omega)
  refine ⟨ad, e, fun j x hx => hc j x ?_⟩
  have hj := (List.getElem?_eq_some_iff.1 hx).1
  rw [List.length_take] at hj
  rw [List.getElem?_take, if_pos (by omega)] at hx
  exact hx
theorem datC_zero (w : World) (A : Option Addr) : Kd.C datK w A ([] : List Dat).length [] := ⟨rfl, by decide, fun h => absurd h (by decide)⟩
theorem insC_set {w : World} {b n : Nat} {l : List Ins} (h : Kd.C insK w (some ⟨b, 0, none⟩) n l) (hl : ∀ x ∈ l, x.f4.f3 = []) {q : Nat} {x : Ins} (hx : l[q]? = some x) (z : Int) :
    Kd.C insK (w.setCell ⟨b, q * 8 + 1, none⟩ (.int .i64 z)) (some ⟨b, 0, none⟩) n (l.set q { x with f1 := z }) := by
  obtain ⟨h1, h2, h3⟩ := h
  refine ⟨by rw [List.length_set]; exact h1, h2, fun h0 => ⟨⟨b, 0, none⟩, rfl, fun j y hy => ?_⟩⟩
  obtain ⟨ad, e, hc⟩ := h3 h0
  injection e with e
  subst e
  have hq := (List.getElem?_eq_some_iff.1 hx).1
  have ea : ∀ j i : Nat, (⟨b, 0, none⟩ : Addr).add (j * insK.sz + i) = ⟨b, j * 8 + i, none⟩ := fun j i => by rw [Addr.add_lit, Nat.zero_add]; rfl
  by_cases e : j = q
  · subst e
    rw [List.getElem?_set_self hq] at hy
    injection hy with hy
    subst hy
    obtain ⟨c, c1, c2, c3⟩ := hc j x hx
    obtain ⟨A7, c7, rfl, l7', g7⟩ := PCodeSafe.k54_open c2
    have hn := hl x (List.mem_of_getElem? hx)
    obtain ⟨x0, x1, x2, x3, ⟨d0, d1, d2, d3⟩⟩ := x
    simp only at hn
    subst hn
    refine ⟨_, ?_, PCodeSafe.k54_mk _ ⟨x0, z, x2, x3, ⟨d0, d1, d2, []⟩⟩ (A7 := A7) (c7 := c7) l7' (datC_zero _ A7), fun i u hu => ?_⟩
    · rfl
    · rw [ea]
      by_cases e2 : i = 1
      · subst e2
        simp at hu
        rw [← hu]
        have := c3 1 _ rfl
        rw [ea] at this
        exact World.cell?_setCell_same _ _ _ this
      · rw [World.cell?_setCell_other _ _ _ _ (by simp <;> omega)]
        have := c3 i u (by
          match i, e2, hu with
          | 0, _, hu => exact hu
          | i + 2, _, hu => exact hu)
        rw [ea] at this
        exact this
  · rw [List.getElem?_set_ne (fun h => e h.symm)] at hy
    obtain ⟨c, c1, c2, c3⟩ := hc j y hy
    obtain ⟨A7, c7, rfl, l7', g7⟩ := PCodeSafe.k54_open c2
    have hn := hl y (List.mem_of_getElem? hy)
    obtain ⟨x0, x1, x2, x3, ⟨d0, d1, d2, d3⟩⟩ := y
    simp only at hn
    subst hn
    refine ⟨_, ?_, PCodeSafe.k54_mk _ ⟨x0, x1, x2, x3, ⟨d0, d1, d2, []⟩⟩ (A7 := A7) (c7 := c7) l7' (datC_zero _ A7), fun i u hu => ?_⟩
    · rfl
    · rw [ea]
      have hi : i < 8 := (List.getElem?_eq_some_iff.1 hu).1
      rw [World.cell?_setCell_other _ _ _ _ (by simp <;> omega)]
      have := c3 i u hu
      rw [ea] at this
      exact this
theorem l7_nil : ∀ x ∈ l7, x.f4.f3 = [] := by
  intro x hx
  simp only [l7, List.mem_cons, List.not_mem_nil, or_false] at hx
  rcases hx with rfl | rfl | rfl | rfl | rfl | rfl | rfl <;> rfl
theorem l7_small : ∀ k, k < l7.length → dsz (l7.getD k insZ).f4 ≤ 4000 := by decide +kernel
theorem l6_small : ∀ k, k < l6.length → dsz (l6.getD k insZ).f4 ≤ 4000 := by decide +kernel
theorem l7m_small : ∀ k, k < l7m.length → dsz (l7m.getD k insZ).f4 ≤ 4000 := by decide +kernel
theorem own7 : PCodeSafe.spindleref16_Own.f 40 l7 = some l7 := by kernel_rfl
theorem num_small (w : World) (n : Int) (h0 : 0 ≤ n) (h1 : n < 100) : NumOk w n := .inl ⟨h0, h1⟩
theorem l7_nums : ∀ k, k < 7 → (0 ≤ (l7.getD k insZ).f1 ∧ (l7.getD k insZ).f1 < 100) ∧ (0 ≤ (l7.getD k insZ).f2 ∧ (l7.getD k insZ).f2 < 100) ∧ (numL (l7.getD k insZ).f1).length ≤ 1000 ∧ (numL (l7.getD k insZ).f2).length ≤ 1000 ∧ (l7.getD k insZ).f3.size ≤ 1000 ∧ (T7 k).size ≤ 1000000 ∧ (numL k).length ≤ 1000 ∧ ((l7.getD k insZ).f0 = 1 → k = 3) := by decide +kernel
theorem tx7 (w : World) : ∀ k, k < l7.length → TxOk w (l7.getD k insZ) (T7 k) ∧ NumOk w k ∧ (numL k).length ≤ 1000 := by
  intro k hk
  have hk7 : k < 7 := hk
  obtain ⟨a, b, c, d, e, f, g, h⟩ := l7_nums k hk7
  refine ⟨⟨.inl a, .inl b, fun h1 h2 => ?_, c, d, e, f⟩, .inl ⟨by omega, by omega⟩, g⟩
  have := h h1
  subst this
  intro w' v hk hv
  have := write_int hv (by decide +kernel) (by decide +kernel) (by decide +kernel) (.inl (by decide +kernel)) (by decide +kernel) (by decide +kernel)
  exact this

end Go.Proofs.YtiimojpaeccajaaGreatDoor
