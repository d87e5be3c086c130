/- Colours on a graph: what a marking collector keeps. No heap and no program in sight. 0: free; 1: black; 2: white; 3: grey. -/
import Derived.Test.YtbjlapfcnldpoaaBase
namespace Go.Proofs.Ytbjlapfcnldpoaa
set_option linter.unusedVariables false
set_option linter.unusedSimpArgs false

def updc (col : Nat → Nat) (u k : Nat) : Nat → Nat := fun v => if v = u then k else col v
theorem updc_at (col : Nat → Nat) (u k : Nat) : updc col u k u = k := by simp [updc]
theorem updc_ne (col : Nat → Nat) {u v : Nat} (k : Nat) (h : v ≠ u) : updc col u k v = col v := by simp [updc, h]

/-- A white one that a grey one comes to by white ones. -/
inductive GR (col : Nat → Nat) (edge : Nat → Nat → Prop) : Nat → Prop where
  | grey {g v : Nat} (h1 : col g = 3) (h2 : edge g v) (h3 : col v = 2) : GR col edge v
  | white {u v : Nat} (h1 : GR col edge u) (h2 : edge u v) (h3 : col v = 2) : GR col edge v
/-- It won't be lost. -/
def OK (col : Nat → Nat) (edge : Nat → Nat → Prop) (v : Nat) : Prop := col v = 1 ∨ col v = 3 ∨ (col v = 2 ∧ GR col edge v)
structure GI (col : Nat → Nat) (edge : Nat → Nat → Prop) (root : Nat → Prop) : Prop where
  alive : ∀ u v, col u ≠ 0 → edge u v → col v ≠ 0
  black : ∀ u v, col u = 1 → edge u v → OK col edge v
  root : ∀ v, root v → OK col edge v

section
variable {col : Nat → Nat} {edge edge' : Nat → Nat → Prop} {root root' : Nat → Prop} {u v w : Nat}
theorem GR.col2 (h : GR col edge v) : col v = 2 := by cases h <;> assumption
theorem OK.ne0 (h : OK col edge v) : col v ≠ 0 := by rcases h with h | h | ⟨h, -⟩ <;> omega
theorem gr_shade (hu : col u = 2) (h : GR col edge v) : v = u ∨ GR (updc col u 3) edge v := by
  induction h with
  | @grey g v h1 h2 h3 =>
    by_cases e : v = u
    · exact Or.inl e
    · refine Or.inr (.grey (g := g) ?_ h2 (by rw [updc_ne _ _ e]; exact h3))
      by_cases eg : g = u
      · rw [eg, updc_at]
      · rw [updc_ne _ _ eg]; exact h1
  | @white w v h1 h2 h3 ih =>
    by_cases e : v = u
    · exact Or.inl e
    · rcases ih with e1 | e1
      · exact Or.inr (.grey (g := w) (by rw [e1, updc_at]) h2 (by rw [updc_ne _ _ e]; exact h3))
      · exact Or.inr (.white e1 h2 (by rw [updc_ne _ _ e]; exact h3))
theorem ok_shade (hu : col u = 2) (h : OK col edge v) : OK (updc col u 3) edge v := by
  by_cases e : v = u
  · exact Or.inr (Or.inl (by rw [e, updc_at]))
  · rcases h with h | h | ⟨h, hg⟩
    · exact Or.inl (by rw [updc_ne _ _ e]; exact h)
    · exact Or.inr (Or.inl (by rw [updc_ne _ _ e]; exact h))
    · exact Or.inr (Or.inr ⟨by rw [updc_ne _ _ e]; exact h, (gr_shade hu hg).resolve_left e⟩)
theorem GI.shade (h : GI col edge root) (hu : col u = 2) : GI (updc col u 3) edge root := by
  have h0 : ∀ a, updc col u 3 a ≠ 0 ↔ col a ≠ 0 := by
    intro a
    by_cases e : a = u
    · rw [e, updc_at, hu]; simp
    · rw [updc_ne _ _ e]
  refine ⟨fun a b ha hab => (h0 b).2 (h.alive a b ((h0 a).1 ha) hab), fun a b ha hab => ?_, fun a ha => ok_shade hu (h.root a ha)⟩
  by_cases e : a = u
  · rw [e, updc_at] at ha; omega
  · rw [updc_ne _ _ e] at ha
    exact ok_shade hu (h.black a b ha hab)
theorem gr_black (hu : col u = 3) (hw : ∀ v, edge u v → col v ≠ 2) (h : GR col edge v) : GR (updc col u 1) edge v := by
  induction h with
  | @grey g v h1 h2 h3 =>
    have eg : g ≠ u := fun e => hw v (e ▸ h2) h3
    have ev : v ≠ u := fun e => by rw [e] at h3; omega
    exact .grey (g := g) (by rw [updc_ne _ _ eg]; exact h1) h2 (by rw [updc_ne _ _ ev]; exact h3)
  | @white w v h1 h2 h3 ih =>
    have ev : v ≠ u := fun e => by rw [e] at h3; omega
    exact .white ih h2 (by rw [updc_ne _ _ ev]; exact h3)
theorem ok_black (hu : col u = 3) (hw : ∀ v, edge u v → col v ≠ 2) (h : OK col edge v) : OK (updc col u 1) edge v := by
  by_cases e : v = u
  · exact Or.inl (by rw [e, updc_at])
  · rcases h with h | h | ⟨h, hg⟩
    · exact Or.inl (by rw [updc_ne _ _ e]; exact h)
    · exact Or.inr (Or.inl (by rw [updc_ne _ _ e]; exact h))
    · exact Or.inr (Or.inr ⟨by rw [updc_ne _ _ e]; exact h, gr_black hu hw hg⟩)
theorem GI.toBlack (h : GI col edge root) (hu : col u = 3) (hw : ∀ v, edge u v → col v ≠ 2) (hc : ∀ v, col v ≤ 3) : GI (updc col u 1) edge root := by
  have h0 : ∀ a, updc col u 1 a ≠ 0 ↔ col a ≠ 0 := by
    intro a
    by_cases e : a = u
    · rw [e, updc_at, hu]; simp
    · rw [updc_ne _ _ e]
  refine ⟨fun a b ha hab => (h0 b).2 (h.alive a b ((h0 a).1 ha) hab), fun a b ha hab => ?_, fun a ha => ok_black hu hw (h.root a ha)⟩
  by_cases e : a = u
  · subst e
    have h1 := h.alive a b (by omega) hab
    have h2 := hw b hab
    have h3 := hc b
    have : col b = 1 ∨ col b = 3 := by omega
    exact ok_black hu hw (this.elim Or.inl (fun e => Or.inr (Or.inl e)))
  · rw [updc_ne _ _ e] at ha
    exact ok_black hu hw (h.black a b ha hab)
/-- All black ones white. -/
def flipc (col : Nat → Nat) : Nat → Nat := fun v => if col v = 1 then 2 else col v
/-- All white ones free. -/
def endc (col : Nat → Nat) : Nat → Nat := fun v => if col v = 2 then 0 else col v
theorem GI.ends (h : GI col edge root) (hg : ∀ v, col v ≠ 3) (hc : ∀ v, col v ≤ 3) : GI (endc col) edge root := by
  have hgr : ∀ v, ¬ GR col edge v := by
    intro v hv
    induction hv with
    | grey h1 _ _ => exact hg _ h1
    | white _ _ _ ih => exact ih
  have hok : ∀ v, OK col edge v → col v = 1 := by
    intro v hv
    rcases hv with h | h | ⟨-, h⟩
    · exact h
    · exact absurd h (hg v)
    · exact absurd h (hgr v)
  have hok2 : ∀ v, OK col edge v → OK (endc col) edge v := by
    intro v hv
    have h1 := hok v hv
    exact Or.inl (by unfold endc; rw [h1]; rfl)
  have h1 : ∀ a, endc col a ≠ 0 → col a = 1 := by
    intro a ha
    have := hg a
    have := hc a
    unfold endc at ha
    split at ha <;> omega
  exact ⟨fun a b ha hab => (hok2 b (h.black a b (h1 a ha) hab)).ne0, fun a b ha hab => hok2 b (h.black a b (h1 a (by omega)) hab), fun a ha => hok2 a (h.root a ha)⟩
theorem ok_edge (h : GI col edge root) (hc : ∀ v, col v ≤ 3) (hu : OK col edge u) (he : edge u v) : OK col edge v := by
  have h0 := h.alive u v hu.ne0 he
  have h3 := hc v
  rcases hu with h1 | h1 | ⟨-, h1⟩
  · exact h.black u v h1 he
  · have : col v = 1 ∨ col v = 3 ∨ col v = 2 := by omega
    rcases this with e | e | e
    · exact Or.inl e
    · exact Or.inr (Or.inl e)
    · exact Or.inr (Or.inr ⟨e, .grey h1 he e⟩)
  · have : col v = 1 ∨ col v = 3 ∨ col v = 2 := by omega
    rcases this with e | e | e
    · exact Or.inl e
    · exact Or.inr (Or.inl e)
    · exact Or.inr (Or.inr ⟨e, .white h1 he e⟩)
theorem gr_edges (hE : ∀ a b, edge a b → col b = 2 → edge' a b) (h : GR col edge v) : GR col edge' v := by
  induction h with
  | grey h1 h2 h3 => exact .grey h1 (hE _ _ h2 h3) h3
  | white h1 h2 h3 ih => exact .white ih (hE _ _ h2 h3) h3
theorem ok_edges (hE : ∀ a b, edge a b → col b = 2 → edge' a b) (h : OK col edge v) : OK col edge' v := by
  rcases h with h | h | ⟨h, hg⟩
  · exact Or.inl h
  · exact Or.inr (Or.inl h)
  · exact Or.inr (Or.inr ⟨h, gr_edges hE hg⟩)
/-- One's edges are set anew. -/
theorem GI.write (h : GI col edge root) (hE : ∀ a b, a ≠ u → (edge' a b ↔ edge a b)) (hK : ∀ b, edge u b → col b = 2 → edge' u b) (hN : ∀ b, edge' u b → edge u b ∨ OK col edge b) : GI col edge' root := by
  have hE2 : ∀ a b, edge a b → col b = 2 → edge' a b := by
    intro a b hab h2
    by_cases e : a = u
    · subst e; exact hK b hab h2
    · exact (hE a b e).2 hab
  refine ⟨fun a b ha hab => ?_, fun a b ha hab => ?_, fun a ha => ok_edges hE2 (h.root a ha)⟩
  · by_cases e : a = u
    · subst e
      rcases hN b hab with h1 | h1
      · exact h.alive a b ha h1
      · exact h1.ne0
    · exact h.alive a b ha ((hE a b e).1 hab)
  · by_cases e : a = u
    · subst e
      rcases hN b hab with h1 | h1
      · exact ok_edges hE2 (h.black a b ha h1)
      · exact ok_edges hE2 h1
    · exact ok_edges hE2 (h.black a b ha ((hE a b e).1 hab))
theorem gr_alloc (hu : col u = 0) (hE : ∀ a b, a ≠ u → (edge' a b ↔ edge a b)) (h : GR col edge v) : GR (updc col u 1) edge' v := by
  induction h with
  | @grey g v h1 h2 h3 =>
    have eg : g ≠ u := fun e => by rw [e] at h1; omega
    have ev : v ≠ u := fun e => by rw [e] at h3; omega
    exact .grey (g := g) (by rw [updc_ne _ _ eg]; exact h1) ((hE _ _ eg).2 h2) (by rw [updc_ne _ _ ev]; exact h3)
  | @white w v h1 h2 h3 ih =>
    have ew : w ≠ u := fun e => by have := h1.col2; rw [e] at this; omega
    have ev : v ≠ u := fun e => by rw [e] at h3; omega
    exact .white ih ((hE _ _ ew).2 h2) (by rw [updc_ne _ _ ev]; exact h3)
theorem ok_alloc (hu : col u = 0) (hE : ∀ a b, a ≠ u → (edge' a b ↔ edge a b)) (h : OK col edge v) : OK (updc col u 1) edge' v := by
  have e : v ≠ u := fun e => h.ne0 (by rw [e]; exact hu)
  rcases h with h | h | ⟨h, hg⟩
  · exact Or.inl (by rw [updc_ne _ _ e]; exact h)
  · exact Or.inr (Or.inl (by rw [updc_ne _ _ e]; exact h))
  · exact Or.inr (Or.inr ⟨by rw [updc_ne _ _ e]; exact h, gr_alloc hu hE hg⟩)
/-- A free one is given out, black, without edges. -/
theorem GI.alloc (h : GI col edge root) (hu : col u = 0) (hE : ∀ a b, a ≠ u → (edge' a b ↔ edge a b)) (hN : ∀ b, ¬ edge' u b) : GI (updc col u 1) edge' root := by
  refine ⟨fun a b ha hab => ?_, fun a b ha hab => ?_, fun a ha => ok_alloc hu hE (h.root a ha)⟩
  · have e : a ≠ u := fun e => hN b (e ▸ hab)
    rw [updc_ne _ _ e] at ha
    have h1 := h.alive a b ha ((hE a b e).1 hab)
    by_cases eb : b = u
    · rw [eb, updc_at]; omega
    · rw [updc_ne _ _ eb]; exact h1
  · have e : a ≠ u := fun e => hN b (e ▸ hab)
    rw [updc_ne _ _ e] at ha
    exact ok_alloc hu hE (h.black a b ha ((hE a b e).1 hab))
theorem GI.roots (h : GI col edge root) (hr : ∀ v, root' v → OK col edge v) : GI col edge root' := ⟨h.alive, h.black, hr⟩
/-- Without black ones, and with all roots grey. -/
theorem GI.of_grey (h1 : ∀ u v, col u ≠ 0 → edge u v → col v ≠ 0) (h2 : ∀ u, col u ≠ 1) (h3 : ∀ v, root v → col v = 3) : GI col edge root :=
  ⟨h1, fun u v hu => absurd hu (h2 u), fun v hv => Or.inr (Or.inl (h3 v hv))⟩
theorem GI.edge_iff (h : GI col edge root) (he : ∀ a b, edge' a b ↔ edge a b) : GI col edge' root := by
  have : edge' = edge := by funext a b; exact propext (he a b)
  rw [this]; exact h
end

end Go.Proofs.Ytbjlapfcnldpoaa
