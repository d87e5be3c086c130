/- Rows of members: three rings, who is in which. No program in sight. -/
import Derived.Test.YtlbmknnpglandaaRingLaw3
namespace Go.Proofs.Ytlbmknnpglandaa
set_option linter.unusedVariables false
set_option linter.unusedSimpArgs false
open Go.RowKit

/-- A list without repeats out of m things is no longer than m. -/
theorem nodup_short (L : List Nat) (s m : Nat) (hn : L.Nodup) (hm : ∀ x ∈ L, ∃ j, s ≤ j ∧ j < m + s ∧ x = 3 * j) : L.length ≤ m := by
  induction m generalizing L with
  | zero =>
    cases L with
    | nil => simp
    | cons x L => obtain ⟨j, h1, h2, -⟩ := hm x (by simp); omega
  | succ m ih =>
    have h1 := ih (L.erase (3 * (m + s))) (hn.erase _) (fun x hx => by
      have hx' := List.mem_of_mem_erase hx
      obtain ⟨j, h1, h2, h3⟩ := hm x hx'
      refine ⟨j, h1, ?_, h3⟩
      have hne : x ≠ 3 * (m + s) := by
        intro e
        rw [e] at hx
        exact (List.Nodup.not_mem_erase hn) hx
      omega)
    by_cases hmem : 3 * (m + s) ∈ L
    · rw [List.length_erase_of_mem hmem] at h1
      omega
    · rw [List.erase_of_not_mem hmem] at h1
      omega

/-- The rows R as rings of W; f: who is in which. -/
structure RS (m : Nat) (W : List Nat) (R : Nat → List Nat) (f : Nat → Option Nat) : Prop where
  ring : ∀ k, k < 3 → Ring W (3 * k) (R k)
  mem : ∀ x k, f x = some k ↔ k < 3 ∧ x ∈ R k
  nodes : ∀ k, k < 3 → ∀ x ∈ R k, ∃ j, 3 ≤ j ∧ j < m + 3 ∧ x = 3 * j
  lone : ∀ j, 3 ≤ j → j < m + 3 → f (3 * j) = none → Lone W (3 * j)
  len : 3 * (m + 3) ≤ W.length

def upd {A : Type} (R : Nat → A) (k : Nat) (x : A) : Nat → A := fun j => if j = k then x else R j
theorem upd_at {A : Type} (R : Nat → A) (k : Nat) (x : A) : upd R k x k = x := by simp [upd]
theorem upd_ne {A : Type} (R : Nat → A) {k j : Nat} (x : A) (h : j ≠ k) : upd R k x j = R j := by simp [upd, h]

theorem RS.short {m : Nat} {W : List Nat} {R : Nat → List Nat} {f : Nat → Option Nat} (h : RS m W R f) {k : Nat} (hk : k < 3) : (R k).length ≤ m :=
  nodup_short (R k) 3 m (List.nodup_cons.1 (h.ring k hk).nodup).2 (h.nodes k hk)
theorem RS.apart {m : Nat} {W : List Nat} {R : Nat → List Nat} {f : Nat → Option Nat} (h : RS m W R f) {k j : Nat} (hk : k < 3) (hj : j < 3) (hne : k ≠ j) : ∀ u ∈ 3 * k :: R k, u ∉ 3 * j :: R j := by
  intro u hu hu'
  have e1 : u = 3 * k ∨ f u = some k := by
    rcases List.mem_cons.1 hu with e | e
    · exact Or.inl e
    · exact Or.inr ((h.mem u k).2 ⟨hk, e⟩)
  rcases List.mem_cons.1 hu with e | e <;> rcases List.mem_cons.1 hu' with e' | e'
  · omega
  · obtain ⟨i, h1, h2, h3⟩ := h.nodes j hj u e'; omega
  · obtain ⟨i, h1, h2, h3⟩ := h.nodes k hk u e; omega
  · have a := (h.mem u k).2 ⟨hk, e⟩
    have b := (h.mem u j).2 ⟨hj, e'⟩
    rw [a] at b
    injection b with b
    exact hne b
theorem RS.node {m : Nat} {W : List Nat} {R : Nat → List Nat} {f : Nat → Option Nat} (h : RS m W R f) {j : Nat} (hj : j < m + 3) : Node W (3 * j) := ⟨by omega, by have := h.len; omega⟩
theorem RS.out {m : Nat} {W : List Nat} {R : Nat → List Nat} {f : Nat → Option Nat} (h : RS m W R f) {q : Nat} (hq : f q = none) (hq9 : 9 ≤ q) {k : Nat} (hk : k < 3) : q ∉ 3 * k :: R k := by
  intro e
  rcases List.mem_cons.1 e with e | e
  · omega
  · have := (h.mem q k).2 ⟨hk, e⟩
    rw [hq] at this
    cases this

theorem rs_insert {m : Nat} {W : List Nat} {R : Nat → List Nat} {f : Nat → Option Nat} (h : RS m W R f) {j k : Nat} (hj3 : 3 ≤ j) (hj : j < m + 3) (hk : k < 3) (hf : f (3 * j) = none) :
    RS m (setAll W [(3 * j, 1, 3 * k), (3 * j, 2, wat W (3 * k + 2)), (3 * k, 2, 3 * j), (wat W (3 * k + 2), 1, 3 * j)]) (upd R k (3 * j :: R k)) (upd f (3 * j) (some k)) := by
  have nq := h.node hj
  have hout := fun i (hi : i < 3) => h.out hf (by omega) hi
  refine ⟨fun i hi => ?_, fun x i => ?_, fun i hi x hx => ?_, fun i h1 h2 h3 => ?_, by rw [setAll_length]; exact h.len⟩
  · by_cases e : i = k
    · subst e
      rw [upd_at]
      exact ring_insert (h.ring i hi) nq (hout i hi)
    · rw [upd_ne _ _ e]
      exact insert_other (h.ring k hk) nq (h.ring i hi) (fun u hu => ⟨h.apart hi hk e u hu, ne_mem hu (hout i hi)⟩)
  · by_cases ex : x = 3 * j
    · subst ex
      rw [upd_at]
      constructor
      · intro e
        injection e with e
        subst e
        exact ⟨hk, by rw [upd_at]; simp⟩
      · rintro ⟨h1, h2⟩
        by_cases e : i = k
        · rw [e]
        · rw [upd_ne _ _ e] at h2
          have := (h.mem (3 * j) i).2 ⟨h1, h2⟩
          rw [hf] at this
          cases this
    · rw [upd_ne _ _ ex, h.mem x i]
      by_cases e : i = k
      · subst e
        rw [upd_at]
        simp [ex]
      · rw [upd_ne _ _ e]
  · by_cases e : i = k
    · subst e
      rw [upd_at] at hx
      rcases List.mem_cons.1 hx with e | e
      · exact ⟨j, hj3, hj, e⟩
      · exact h.nodes i hi x e
    · rw [upd_ne _ _ e] at hx
      exact h.nodes i hi x hx
  · by_cases e : 3 * i = 3 * j
    · rw [e, upd_at] at h3; cases h3
    · rw [upd_ne _ _ e] at h3
      exact lone_insert (h.ring k hk) nq (h.node h2) (h.lone i h1 h2 h3) (h.out h3 (by omega) hk) e

theorem rs_remove {m : Nat} {W : List Nat} {R : Nat → List Nat} {f : Nat → Option Nat} (h : RS m W R f) {q k : Nat} {L M : List Nat} (hk : k < 3) (hR : R k = L ++ q :: M) :
    RS m (setAll W [(lastOf (3 * k) L, 2, headOr (3 * k) M), (headOr (3 * k) M, 1, lastOf (3 * k) L), (q, 1, q), (q, 2, q)]) (upd R k (L ++ M)) (upd f q none) := by
  have hr := h.ring k hk
  rw [hR] at hr
  obtain ⟨r1, r2⟩ := ring_remove hr
  have hqm : q ∈ R k := by rw [hR]; simp
  have hnd := List.nodup_append.1 (List.nodup_cons.1 hr.nodup).2
  have hqL : q ∉ L := fun e => hnd.2.2 q e q (by simp) rfl
  have hqM : q ∉ M := (List.nodup_cons.1 hnd.2.1).1
  refine ⟨fun i hi => ?_, fun x i => ?_, fun i hi x hx => ?_, fun i h1 h2 h3 => ?_, by rw [setAll_length]; exact h.len⟩
  · by_cases e : i = k
    · subst e
      rw [upd_at]
      exact r1
    · rw [upd_ne _ _ e]
      exact remove_other hr (h.ring i hi) (fun u hu => by rw [← hR]; exact h.apart hi hk e u hu)
  · by_cases ex : x = q
    · subst ex
      rw [upd_at]
      constructor
      · intro e; cases e
      · rintro ⟨h1, h2⟩
        by_cases e : i = k
        · rw [e, upd_at] at h2
          rcases List.mem_append.1 h2 with e | e
          · exact absurd e hqL
          · exact absurd e hqM
        · rw [upd_ne _ _ e] at h2
          have a := (h.mem x i).2 ⟨h1, h2⟩
          have b := (h.mem x k).2 ⟨hk, hqm⟩
          rw [a] at b
          injection b with b
          exact absurd b e
    · rw [upd_ne _ _ ex, h.mem x i]
      by_cases e : i = k
      · subst e
        rw [upd_at, hR]
        simp [ex]
      · rw [upd_ne _ _ e]
  · by_cases e : i = k
    · subst e
      rw [upd_at] at hx
      refine h.nodes i hi x ?_
      rw [hR]
      rcases List.mem_append.1 hx with e | e
      · exact List.mem_append_left _ e
      · exact List.mem_append_right _ (List.mem_cons_of_mem _ e)
    · rw [upd_ne _ _ e] at hx
      exact h.nodes i hi x hx
  · by_cases e : 3 * i = q
    · rw [e]; exact r2
    · rw [upd_ne _ _ e] at h3
      have := remove_other hr (lone_ring (h.lone i h1 h2 h3) (h.node h2)) (fun u hu => by
        simp at hu
        rw [hu, ← hR]
        exact h.out h3 (by omega) hk)
      exact ring_lone this

/-- Row k is put behind row h's last. -/
theorem rs_join {m : Nat} {W W' : List Nat} {R : Nat → List Nat} {f : Nat → Option Nat} (h : RS m W R f) {i k : Nat} (hi : i < 3) (hk : k < 3) (hne : i ≠ k)
    (hW : R k = [] ∧ W' = W ∨ ∃ x M, R k = x :: M ∧ W' = setAll W [(lastOf (3 * i) (R i), 2, x), (x, 1, lastOf (3 * i) (R i)), (lastOf x M, 2, 3 * i), (3 * i, 1, lastOf x M), (3 * k, 1, 3 * k), (3 * k, 2, 3 * k)]) :
    RS m W' (upd (upd R i (R i ++ R k)) k []) (fun x => if x ∈ R k then some i else f x) := by
  have hrings : (∀ j, j < 3 → Ring W' (3 * j) (upd (upd R i (R i ++ R k)) k [] j)) ∧ (∀ u, Node W u → (∀ j, j < 3 → u ∉ 3 * j :: R j) → Lone W u → Lone W' u) ∧ W'.length = W.length := by
    rcases hW with ⟨h0, rfl⟩ | ⟨x, M, hx, rfl⟩
    · refine ⟨fun j hj => ?_, fun u _ _ h => h, rfl⟩
      have hr := h.ring j hj
      by_cases e : j = k
      · subst e; rw [upd_at]; rwa [h0] at hr
      · rw [upd_ne _ _ e]
        by_cases e' : j = i
        · subst e'; rw [upd_at, h0, List.append_nil]; exact hr
        · rw [upd_ne _ _ e']; exact hr
    · have hq := h.ring k hk
      rw [hx] at hq
      obtain ⟨j1, j2⟩ := ring_join (h.ring i hi) hq (fun u hu => by rw [← hx]; exact h.apart hi hk hne u hu)
      refine ⟨fun j hj => ?_, fun u hu ho hl => ?_, setAll_length _ _⟩
      · by_cases e : j = k
        · subst e
          rw [upd_at]
          exact lone_ring j2 ⟨by omega, by rw [setAll_length]; have := h.len; omega⟩
        · rw [upd_ne _ _ e]
          by_cases e' : j = i
          · subst e'; rw [upd_at, hx]; exact j1
          · rw [upd_ne _ _ e']
            exact join_other (h.ring i hi) hq (h.ring j hj) (fun u hu => ⟨h.apart hj hi e' u hu, by rw [← hx]; exact h.apart hj hk e u hu⟩)
      · exact ring_lone (join_other (h.ring i hi) hq (lone_ring hl hu) (fun v hv => by
          simp at hv
          subst hv
          exact ⟨ho i hi, by rw [← hx]; exact ho k hk⟩))
  obtain ⟨hr, hl, hlen⟩ := hrings
  refine ⟨hr, fun x j => ?_, fun j hj x hx => ?_, fun j h1 h2 h3 => ?_, by rw [hlen]; exact h.len⟩
  · by_cases hxk : x ∈ R k
    · simp only [hxk, if_true]
      constructor
      · intro e
        injection e with e
        subst e
        exact ⟨hi, by rw [upd_ne _ _ hne, upd_at]; exact List.mem_append_right _ hxk⟩
      · rintro ⟨h1, h2⟩
        by_cases e : j = k
        · rw [e, upd_at] at h2; cases h2
        · rw [upd_ne _ _ e] at h2
          by_cases e' : j = i
          · rw [e']
          · rw [upd_ne _ _ e'] at h2
            exact absurd (List.mem_cons_of_mem _ hxk) (h.apart h1 hk e x (List.mem_cons_of_mem _ h2))
    · simp only [hxk, if_false]
      rw [h.mem x j]
      by_cases e : j = k
      · subst e; rw [upd_at]; simp [hxk]
      · rw [upd_ne _ _ e]
        by_cases e' : j = i
        · subst e'; rw [upd_at]; simp [hxk]
        · rw [upd_ne _ _ e']
  · by_cases e : j = k
    · subst e; rw [upd_at] at hx; cases hx
    · rw [upd_ne _ _ e] at hx
      by_cases e' : j = i
      · subst e'
        rw [upd_at] at hx
        rcases List.mem_append.1 hx with hx | hx
        · exact h.nodes j hj x hx
        · exact h.nodes k hk x hx
      · rw [upd_ne _ _ e'] at hx
        exact h.nodes j hj x hx
  · by_cases hxk : 3 * j ∈ R k
    · simp only [hxk, if_true] at h3; cases h3
    · simp only [hxk, if_false] at h3
      exact hl _ (h.node h2) (fun i hi => h.out h3 (by omega) hi) (h.lone j h1 h2 h3)

end Go.Proofs.Ytlbmknnpglandaa
