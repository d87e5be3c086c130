/- ObjKept's plain law: a chain of objects, and the ring that it becomes. No program in sight. -/
import Derived.Test.YtbjlapfcnldpoaaAppU
import Derived.Test.YtbjlapfcnldpoaaWObjFill
namespace Go.Proofs.Ytbjlapfcnldpoaa
set_option linter.unusedVariables false
set_option linter.unusedSimpArgs false
open Go.RowKit

theorem tvalue_obj {s : TH} {L : Nat → Nat → List Nat} {u f t n : Nat} {fs : Nat → Nat} (h : IsObj s L u f t n fs) (hs : St s L) : tvalue s (8 * u + 1) = true := by
  unfold tvalue
  rw [h.place hs]; rfl
theorem Rch.via {s : TH} {L L' : Nat → Nat → List Nat} {u v t n f t' n' i : Nat} {fs gs : Nat → Nat} (h : Rch s u) (hu : IsObj s L u 1 t n fs) (hv : IsObj s L' v f t' n' gs) (hi : i < n) (e : fs i = 8 * v + 1) : Rch s v :=
  .step h ⟨⟨_, i, hu.isC, hu.f, by rw [hu.num]; exact hi, by have := szs_tcls hu.le; omega, by rw [hu.fld i hi, e]⟩, _, hv.isC⟩

/-- Object i's fields in a chain. -/
def chF (U : Nat → Nat) (i j : Nat) : Nat := if j = 0 then 8 * i else if i = 0 then 4 else 8 * U (i - 1) + 1
/-- A chain of k objects, the last made of which register 0 names. -/
structure Chain (s : TH) (L : Nat → Nat → List Nat) (U : Nat → Nat) (k : Nat) : Prop where
  st : St s L
  len : s.roots.length = 12
  root : s.roots.getD 0 0 = if k = 0 then 4 else 8 * U (k - 1) + 1
  obj : ∀ i, i < k → IsObj s L (U i) 1 1 2 (chF U i)
  rch : ∀ i, i < k → Rch s (U i)
  heap : s.k = 2 ∧ s.cycles ≤ 2 * k ∧ 200 ≤ lget s 0 0 + k
/-- The word that register 0 holds. -/
theorem Chain.top {s : TH} {L : Nat → Nat → List Nat} {U : Nat → Nat} {k : Nat} (h : Chain s L U k) (hk : 0 < k) : s.roots.getD 0 0 = 8 * U (k - 1) + 1 := by rw [h.root, if_neg (by omega)]
theorem Chain.rootP {s : TH} {L : Nat → Nat → List Nat} {U : Nat → Nat} {k : Nat} (h : Chain s L U k) (hk : 0 < k) : Go.Proofs.Ytbjlapfcnldpoaa.rootP s (U (k - 1)) :=
  ⟨by
    have h1 := h.top hk
    have hl := h.len
    rw [List.getD_eq_getElem?_getD, List.getElem?_eq_getElem (by omega)] at h1
    simp only [Option.getD_some] at h1
    rw [← h1]
    exact List.getElem_mem _, _, (h.obj (k - 1) (by omega)).isC⟩
theorem Chain.good {s : TH} {L : Nat → Nat → List Nat} {U : Nat → Nat} {k : Nat} (h : Chain s L U k) : GoodW s (s.roots.getD 0 0) := by
  by_cases hk : k = 0
  · rw [h.root, if_pos hk]
    exact goodW_nc (by decide) (by decide)
  · rw [h.top (by omega)]
    have ho := h.obj (k - 1) (by omega)
    exact ⟨(ho.small h.st).2.1, Or.inr ⟨_, _, rfl, ho.isC, (h.rootP (by omega)).1⟩⟩
theorem Chain.zero {s : TH} {L : Nat → Nat → List Nat} {U : Nat → Nat} (h : Beg s L) : Chain (setRoot s 0 4) L U 0 :=
  ⟨setRoot_ok h.st (by decide) (fun c v _ e => by omega), by
    show (s.roots.set 0 4).length = 12
    simp [h.roots], by
    show (s.roots.set 0 4).getD 0 0 = _
    rw [h.roots]; rfl, fun i hi => absurd hi (Nat.not_lt_zero _), fun i hi => absurd hi (Nat.not_lt_zero _), h.k, by
    show s.cycles ≤ _
    rw [h.cyc]; exact Nat.zero_le _, by
    show 200 ≤ lget s 0 0 + 0
    rw [h.free 0 (by decide)]; decide⟩
/-- One object more. -/
theorem Chain.next {s s1 : TH} {L L1 : Nat → Nat → List Nat} {U : Nat → Nat} {k u : Nat} {ws : Nat → Nat} (h : Chain s L U k) (hm : Made s s1 L L1 u 1 1 2 ws) (h0 : ws 0 = 8 * k) (h1 : ws 1 = s.roots.getD 0 0) :
    ∃ V, Chain (setRoot s1 0 (8 * u + 1)) L1 V (k + 1) := by
  have hlen1 : s1.roots.length = 12 := by rw [hm.roots]; exact h.len
  obtain ⟨V, hU, hUk⟩ : ∃ V : Nat → Nat, (∀ i, i < k → V i = U i) ∧ V k = u := ⟨fun i => if i = k then u else U i, fun i hi => if_neg (by omega), if_pos rfl⟩
  have hobj : ∀ i, i < k + 1 → IsObj (setRoot s1 0 (8 * u + 1)) L1 (V i) 1 1 2 (chF V i) := by
    intro i hi
    by_cases e : i = k
    · subst e
      rw [hUk]
      refine hm.obj.setRoot.congr (fun j hj => ?_)
      unfold chF
      by_cases ej : j = 0
      · subst ej; rw [if_pos rfl, h0]
      · have : j = 1 := by omega
        subst this
        rw [if_neg ej, h1, h.root]
        by_cases ei : i = 0
        · rw [if_pos ei, if_pos ei]
        · rw [if_neg ei, if_neg ei, hU (i - 1) (by omega)]
    · rw [hU i (by omega)]
      refine ((hm.kept (h.obj i (by omega)) (h.rch i (by omega))).1.setRoot).congr (fun j hj => ?_)
      unfold chF
      by_cases ei : i = 0
      · rw [if_pos ei, if_pos ei]
      · rw [if_neg ei, if_neg ei, hU (i - 1) (by omega)]
  refine ⟨V, hm.rooted 0, ?_, ?_, hobj, ?_, ?_⟩
  · show (s1.roots.set 0 (8 * u + 1)).length = 12
    rw [List.length_set]; exact hlen1
  · show (s1.roots.set 0 (8 * u + 1)).getD 0 0 = _
    rw [if_neg (by omega), show k + 1 - 1 = k from by omega, hUk, List.getD_eq_getElem?_getD, List.getElem?_set_self (by omega)]
    rfl
  · have hd : ∀ d, d ≤ k → Rch (setRoot s1 0 (8 * u + 1)) (V (k - d)) := by
      intro d
      induction d with
      | zero =>
        intro _
        rw [Nat.sub_zero, hUk]
        exact hm.rch (by omega)
      | succ d ih =>
        intro hd
        refine (ih (by omega)).via (hobj (k - d) (by omega)) (hobj (k - (d + 1)) (by omega)) (i := 1) (by omega) ?_
        unfold chF
        rw [if_neg (by decide), if_neg (by omega), show k - d - 1 = k - (d + 1) from by omega]
    intro i hi
    have := hd (k - i) (by omega)
    rw [show k - (k - i) = i from by omega] at this
    exact this
  · have hh := h.heap
    have hf := hm.free 0 (by decide)
    rw [if_pos (by decide)] at hf
    refine ⟨?_, ?_, ?_⟩
    · show s1.k = 2
      rw [hm.evo.k]; exact hh.1
    · show s1.cycles ≤ _
      have := hm.cyc; omega
    · show 200 ≤ lget s1 0 0 + (k + 1)
      omega

/-- Object i's fields in the ring of n. -/
def rgF (U : Nat → Nat) (n i j : Nat) : Nat := if j = 0 then 8 * i else 8 * U ((i + n - 1) % n) + 1
/-- The ring. -/
structure Ringed (s : TH) (L : Nat → Nat → List Nat) (U : Nat → Nat) (n : Nat) : Prop where
  st : St s L
  obj : ∀ i, i < n → IsObj s L (U i) 1 1 2 (rgF U n i)
  rch : ∀ i, i < n → Rch s (U i)
  cyc : s.cycles ≤ 2 * n
theorem Chain.inj {s : TH} {L : Nat → Nat → List Nat} {U : Nat → Nat} {k : Nat} (h : Chain s L U k) {i j : Nat} (hi : i < k) (hj : j < k) (e : U i = U j) : i = j := by
  have h1 := (h.obj i hi).fld 0 (by decide)
  have h2 := (h.obj j hj).fld 0 (by decide)
  rw [e, h2] at h1
  unfold chF at h1
  rw [if_pos rfl, if_pos rfl] at h1
  omega
/-- The first's second field names the last: the ring is shut. -/
theorem Chain.shut {s : TH} {L : Nat → Nat → List Nat} {U : Nat → Nat} {n : Nat} (h : Chain s L U n) (hn : 0 < n) :
    ∃ s' L', tset s (U 0) 1 (8 * U (n - 1) + 1) = some s' ∧ Ringed s' L' U n := by
  have ho := h.obj 0 hn
  have hl := h.obj (n - 1) (by omega)
  have hlr := h.rch (n - 1) (by omega)
  obtain ⟨s', L', h1, k⟩ := set_ok h.st (i := 1) (x := 8 * U (n - 1) + 1) ho.isC ho.alive (by rw [ho.num]; decide) (hl.small h.st).2.1 (fun _ c v hv e => by
    have : v = U (n - 1) := by omega
    subst this; exact hlr.ok h.st)
  have hobj : ∀ i, i < n → IsObj s' L' (U i) 1 1 2 (rgF U n i) := by
    intro i hi
    by_cases e : i = 0
    · subst e
      refine (k.obj ho).congr (fun j hj => ?_)
      unfold rgF chF
      by_cases ej : j = 0
      · subst ej; rw [if_neg (by decide), if_pos rfl, if_pos rfl]
      · have : j = 1 := by omega
        subst this
        rw [if_pos rfl, if_neg ej, Nat.zero_add, Nat.mod_eq_of_lt (by omega)]
    · refine ((h.obj i hi).other k (fun e2 => e (h.inj hi hn e2))).congr (fun j hj => ?_)
      unfold rgF chF
      by_cases ej : j = 0
      · rw [if_pos ej, if_pos ej]
      · rw [if_neg ej, if_neg ej, if_neg e, show i + n - 1 = i - 1 + n from by omega, Nat.add_mod_right, Nat.mod_eq_of_lt (by omega)]
  have hd : ∀ d, d < n → Rch s' (U (n - 1 - d)) := by
    intro d
    induction d with
    | zero =>
      intro _
      rw [Nat.sub_zero]
      exact rootP_of k.count k.roots (h.rootP hn)
    | succ d ih =>
      intro hd
      refine (ih (by omega)).via (hobj (n - 1 - d) (by omega)) (hobj (n - 1 - (d + 1)) (by omega)) (i := 1) (by omega) ?_
      unfold rgF
      rw [if_neg (by decide), show n - 1 - d + n - 1 = n - 1 - (d + 1) + n from by omega, Nat.add_mod_right, Nat.mod_eq_of_lt (by omega)]
  refine ⟨s', L', h1, k.st, hobj, fun i hi => ?_, by rw [k.cyc]; exact h.heap.2.1⟩
  have := hd (n - 1 - i) (by omega)
  rw [show n - 1 - (n - 1 - i) = i from by omega] at this
  exact this
theorem Ringed.turn {s : TH} {L : Nat → Nat → List Nat} {U : Nat → Nat} {n t : Nat} (h : Ringed s L U n) (ht : s.cycles + t ≤ 1000000) :
    ∃ s' L', tincr t s = some s' ∧ St s' L' ∧ ∀ i, i < n → IsObj s' L' (U i) 1 1 2 (rgF U n i) := by
  obtain ⟨s', L', e, st, k⟩ := incr_ok t h.st ht
  exact ⟨s', L', e, st, fun i hi => (k.kept st (h.obj i hi) (h.rch i hi)).1⟩
/-- Who is asked in round i. -/
def who (n i : Nat) : Nat := n - 1 - i % n
theorem who_lt {n : Nat} (hn : 0 < n) (i : Nat) : who n i < n := by unfold who; omega
theorem who_next {n : Nat} (hn : 0 < n) (i : Nat) : (who n i + n - 1) % n = who n (i + 1) := by
  unfold who
  have hlt := Nat.mod_lt i hn
  have e : (i + 1) % n = if i % n = n - 1 then 0 else i % n + 1 := by
    rw [Nat.add_mod]
    by_cases h1 : n = 1
    · subst h1; simp [Nat.mod_one]
    · rw [Nat.mod_eq_of_lt (show 1 < n by omega)]
      by_cases h : i % n = n - 1
      · rw [if_pos h, h, show n - 1 + 1 = n from by omega, Nat.mod_self]
      · rw [if_neg h, Nat.mod_eq_of_lt (by omega)]
  rw [e]
  by_cases h : i % n = n - 1
  · rw [if_pos h, h, show n - 1 - (n - 1) + n - 1 = n - 1 from by omega, Nat.mod_eq_of_lt (by omega)]
    omega
  · rw [if_neg h, show n - 1 - i % n + n - 1 = (n - 1 - (i % n + 1)) + n from by omega, Nat.add_mod_right, Nat.mod_eq_of_lt (by omega)]
theorem who_zero {n : Nat} (hn : 0 < n) : who n 0 = n - 1 := by unfold who; simp
theorem who_end {n : Nat} (hn : 0 < n) : who n (2 * n) = n - 1 := by unfold who; simp

end Go.Proofs.Ytbjlapfcnldpoaa
