/- Safety, plain: a run of code that goes well stands where it may, with just what was pushed. -/
import Derived.Test.YtiimojpaeccajaaGreatDoorStk
namespace Go.Proofs.YtiimojpaeccajaaGreatDoor
set_option linter.unusedVariables false
set_option linter.unusedSimpArgs false

/-- A run at a place, with its open frames: what was pushed, and the way back (none for the first: -1). -/
structure SRun (l : List SIns) (at_ : Nat) (fr : List (Int × Int)) : Prop where
  st : StR l at_ (fr.map Prod.fst)
  ne : fr ≠ []
  bot : ∀ p, fr[0]? = some p → p.2 = -1
  backs : ∀ k p, 0 < k → fr[k]? = some p → ∃ b : Nat, p.2 = (b : Int) ∧ StR l b ((fr.take k).map Prod.fst)
theorem srun_start {l : List SIns} {at_ : Nat} (h : StR l at_ [0]) : SRun l at_ [(0, -1)] :=
  ⟨h, by simp, fun p hp => by simp at hp; rw [← hp], fun k p hk hp => by
    have := (List.getElem?_eq_some_iff.1 hp).1
    simp at this; omega⟩
theorem SRun.move {l : List SIns} {at_ j : Nat} {fr : List (Int × Int)} {x : SIns} (h : SRun l at_ fr) (hx : l[at_]? = some x) (hj : (j, fr.map Prod.fst) ∈ stNext x at_ (fr.map Prod.fst)) : SRun l j fr :=
  ⟨.next h.st hx hj, h.ne, h.bot, h.backs⟩
theorem SRun.lt {l : List SIns} {at_ : Nat} {fr : List (Int × Int)} (hw : StW l) (h : SRun l at_ fr) : at_ < l.length := (hw at_ _ h.st).1
theorem SRun.small {l : List SIns} {at_ : Nat} {fr : List (Int × Int)} (hw : StW l) (h : SRun l at_ fr) : fr.length ≤ 200 := by
  have := (hw at_ _ h.st).2.1
  simpa using this
theorem SRun.ok {l : List SIns} {at_ : Nat} {fr : List (Int × Int)} {x : SIns} (hw : StW l) (h : SRun l at_ fr) (hx : l[at_]? = some x) : stOk x (fr.map Prod.fst) = true := (hw at_ _ h.st).2.2.2.1 x hx
/-- The top. -/
theorem SRun.top {l : List SIns} {at_ : Nat} {fr : List (Int × Int)} (h : SRun l at_ fr) : ∃ r p, fr = r ++ [p] := by
  rcases List.eq_nil_or_concat fr with he | ⟨r, p, he⟩
  · exact absurd he h.ne
  · exact ⟨r, p, by rw [he, List.concat_eq_append]⟩
theorem stop_top (r : List (Int × Int)) (p : Int × Int) : stop ((r ++ [p]).map Prod.fst) = p.1 := by simp [stop]
/-- A frame is opened. -/
theorem SRun.frame {l : List SIns} {at_ q : Nat} {fr : List (Int × Int)} {x : SIns} (h : SRun l at_ fr) (hx : l[at_]? = some x) (hop : x.op = 10) (ha : x.a = (q : Int)) : SRun l (at_ + 1) (fr ++ [(0, (q : Int))]) := by
  have h1 : StR l q (fr.map Prod.fst) := .next h.st hx (by simp [stNext, hop, ha])
  have hpos : 0 < fr.length := by
    have := h.ne
    cases fr with
    | nil => exact absurd rfl this
    | cons => simp
  refine ⟨?_, by simp, fun p hp => ?_, fun k p hk hp => ?_⟩
  · rw [List.map_append, List.map_cons, List.map_nil]
    exact .next h.st hx (by simp [stNext, hop])
  · rw [List.getElem?_append_left hpos] at hp
    exact h.bot p hp
  · by_cases hk2 : k < fr.length
    · rw [List.getElem?_append_left hk2] at hp
      obtain ⟨b, h2, h3⟩ := h.backs k p hk hp
      exact ⟨b, h2, by rw [List.take_append_of_le_length (by omega)]; exact h3⟩
    · have hlt := (List.getElem?_eq_some_iff.1 hp).1
      simp at hlt
      have e : k = fr.length := by omega
      subst e
      simp at hp
      subst hp
      exact ⟨q, rfl, by rw [List.take_left]; exact h1⟩
/-- One more is pushed. -/
theorem SRun.push {l : List SIns} {at_ : Nat} {r : List (Int × Int)} {p : Int × Int} {x : SIns} (h : SRun l at_ (r ++ [p])) (hx : l[at_]? = some x) (hop : x.op = 11) : SRun l (at_ + 1) (r ++ [(p.1 + 1, p.2)]) := by
  refine ⟨?_, by simp, fun q hq => ?_, fun k q hk hq => ?_⟩
  · have := StR.next h.st hx (j := at_ + 1) (t := (r.map Prod.fst) ++ [p.1 + 1]) (by simp [stNext, hop, stop])
    simpa using this
  · by_cases h0 : 0 < r.length
    · rw [List.getElem?_append_left h0] at hq
      exact h.bot q (by rw [List.getElem?_append_left h0]; exact hq)
    · have : r = [] := List.eq_nil_of_length_eq_zero (by omega)
      subst this
      simp at hq
      rw [← hq]
      exact h.bot p (by simp)
  · by_cases h0 : k < r.length
    · rw [List.getElem?_append_left h0] at hq
      obtain ⟨b, h2, h3⟩ := h.backs k q hk (by rw [List.getElem?_append_left h0]; exact hq)
      refine ⟨b, h2, ?_⟩
      rw [List.take_append_of_le_length (by omega)] at h3 ⊢
      exact h3
    · have hlt := (List.getElem?_eq_some_iff.1 hq).1
      simp at hlt
      have e : k = r.length := by omega
      subst e
      simp at hq
      obtain ⟨b, h2, h3⟩ := h.backs r.length p hk (by simp)
      refine ⟨b, by rw [← hq]; exact h2, ?_⟩
      rw [List.take_append_of_le_length (by omega)] at h3 ⊢
      exact h3
/-- A call: back, one frame less. -/
theorem SRun.call {l : List SIns} {at_ : Nat} {r : List (Int × Int)} {p : Int × Int} {x : SIns} (hw : StW l) (h : SRun l at_ (r ++ [p])) (hx : l[at_]? = some x) (hop : x.op = 12) : p.1 = x.a + 1 ∧ ∃ b : Nat, p.2 = (b : Int) ∧ SRun l b r := by
  have hok := h.ok hw hx
  rw [stOk, if_pos hop] at hok
  simp only [decide_eq_true_eq, List.length_map, List.length_append, List.length_singleton] at hok
  rw [stop_top] at hok
  obtain ⟨h2, h1⟩ := hok
  obtain ⟨b, hb, hs⟩ := h.backs r.length p (by omega) (by simp)
  rw [List.take_left] at hs
  refine ⟨h1, b, hb, hs, ?_, fun q hq => ?_, fun k q hk hq => ?_⟩
  · intro e; rw [e] at h2; simp at h2
  · exact h.bot q (by rw [List.getElem?_append_left (by omega)]; exact hq)
  · have hlt := (List.getElem?_eq_some_iff.1 hq).1
    obtain ⟨b2, h3, h4⟩ := h.backs k q hk (by rw [List.getElem?_append_left hlt]; exact hq)
    rw [List.take_append_of_le_length (by omega)] at h4
    exact ⟨b2, h3, h4⟩
/-- A tail call: the first frame, with just what was pushed. -/
theorem SRun.tail {l : List SIns} {at_ : Nat} {r : List (Int × Int)} {p : Int × Int} {x : SIns} (hw : StW l) (h : SRun l at_ (r ++ [p])) (hx : l[at_]? = some x) (hop : x.op = 13) : p.1 = x.a + 1 ∧ p.2 = -1 := by
  have hok := h.ok hw hx
  rw [stOk, if_neg (by omega), if_pos hop] at hok
  simp only [decide_eq_true_eq, List.length_map, List.length_append, List.length_singleton] at hok
  rw [stop_top] at hok
  have : r = [] := List.eq_nil_of_length_eq_zero (by omega)
  subst this
  exact ⟨hok.2, h.bot p (by simp)⟩
/-- A return: the first frame, nothing pushed. -/
theorem SRun.ret {l : List SIns} {at_ : Nat} {r : List (Int × Int)} {p : Int × Int} {x : SIns} (hw : StW l) (h : SRun l at_ (r ++ [p])) (hx : l[at_]? = some x) (hop : x.op = 14) : p.1 = 0 ∧ p.2 = -1 := by
  have hok := h.ok hw hx
  rw [stOk, if_neg (by omega), if_neg (by omega), if_pos hop] at hok
  simp only [decide_eq_true_eq, List.length_map, List.length_append, List.length_singleton] at hok
  rw [stop_top] at hok
  have : r = [] := List.eq_nil_of_length_eq_zero (by omega)
  subst this
  exact ⟨hok.2, h.bot p (by simp)⟩

end Go.Proofs.YtiimojpaeccajaaGreatDoor
