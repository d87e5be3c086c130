/- Lists of acts in memory, compared. -/
import Derived.Test.YtljmfiegkefpoaaScript4
namespace Go.Proofs.Ytljmfiegkefpoaa
set_option linter.unusedVariables false
set_option linter.unusedSimpArgs false
open Go.RowKit

/-- An act: kind, number, text. -/
abbrev ActI := Int × Int × ByteArray
def noAct : ActI := (0, 0, ⟨#[]⟩)
def Act3.raw (a : Act3) : ActI := (a.k, a.n, a.t)
def acells (l : List ActI) : List Value := l.flatMap (fun a => [.int .i64 a.1, .int .i64 a.2.1, .string a.2.2])
theorem acells_raw (l : List Act3) : acells (l.map Act3.raw) = actCells l := by
  induction l with
  | nil => rfl
  | cons a l ih =>
    simp only [acells, actCells, List.map_cons, List.flatMap_cons] at ih ⊢
    rw [ih]
    rfl

theorem bytes_inj {a b : ByteArray} (h : a.toList = b.toList) : a = b := by
  rw [ByteArray.toList_eq, ByteArray.toList_eq] at h
  cases a; cases b
  simpa [Array.toList_inj] using h
theorem bytes_beq (a b : ByteArray) : (a.toList == b.toList) = decide (a = b) := by
  by_cases h : a = b
  · subst h; simp
  · simp only [h, decide_false]
    rw [beq_eq_false_iff_ne]
    exact fun h2 => h (bytes_inj h2)

/-- A slice of acts: its acts. -/
structure IsActs (w : World) (v : Value) (l : List ActI) : Prop where
  form : ∃ a cap, v = .slice a l.length cap ∧ l.length ≤ cap ∧ cap ≤ maxLen
  cells : ∀ a n cap, v = .slice a n cap → ∀ i, i < l.length → ∃ b o, a = some ⟨b, o, none⟩ ∧ b < w.heap.size ∧
    w.cell? ⟨b, o + i * 3, none⟩ = some (.int .i64 (l.getD i noAct).1) ∧ w.cell? ⟨b, o + i * 3 + 1, none⟩ = some (.int .i64 (l.getD i noAct).2.1) ∧ w.cell? ⟨b, o + i * 3 + 2, none⟩ = some (.string (l.getD i noAct).2.2)

theorem acells_at (l : List ActI) (i : Nat) (h : i < l.length) : (acells l)[i * 3]? = some (.int .i64 (l.getD i noAct).1) ∧ (acells l)[i * 3 + 1]? = some (.int .i64 (l.getD i noAct).2.1) ∧ (acells l)[i * 3 + 2]? = some (.string (l.getD i noAct).2.2) := by
  induction l generalizing i with
  | nil => simp at h
  | cons p l ih =>
    cases i with
    | zero => simp [acells]
    | succ i =>
      have := ih i (by simpa using h)
      simp only [acells, List.flatMap_cons, List.cons_append, List.nil_append] at this ⊢
      rw [show (i + 1) * 3 = i * 3 + 1 + 1 + 1 by omega, show i * 3 + 1 + 1 + 1 + 1 = (i * 3 + 1) + 1 + 1 + 1 by omega, show i * 3 + 1 + 1 + 1 + 2 = (i * 3 + 2) + 1 + 1 + 1 by omega]
      simpa using this
theorem acells_length (l : List ActI) : (acells l).length = l.length * 3 := by
  induction l with
  | nil => rfl
  | cons p l ih => simp only [acells, List.flatMap_cons, List.cons_append, List.nil_append, List.length_cons] at ih ⊢; omega

theorem IsActs.of_own {w : World} {base : Nat} {v : Value} {l : List ActI} (h : w.ownsRow base 72 3 v l.length (acells l)) : IsActs w v l := by
  rcases h.2 with ⟨rfl, h0⟩ | ⟨g, cap, cur, rfl, hb, hg, hn, hm, hs, ht⟩
  · refine ⟨⟨none, 0, by rw [h0], by omega, by omega⟩, ?_⟩
    intro a n cap hv i hi
    omega
  · refine ⟨⟨_, cap, rfl, hn, hm⟩, ?_⟩
    intro a n cap' hv i hi
    simp only [Value.slice.injEq] at hv
    obtain ⟨rfl, rfl, rfl⟩ := hv
    obtain ⟨h1, h2, h3⟩ := acells_at l i hi
    refine ⟨g, 0, rfl, lt_of_heap hg, ?_, ?_, ?_⟩
    · rw [Nat.zero_add, h.cellAt _ (by omega), h1]
    · rw [Nat.zero_add, h.cellAt _ (by omega), h2]
    · rw [Nat.zero_add, h.cellAt _ (by omega), h3]

theorem IsActs.len {w : World} {v : Value} {l : List ActI} (h : IsActs w v l) : l.length ≤ 9223372036854775807 := by
  obtain ⟨a, cap, -, h1, h2⟩ := h.form
  simp only [maxLen] at h2
  omega
theorem IsActs.keeps {w w' : World} {v : Value} {l : List ActI} (h : IsActs w v l) {S : Nat → Prop} (k : Keeps S w w') (hs : ∀ b o n c, v = .slice (some ⟨b, o, none⟩) n c → ¬ S b) : IsActs w' v l := by
  refine ⟨h.form, fun a n cap hv i hi => ?_⟩
  obtain ⟨b, o, rfl, hb, h1, h2, h3⟩ := h.cells a n cap hv i hi
  exact ⟨b, o, rfl, by have := k.size; omega, k.cell h1 (hs _ _ _ _ hv), k.cell h2 (hs _ _ _ _ hv), k.cell h3 (hs _ _ _ _ hv)⟩
theorem IsActs.keeps0 {w w' : World} {v : Value} {l : List ActI} (h : IsActs w v l) (k : Keeps (fun _ => False) w w') : IsActs w' v l := h.keeps k (fun _ _ _ _ _ h => h)
theorem IsActs.take {w : World} {a : Option Addr} {n cap : Nat} {l : List ActI} (h : IsActs w (.slice a n cap) l) (k : Nat) (hk : k ≤ l.length) : IsActs w (.slice a k cap) (l.take k) := by
  obtain ⟨a', cap', hv, h1, h2⟩ := h.form
  simp only [Value.slice.injEq] at hv
  obtain ⟨rfl, rfl, rfl⟩ := hv
  have hl : (l.take k).length = k := by simp; omega
  refine ⟨⟨_, _, by rw [hl], by omega, h2⟩, fun a' n' cap' hv i hi => ?_⟩
  simp only [Value.slice.injEq] at hv
  obtain ⟨rfl, rfl, rfl⟩ := hv
  have hik : i < k := by omega
  have hg : (l.take k).getD i noAct = l.getD i noAct := by simp [List.getD, List.getElem?_take, hik]
  rw [hg]
  exact h.cells _ _ _ rfl i (by omega)

theorem agetD_ext {l l' : List ActI} (hl : l.length = l'.length) (h : ∀ i, i < l.length → l.getD i noAct = l'.getD i noAct) : l = l' := by
  apply List.ext_getElem hl
  intro i h1 h2
  have := h i h1
  simpa [List.getD, h1, h2] using this

set_option maxRecDepth 100000 in
set_option maxHeartbeats 1000000 in
theorem same22_is (w : World) (u v : Value) (l m : List ActI) (hu : IsActs w u l) (hv : IsActs w v m) :
    Calls Try.prog 27 #[u, v] w fun e w' => e = .returned (.bool (decide (l = m))) ∧ ∃ k, w' = w.drewN k := by
  obtain ⟨a, c, rfl, -⟩ := hu.form
  obtain ⟨b, d, rfl, -⟩ := hv.form
  have hl1 := hu.len
  have hl2 := hv.len
  have HU := Box.mk hu
  have HV := Box.mk hv
  clear hu hv
  by_cases hl : l.length = m.length
  · have Hlm := Box.mk hl
    rw [← hl]
    clear hl
    obtain ⟨n, hn⟩ : ∃ n, l.length = n := ⟨_, rfl⟩
    have Hn := Box.mk hn
    rw [hn] at hl1 ⊢
    clear hl2 hn
    go_enter Try.func27, Try.ntmps27
    go_wp2_with fail
    go_loopw [5] (fun i wr => ∃ (k q : Nat), k ≤ n ∧ i = .int .i64 k ∧ Box (∀ j, j < k → l.getD j noAct = m.getD j noAct) ∧ wr = w.drewN q) (fun i _ => n - (intOf i).toNat)
    case atStart => exact ⟨0, 0, Nat.zero_le _, rfl, ⟨fun j hj => by omega⟩, rfl⟩
    case round =>
      obtain ⟨k, q, hk, rfl, HE, rfl⟩ := hrel
      by_cases hkn : k < n
      · obtain ⟨ub, uo, rfl, hub, u0, u1, u2⟩ := HU.out.cells _ _ _ rfl k (by rw [Hn.out]; exact hkn)
        obtain ⟨vb, vo, rfl, hvb, v0, v1, v2⟩ := HV.out.cells _ _ _ rfl k (by rw [← Hlm.out, Hn.out]; exact hkn)
        have hk0 : (0 : Int) ≤ (k : Int) := by omega
        have hk1 : (k : Int) < (n : Int) := by omega
        by_cases he : l.getD k noAct = m.getD k noAct
        · have HE2 : Box (∀ j, j < k + 1 → l.getD j noAct = m.getD j noAct) := ⟨fun j hj => by
            rcases Nat.lt_or_ge j k with h | h
            · exact HE.out j h
            · rw [show j = k by omega]; exact he⟩
          rw [he] at u0 u1 u2
          clear he
          generalize (m.getD k noAct).1 = x at *
          generalize (m.getD k noAct).2.1 = y at *
          generalize (m.getD k noAct).2.2 = z at *
          go_wp2_with fail
          go_quiet (fail)
          go_wp2_with fail
          go_roundw
          case rel => exact ⟨k + 1, q + nq, by omega, by go_num, HE2, by first | rfl | rw [World.drewN_drewN]⟩
          case measure => simp [intOf]; omega
        · have HN : Box (decide (l = m) = false) := ⟨by
            rw [decide_eq_false_iff_not]
            intro h; exact he (by rw [h])⟩
          have hne : ¬ ((l.getD k noAct).1 = (m.getD k noAct).1 ∧ (l.getD k noAct).2.1 = (m.getD k noAct).2.1 ∧ (l.getD k noAct).2.2 = (m.getD k noAct).2.2) := fun h => he (Prod.ext h.1 (Prod.ext h.2.1 h.2.2))
          clear he
          generalize (l.getD k noAct).1 = x at *
          generalize (l.getD k noAct).2.1 = y at *
          generalize (l.getD k noAct).2.2 = z at *
          generalize (m.getD k noAct).1 = x' at *
          generalize (m.getD k noAct).2.1 = y' at *
          generalize (m.getD k noAct).2.2 = z' at *
          by_cases hx : x = x'
          · subst hx
            by_cases hy : y = y'
            · subst hy
              have hz : (z.toList == z'.toList) = false := by rw [bytes_beq]; simpa using hne
              clear hne
              go_wp2_with fail
              go_quiet (fail)
              go_wp2_with fail
              go_ret
              exact ⟨by rw [HN.out]; rfl, q + nq, by first | rfl | rw [World.drewN_drewN]⟩
            · have hy' : (y == y') = false := by simpa using hy
              clear hne hy
              go_wp2_with fail
              go_quiet (fail)
              go_wp2_with fail
              go_ret
              exact ⟨by rw [HN.out]; rfl, q + nq, by first | rfl | rw [World.drewN_drewN]⟩
          · have hx' : (x == x') = false := by simpa using hx
            clear hne hx
            go_wp2_with fail
            go_quiet (fail)
            go_wp2_with fail
            go_ret
            exact ⟨by rw [HN.out]; rfl, q + nq, by first | rfl | rw [World.drewN_drewN]⟩
      · have HT : Box (decide (l = m) = true) := ⟨by
          rw [decide_eq_true_eq]
          exact agetD_ext Hlm.out (fun i hi => HE.out i (by rw [Hn.out] at hi; omega))⟩
        go_wp2_with fail
        go_ret
        exact ⟨by rw [HT.out]; rfl, q, rfl⟩
  · have HN : Box (decide (l = m) = false) := ⟨by
      rw [decide_eq_false_iff_not]
      intro h; exact hl (by rw [h])⟩
    clear HU HV
    generalize l.length = n at *
    generalize m.length = n' at *
    have hb : ((n : Int) != (n' : Int)) = true := by rw [bne_iff_ne]; omega
    go_enter Try.func27, Try.ntmps27
    go_wp2_with fail
    go_ret
    exact ⟨by rw [HN.out]; rfl, 0, rfl⟩

end Go.Proofs.Ytljmfiegkefpoaa
