/- The ring's functions by contracts: setting links; Init, Behind, Ahead, Alone, Insert, Remove, Join where all links are places. -/
import Derived.Test.YtbjlapfcnldpoaaRing
namespace Go.Proofs.Ytbjlapfcnldpoaa
set_option linter.unusedVariables false
set_option linter.unusedSimpArgs false
open Go.RowKit

abbrev Tie := Nat × Nat × Nat
def tcells (l : List Tie) : List Value := l.flatMap (fun t => [.int .i64 (t.1 : Int), .int .i64 (t.2.1 : Int), .int .i64 (t.2.2 : Int)])
def setAll (W : List Nat) (l : List Tie) : List Nat := l.foldl (fun W t => W.set (t.1 + t.2.1) t.2.2) W

/-- The ties l, in block h. -/
structure IsTies (w : World) (h : Nat) (l : List Tie) : Prop where
  lt : h < w.heap.size
  cells : ∀ i, i < l.length → w.cell? ⟨h, i * 3, none⟩ = some (.int .i64 ((l.getD i (0, 0, 0)).1 : Int)) ∧ w.cell? ⟨h, i * 3 + 1, none⟩ = some (.int .i64 ((l.getD i (0, 0, 0)).2.1 : Int)) ∧ w.cell? ⟨h, i * 3 + 2, none⟩ = some (.int .i64 ((l.getD i (0, 0, 0)).2.2 : Int))

theorem IsTies.keeps {w w' : World} {h : Nat} {l : List Tie} (hi : IsTies w h l) {S : Nat → Prop} (hk : Keeps S w w') (h1 : ¬ S h) : IsTies w' h l :=
  ⟨by have := hk.size; have := hi.lt; omega, fun i hl => ⟨hk.cell (hi.cells i hl).1 h1, hk.cell (hi.cells i hl).2.1 h1, hk.cell (hi.cells i hl).2.2 h1⟩⟩
theorem tcells_at (l : List Tie) (i : Nat) (h : i < l.length) : (tcells l)[i * 3]? = some (.int .i64 ((l.getD i (0, 0, 0)).1 : Int)) ∧ (tcells l)[i * 3 + 1]? = some (.int .i64 ((l.getD i (0, 0, 0)).2.1 : Int)) ∧ (tcells l)[i * 3 + 2]? = some (.int .i64 ((l.getD i (0, 0, 0)).2.2 : Int)) := by
  induction l generalizing i with
  | nil => simp at h
  | cons p l ih =>
    cases i with
    | zero => simp [tcells]
    | succ i =>
      have := ih i (by simpa using h)
      simp only [tcells, List.flatMap_cons, List.cons_append, List.nil_append] at this ⊢
      rw [show (i + 1) * 3 = i * 3 + 1 + 1 + 1 by omega, show i * 3 + 1 + 1 + 1 + 1 = (i * 3 + 1) + 1 + 1 + 1 by omega, show i * 3 + 1 + 1 + 1 + 2 = (i * 3 + 2) + 1 + 1 + 1 by omega]
      simpa using this
theorem IsTies.lit (w : World) (l : List Tie) : IsTies (w.alloc (.cells (tcells l).toArray 138)) w.heap.size l := by
  refine ⟨by simp, fun i hi => ?_⟩
  obtain ⟨h0, h1, h2⟩ := tcells_at l i hi
  have hh := heap_alloc_new w (.cells (tcells l).toArray 138)
  rw [cell_of_heap hh, cell_of_heap hh, cell_of_heap hh]
  exact ⟨by simpa using h0, by simpa using h1, by simpa using h2⟩
theorem setAll_length (W : List Nat) (l : List Tie) : (setAll W l).length = W.length := by
  unfold setAll
  induction l generalizing W with
  | nil => rfl
  | cons t l ih => rw [List.foldl_cons, ih]; simp
theorem setAll_snoc (W : List Nat) (l : List Tie) (t : Tie) : setAll W (l ++ [t]) = (setAll W l).set (t.1 + t.2.1) t.2.2 := by simp [setAll]
theorem take_snocT {l : List Tie} {k : Nat} (h : k < l.length) : l.take (k + 1) = l.take k ++ [l.getD k (0, 0, 0)] := by
  rw [List.take_add_one, List.getElem?_eq_getElem h]
  simp [List.getD, h]

set_option maxRecDepth 100000 in
set_option maxHeartbeats 1000000 in
theorem rset_all {w : World} {b g h : Nat} {W : List Nat} {l : List Tie} (hw : IsW w b g W) (hl : IsTies w h l) (hb : h ≠ b) (hg : h ≠ g) (hn : l.length ≤ 100)
    (hr : ∀ t ∈ l, t.1 + t.2.1 < W.length ∧ t.2.2 ≤ 1048576) :
    Calls Try.prog 98 #[.pointer (some ⟨b, 0, none⟩), .slice (some ⟨h, 0, none⟩) l.length l.length] w fun e w' => e = .returned .nilIface ∧ IsW w' b g (setAll W l) ∧ Keeps (foot b g) w w' := by
  have hWl := hw.len
  have HW := Box.mk hw
  have HL := Box.mk hl
  have HR := Box.mk hr
  have Hb := Box.mk (And.intro hb hg)
  clear hw hl hr hb hg
  obtain ⟨n, hn2⟩ : ∃ n, l.length = n := ⟨_, rfl⟩
  have Hn := Box.mk hn2
  rw [hn2] at hn ⊢
  clear hn2
  go_enter Try.func98, Try.ntmps98
  go_wp2_with fail
  go_loopw [10] (fun i wr => ∃ k : Nat, k ≤ n ∧ i = .int .i64 k ∧ Box (IsW wr b g (setAll W (l.take k))) ∧ Box (Keeps (foot b g) w wr)) (fun i _ => n - (intOf i).toNat)
  case atStart => exact ⟨0, Nat.zero_le _, rfl, HW, ⟨Keeps.refl _ _⟩⟩
  case round =>
    obtain ⟨k, hk, rfl, HWk, K⟩ := hrel
    by_cases hkn : k < n
    · have hkl : k < l.length := by rw [Hn.out]; exact hkn
      have hT := HL.out.keeps K.out (fun e => e.elim Hb.out.1 Hb.out.2)
      obtain ⟨c0, c1, c2⟩ := hT.cells k hkl
      have hlt := hT.lt
      have hm := HR.out (l.getD k (0, 0, 0)) (by simp [List.getD, hkl])
      have Hts := Box.mk (take_snocT hkl)
      clear hkl hT
      have hk0 : (0 : Int) ≤ (k : Int) := by omega
      have hk1 : (k : Int) < (n : Int) := by omega
      generalize l.getD k (0, 0, 0) = t at *
      obtain ⟨t1, t2, t3⟩ := t
      simp only at c0 c1 c2 hm
      obtain ⟨hm1, hm2⟩ := hm
      obtain ⟨r, hr⟩ : ∃ r, t1 + t2 = r := ⟨_, rfl⟩
      have hr2 : (t1 : Int) + (t2 : Int) = (r : Int) := by omega
      have hr3 : r < W.length := by omega
      have HWa := Box.mk (HWk.out.keeps0 ((Keeps.refl (fun _ => False) wr).alloc (.cells #[.int .i64 t1, .int .i64 t2, .int .i64 t3] 138)))
      have Ka := Box.mk (K.out.alloc (.cells #[.int .i64 t1, .int .i64 t2, .int .i64 t3] 138))
      have Hr := Box.mk hr
      clear K HWk hr hm1
      go_wp2_with fail
      refine (wset_is t3 HWa.out (p := r) (by rw [setAll_length]; exact hr3)).mono ?_
      rintro e w1 ⟨rfl, h1, k1⟩
      have H1 : Box (IsW w1 b g (setAll W (l.take (k + 1)))) := ⟨by rw [Hts.out, setAll_snoc]; show IsW w1 b g ((setAll W (l.take k)).set (t1 + t2) t3); rw [Hr.out]; exact h1⟩
      have K1 := Box.mk (Ka.out.trans k1)
      clear h1 k1 Ka HWa
      go_wp2_with fail
      go_roundw
      case rel => exact ⟨k + 1, by omega, by go_num, H1, K1⟩
      case measure => simp [intOf]; omega
    · have HE : Box (IsW wr b g (setAll W l)) := ⟨by have h := HWk.out; rw [List.take_of_length_le (by rw [Hn.out]; omega)] at h; exact h⟩
      go_wp2_with fail
      go_ret
      exact ⟨rfl, HE.out, K.out⟩

/-- The words that are places. -/
def Places (W : List Nat) : Prop := ∀ p, p < W.length → wat W p ≤ 1048576


end Go.Proofs.Ytbjlapfcnldpoaa
