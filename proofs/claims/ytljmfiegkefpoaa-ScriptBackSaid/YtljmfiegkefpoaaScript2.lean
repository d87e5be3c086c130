/- The script's act. -/
import Derived.Test.YtljmfiegkefpoaaScript
namespace Go.Proofs.Ytljmfiegkefpoaa
set_option linter.unusedVariables false
set_option linter.unusedSimpArgs false
open Go.RowKit

/-- An act: kind, number, text. -/
structure Act3 where
  k : Nat
  n : Nat
  t : ByteArray

def Act3.val (a : Act3) : Value := .agg #[.int .i64 a.k, .int .i64 a.n, .string a.t]

def noText : ByteArray := ⟨#[]⟩

/-- The act at the beginning of r, and how many bytes it takes. -/
def actOf (r : ByteArray) : Option (Act3 × Nat) :=
  if r.size = 0 then none
  else if byt r 0 % 8 = 0 then some (⟨1, 0, ⟨#[10]⟩⟩, 1)
  else if byt r 0 % 8 = 7 then some (⟨4, 5000, noText⟩, 1)
  else if byt r 0 % 8 = 1 then (if r.size < 2 then none else if r.size < 2 + byt r 1 then none else some (⟨1, 0, r.extract 2 (2 + byt r 1)⟩, 2 + byt r 1))
  else if byt r 0 % 8 = 4 then (if r.size < 3 then none else some (⟨4, byt r 1 + 256 * byt r 2, noText⟩, 3))
  else if byt r 0 % 8 = 3 then some (⟨3, 0, noText⟩, 1)
  else (if r.size < 2 then none else some (⟨byt r 0 % 8, byt r 1, noText⟩, 2))

/-- What act answers. -/
inductive ActSaid (w : World) (b : Nat) (r : ByteArray) : Ending → World → Prop where
  | no {w' : World} (k n : Nat) (t : ByteArray) (h : actOf r = none) (hk : Keeps (fun j => j = b) w w') : ActSaid w b r (.returned (.tuple #[.agg #[.int .i64 k, .int .i64 n, .string t], .bool false])) w'
  | yes {w' : World} (a : Act3) (c : Nat) (h : actOf r = some (a, c)) (ht : IsTape w' b (r.extract c r.size)) (hk : Keeps (fun j => j = b) w w') : ActSaid w b r (.returned (.tuple #[a.val, .bool true])) w'

theorem rest_rest (r : ByteArray) (a c : Nat) (h : a ≤ r.size) : (r.extract a r.size).extract c (r.extract a r.size).size = r.extract (a + c) r.size := by
  rw [ByteArray.extract_extract]
  congr 1
  simp
  omega
theorem byt_rest (r : ByteArray) (a i : Nat) (h : a + i < r.size) : byt (r.extract a r.size) i = byt r (a + i) := by
  have := byt_extract r a (r.size - a) i (by omega) (by omega)
  rw [show a + (r.size - a) = r.size by omega] at this
  exact this

theorem IsTape.set {w : World} {b g i : Nat} {r : ByteArray} (h : IsTape w b r) (hne : g ≠ b) (v : Value) : IsTape (w.setCell ⟨g, i, none⟩ v) b r :=
  h.keeps ((Keeps.refl (fun j => j = g) w).setCell (p := ⟨g, i, none⟩) (fun _ => rfl) v) (fun e => hne e.symm)

set_option maxRecDepth 100000 in
set_option maxHeartbeats 4000000 in
theorem act_is {b : Nat} {r : ByteArray} {w : World} (ht : IsTape w b r) :
    Calls Try.prog 37 #[.pointer (some ⟨b, 0, none⟩)] w fun e w' => ActSaid w b r e w' := by
  have hlt := ht.lt
  have HT := Box.mk (ht.keeps0 ((Keeps.refl (fun _ => False) w).alloc (.cells #[.int .i64 0, .int .i64 0, .string ⟨#[]⟩] 72)))
  have HK := Box.mk ((Keeps.refl (fun _ => False) w).alloc (.cells #[.int .i64 0, .int .i64 0, .string ⟨#[]⟩] 72))
  clear ht
  go_enter Try.func37, Try.ntmps37
  go_wp2_with fail
  by_cases h0 : r.size = 0
  · refine (num_no HT.out (n := 1) (by omega) (by omega)).mono ?_
    rintro e w1 ⟨rfl, rfl⟩
    have hn : actOf r = none := by unfold actOf; rw [if_pos h0]
    go_wp2_with fail
    exact bodyPost_ret (v := .tuple #[.agg #[.int .i64 0, .int .i64 0, .string ⟨#[]⟩], .bool false]) (by simp [results, Try.results37, go_sem]) rfl (.no 0 0 _ hn (HK.out.mono (fun _ _ h => h.elim)))
  · refine (num1_ok HT.out (by omega)).mono ?_
    rintro e w1 ⟨rfl, h1, k1⟩
    obtain ⟨g, hg⟩ : ∃ g, w.heap.size = g := ⟨_, rfl⟩
    have hg1 : w1.heap[g]? = some (.cells #[.int .i64 0, .int .i64 0, .string ⟨#[]⟩] 72 (0, 0)) := k1.heap (by rw [← hg]; exact heap_alloc_new _ _) (by show ¬ g = b; omega)
    have hgb : g ≠ b := by omega
    have a0 := cell_of_heap hg1 0
    have a1 := cell_of_heap hg1 1
    have a2 := cell_of_heap hg1 2
    have f0 := frozen_of_heap hg1 0
    have f1 := frozen_of_heap hg1 1
    have f2 := frozen_of_heap hg1 2
    simp only [List.getElem?_toArray, List.getElem?_cons_zero, List.getElem?_cons_succ] at a0 a1 a2
    have H1 := Box.mk h1
    have K1 : Box (Keeps (fun j => j = b) w w1) := ⟨(HK.out.mono (fun _ _ h => h.elim)).trans k1⟩
    obtain ⟨q, hq⟩ : ∃ q, byt r 0 = q := ⟨_, rfl⟩
    have hlt8 := byt_lt r 0
    rw [hq] at hlt8 ⊢
    obtain ⟨c, hc⟩ : ∃ c, q % 8 = c := ⟨_, rfl⟩
    have hm : (q : Int).tmod 8 = (c : Int) := by rw [Int.tmod_eq_emod_of_nonneg (by omega)]; omega
    have hc8 : c < 8 := by omega
    have Hq := Box.mk (show byt r 0 % 8 = c by rw [hq]; exact hc)
    rw [hg]
    have Hg := Box.mk hg
    have Hg1 := Box.mk hg1
    clear hq hc h1 k1 hg hg1 HT HK
    match c, hc8 with
    | 0, _ =>
      go_wp2_with fail
      exact bodyPost_ret (v := .tuple #[Act3.val ⟨1, 0, ⟨#[10]⟩⟩, .bool true]) (by simp [results, Try.results37, go_sem, Act3.val, noText, a0, a1, a2, hgb]) rfl (.yes ⟨1, 0, ⟨#[10]⟩⟩ 1 (by unfold actOf; rw [if_neg h0, if_pos Hq.out]) (by repeat first | exact H1.out | refine IsTape.set ?_ hgb _) (by repeat first | exact K1.out | refine Keeps.setCell ?_ (fun h => absurd h (by rw [Hg.out]; exact Nat.lt_irrefl _)) _))
    | 1, _ =>
      go_wp2_with fail
      have H2 := Box.mk (H1.out.set hgb (i := 0) (.int .i64 1))
      have K2 : Box (Keeps (fun j => j = b) w (w1.setCell ⟨g, 0, none⟩ (.int .i64 1))) := ⟨K1.out.setCell (fun h => absurd h (by rw [Hg.out]; exact Nat.lt_irrefl _)) _⟩
      have g2 := heap_setCell_at Hg1.out 0 (.int .i64 1)
      clear a0 a1 a2 f0 f1 f2
      have a0 := cell_of_heap g2 0
      have a1 := cell_of_heap g2 1
      have a2 := cell_of_heap g2 2
      have f0 := frozen_of_heap g2 0
      have f1 := frozen_of_heap g2 1
      have f2 := frozen_of_heap g2 2
      simp at a0 a1 a2
      clear H1 K1
      by_cases hs : (r.extract 1 r.size).size < 1
      · refine (num_no H2.out (n := 1) hs (by omega)).mono ?_
        rintro e w2 ⟨rfl, rfl⟩
        have hn : actOf r = none := by unfold actOf; rw [if_neg h0, if_neg (by rw [Hq.out]; decide), if_neg (by rw [Hq.out]; decide), if_pos Hq.out, if_pos (by simp at hs; omega)]
        go_wp2_with fail
        refine (take_ok (n := 0) H2.out (by omega)).mono ?_
        rintro e w3 ⟨rfl, h3, k3⟩
        have g3 := k3.heap g2 hgb
        clear a0 a1 a2 f0 f1 f2
        have a0 := cell_of_heap g3 0
        have a1 := cell_of_heap g3 1
        have a2 := cell_of_heap g3 2
        have f0 := frozen_of_heap g3 0
        have f1 := frozen_of_heap g3 1
        have f2 := frozen_of_heap g3 2
        simp at a0 a1 a2
        have K3 := Box.mk (K2.out.trans k3)
        clear k3 h3 H2 K2
        go_wp2_with fail
        exact bodyPost_ret (v := .tuple #[.agg #[.int .i64 (1 : Nat), .int .i64 (0 : Nat), .string ((r.extract 1 r.size).extract 0 0)], .bool false]) (by simp [results, Try.results37, go_sem, Act3.val, noText, a0, a1, a2, hgb]) rfl (.no 1 0 _ hn (by repeat first | exact K3.out | refine Keeps.setCell ?_ (fun h => absurd h (by rw [Hg.out]; exact Nat.lt_irrefl _)) _))
      · have hn1 := num1_ok H2.out (by omega)
        rw [byt_rest r 1 0 (by simp at hs; omega)] at hn1
        refine hn1.mono ?_
        clear hn1
        rintro e w2 ⟨rfl, h2, k2⟩
        rw [rest_rest r 1 1 (by omega)] at h2
        have g3 := k2.heap g2 hgb
        clear a0 a1 a2 f0 f1 f2
        have a0 := cell_of_heap g3 0
        have a1 := cell_of_heap g3 1
        have a2 := cell_of_heap g3 2
        have f0 := frozen_of_heap g3 0
        have f1 := frozen_of_heap g3 1
        have f2 := frozen_of_heap g3 2
        simp at a0 a1 a2
        have H3 := Box.mk h2
        have K3 := Box.mk (K2.out.trans k2)
        have hb1 := byt_lt r 1
        obtain ⟨t, ht⟩ : ∃ t, byt r 1 = t := ⟨_, rfl⟩
        have Ht := Box.mk ht
        rw [ht] at hb1 ⊢
        clear h2 k2 H2 K2 ht g2
        go_wp2_with fail
        by_cases hs2 : (r.extract 2 r.size).size < t
        · refine (take_no H3.out hs2 (by omega)).mono ?_
          rintro e w3 ⟨rfl, rfl⟩
          have hn : actOf r = none := by unfold actOf; rw [if_neg h0, if_neg (by rw [Hq.out]; decide), if_neg (by rw [Hq.out]; decide), if_pos Hq.out, if_neg (by simp at hs; omega), if_pos (by rw [Ht.out]; simp at hs2; omega)]
          go_wp2_with fail
          exact bodyPost_ret (v := .tuple #[.agg #[.int .i64 (1 : Nat), .int .i64 (0 : Nat), .string ByteArray.empty], .bool false]) (by simp [results, Try.results37, go_sem, Act3.val, noText, a0, a1, a2, hgb]) rfl (.no 1 0 _ hn (by repeat first | exact K3.out | refine Keeps.setCell ?_ (fun h => absurd h (by rw [Hg.out]; exact Nat.lt_irrefl _)) _))
        · have hsz : 2 + t ≤ r.size := by simp at hs hs2; omega
          have hact : actOf r = some (⟨1, 0, r.extract 2 (2 + t)⟩, 2 + t) := by unfold actOf; rw [if_neg h0, if_neg (by rw [Hq.out]; decide), if_neg (by rw [Hq.out]; decide), if_pos Hq.out, if_neg (by omega), if_neg (by rw [Ht.out]; omega), Ht.out]
          refine (take_ok (n := t) H3.out (by simp; omega)).mono ?_
          rintro e w3 ⟨rfl, h3, k3⟩
          have hx : (r.extract 2 r.size).extract 0 t = r.extract 2 (2 + t) := by rw [ByteArray.extract_extract]; congr 1; omega
          rw [rest_rest r 2 t (by omega)] at h3
          rw [hx]
          have g4 := k3.heap g3 hgb
          clear a0 a1 a2 f0 f1 f2
          have a0 := cell_of_heap g4 0
          have a1 := cell_of_heap g4 1
          have a2 := cell_of_heap g4 2
          have f0 := frozen_of_heap g4 0
          have f1 := frozen_of_heap g4 1
          have f2 := frozen_of_heap g4 2
          simp at a0 a1 a2
          have H4 := Box.mk h3
          have K4 := Box.mk (K3.out.trans k3)
          have Ha := Box.mk hact
          clear h3 k3 H3 K3 hx hact
          go_wp2_with fail
          exact bodyPost_ret (v := .tuple #[Act3.val ⟨1, 0, r.extract 2 (2 + t)⟩, .bool true]) (by simp [results, Try.results37, go_sem, Act3.val, noText, a0, a1, a2, hgb]) rfl (.yes _ _ Ha.out (by repeat first | exact H4.out | refine IsTape.set ?_ hgb _) (by repeat first | exact K4.out | refine Keeps.setCell ?_ (fun h => absurd h (by rw [Hg.out]; exact Nat.lt_irrefl _)) _))
    | 2, _ =>
      go_wp2_with fail
      have H2 := Box.mk (H1.out.set hgb (i := 0) (.int .i64 2))
      have K2 : Box (Keeps (fun j => j = b) w (w1.setCell ⟨g, 0, none⟩ (.int .i64 2))) := ⟨K1.out.setCell (fun h => absurd h (by rw [Hg.out]; exact Nat.lt_irrefl _)) _⟩
      have g2 := heap_setCell_at Hg1.out 0 (.int .i64 2)
      clear H1 K1 a0 a1 a2 f0 f1 f2
      have a0 := cell_of_heap g2 0
      have a1 := cell_of_heap g2 1
      have a2 := cell_of_heap g2 2
      have f0 := frozen_of_heap g2 0
      have f1 := frozen_of_heap g2 1
      have f2 := frozen_of_heap g2 2
      simp at a0 a1 a2
      by_cases hs : (r.extract 1 r.size).size < 1
      · refine (num_no H2.out (n := 1) hs (by omega)).mono ?_
        rintro e w2 ⟨rfl, rfl⟩
        have hn : actOf r = none := (by unfold actOf; rw [if_neg h0, if_neg (by rw [Hq.out]; decide), if_neg (by rw [Hq.out]; decide), if_neg (by rw [Hq.out]; decide), if_neg (by rw [Hq.out]; decide), if_neg (by rw [Hq.out]; decide), if_pos (by simp at hs; omega)])
        go_wp2_with fail
        exact bodyPost_ret (v := .tuple #[.agg #[.int .i64 (2 : Nat), .int .i64 (0 : Nat), .string noText], .bool false]) (by simp [results, Try.results37, go_sem, Act3.val, noText, a0, a1, a2, hgb]) rfl (.no 2 0 noText hn (by repeat first | exact K2.out | refine Keeps.setCell ?_ (fun h => absurd h (by rw [Hg.out]; exact Nat.lt_irrefl _)) _))
      · have hn1 := num1_ok H2.out (by omega)
        rw [byt_rest r 1 0 (by simp at hs; omega)] at hn1
        refine hn1.mono ?_
        clear hn1
        rintro e w2 ⟨rfl, h2, k2⟩
        have g3 := k2.heap g2 hgb
        have H3 := Box.mk h2
        have K3 := Box.mk (K2.out.trans k2)
        clear H2 K2 a0 a1 a2 f0 f1 f2 g2 k2 h2
        have a0 := cell_of_heap g3 0
        have a1 := cell_of_heap g3 1
        have a2 := cell_of_heap g3 2
        have f0 := frozen_of_heap g3 0
        have f1 := frozen_of_heap g3 1
        have f2 := frozen_of_heap g3 2
        simp at a0 a1 a2
        go_wp2_with fail
        have hact : actOf r = some (⟨2, byt r 1, noText⟩, 2) := by unfold actOf; rw [if_neg h0, if_neg (by rw [Hq.out]; decide), if_neg (by rw [Hq.out]; decide), if_neg (by rw [Hq.out]; decide), if_neg (by rw [Hq.out]; decide), if_neg (by rw [Hq.out]; decide), if_neg (by simp at hs; omega)]; rw [Hq.out]
        have hrr := rest_rest r 1 1 (by omega)
        rw [hrr] at H3
        clear hrr
        exact bodyPost_ret (v := .tuple #[Act3.val ⟨2, byt r 1, noText⟩, .bool true]) (by simp [results, Try.results37, go_sem, Act3.val, noText, a0, a1, a2, hgb]) rfl (.yes _ 2 hact (by repeat first | exact H3.out | refine IsTape.set ?_ hgb _) (by repeat first | exact K3.out | refine Keeps.setCell ?_ (fun h => absurd h (by rw [Hg.out]; exact Nat.lt_irrefl _)) _))
    | 3, _ =>
      go_wp2_with fail
      exact bodyPost_ret (v := .tuple #[Act3.val ⟨3, 0, noText⟩, .bool true]) (by simp [results, Try.results37, go_sem, Act3.val, noText, a0, a1, a2, hgb]) rfl (.yes ⟨3, 0, noText⟩ 1 (by unfold actOf; rw [if_neg h0, if_neg (by rw [Hq.out]; decide), if_neg (by rw [Hq.out]; decide), if_neg (by rw [Hq.out]; decide), if_neg (by rw [Hq.out]; decide), if_pos Hq.out]) (by repeat first | exact H1.out | refine IsTape.set ?_ hgb _) (by repeat first | exact K1.out | refine Keeps.setCell ?_ (fun h => absurd h (by rw [Hg.out]; exact Nat.lt_irrefl _)) _))
    | 4, _ =>
      go_wp2_with fail
      have H2 := Box.mk (H1.out.set hgb (i := 0) (.int .i64 4))
      have K2 : Box (Keeps (fun j => j = b) w (w1.setCell ⟨g, 0, none⟩ (.int .i64 4))) := ⟨K1.out.setCell (fun h => absurd h (by rw [Hg.out]; exact Nat.lt_irrefl _)) _⟩
      have g2 := heap_setCell_at Hg1.out 0 (.int .i64 4)
      clear H1 K1 a0 a1 a2 f0 f1 f2
      have a0 := cell_of_heap g2 0
      have a1 := cell_of_heap g2 1
      have a2 := cell_of_heap g2 2
      have f0 := frozen_of_heap g2 0
      have f1 := frozen_of_heap g2 1
      have f2 := frozen_of_heap g2 2
      simp at a0 a1 a2
      by_cases hs : (r.extract 1 r.size).size < 2
      · refine (num_no H2.out (n := 2) hs (by omega)).mono ?_
        rintro e w2 ⟨rfl, rfl⟩
        have hn : actOf r = none := (by unfold actOf; rw [if_neg h0, if_neg (by rw [Hq.out]; decide), if_neg (by rw [Hq.out]; decide), if_neg (by rw [Hq.out]; decide), if_pos Hq.out, if_pos (by simp at hs; omega)])
        go_wp2_with fail
        exact bodyPost_ret (v := .tuple #[.agg #[.int .i64 (4 : Nat), .int .i64 (0 : Nat), .string noText], .bool false]) (by simp [results, Try.results37, go_sem, Act3.val, noText, a0, a1, a2, hgb]) rfl (.no 4 0 noText hn (by repeat first | exact K2.out | refine Keeps.setCell ?_ (fun h => absurd h (by rw [Hg.out]; exact Nat.lt_irrefl _)) _))
      · have hn1 := num2_ok H2.out (by omega)
        rw [byt_rest r 1 0 (by simp at hs; omega), byt_rest r 1 1 (by simp at hs; omega)] at hn1
        refine hn1.mono ?_
        clear hn1
        rintro e w2 ⟨rfl, h2, k2⟩
        have g3 := k2.heap g2 hgb
        have H3 := Box.mk h2
        have K3 := Box.mk (K2.out.trans k2)
        clear H2 K2 a0 a1 a2 f0 f1 f2 g2 k2 h2
        have a0 := cell_of_heap g3 0
        have a1 := cell_of_heap g3 1
        have a2 := cell_of_heap g3 2
        have f0 := frozen_of_heap g3 0
        have f1 := frozen_of_heap g3 1
        have f2 := frozen_of_heap g3 2
        simp at a0 a1 a2
        go_wp2_with fail
        have hact : actOf r = some (⟨4, byt r 1 + 256 * byt r 2, noText⟩, 3) := by unfold actOf; rw [if_neg h0, if_neg (by rw [Hq.out]; decide), if_neg (by rw [Hq.out]; decide), if_neg (by rw [Hq.out]; decide), if_pos Hq.out, if_neg (by simp at hs; omega)]
        have hrr := rest_rest r 1 2 (by omega)
        rw [hrr] at H3
        clear hrr
        exact bodyPost_ret (v := .tuple #[Act3.val ⟨4, byt r 1 + 256 * byt r 2, noText⟩, .bool true]) (by simp [results, Try.results37, go_sem, Act3.val, noText, a0, a1, a2, hgb]) rfl (.yes _ 3 hact (by repeat first | exact H3.out | refine IsTape.set ?_ hgb _) (by repeat first | exact K3.out | refine Keeps.setCell ?_ (fun h => absurd h (by rw [Hg.out]; exact Nat.lt_irrefl _)) _))
    | 5, _ =>
      go_wp2_with fail
      have H2 := Box.mk (H1.out.set hgb (i := 0) (.int .i64 5))
      have K2 : Box (Keeps (fun j => j = b) w (w1.setCell ⟨g, 0, none⟩ (.int .i64 5))) := ⟨K1.out.setCell (fun h => absurd h (by rw [Hg.out]; exact Nat.lt_irrefl _)) _⟩
      have g2 := heap_setCell_at Hg1.out 0 (.int .i64 5)
      clear H1 K1 a0 a1 a2 f0 f1 f2
      have a0 := cell_of_heap g2 0
      have a1 := cell_of_heap g2 1
      have a2 := cell_of_heap g2 2
      have f0 := frozen_of_heap g2 0
      have f1 := frozen_of_heap g2 1
      have f2 := frozen_of_heap g2 2
      simp at a0 a1 a2
      by_cases hs : (r.extract 1 r.size).size < 1
      · refine (num_no H2.out (n := 1) hs (by omega)).mono ?_
        rintro e w2 ⟨rfl, rfl⟩
        have hn : actOf r = none := (by unfold actOf; rw [if_neg h0, if_neg (by rw [Hq.out]; decide), if_neg (by rw [Hq.out]; decide), if_neg (by rw [Hq.out]; decide), if_neg (by rw [Hq.out]; decide), if_neg (by rw [Hq.out]; decide), if_pos (by simp at hs; omega)])
        go_wp2_with fail
        exact bodyPost_ret (v := .tuple #[.agg #[.int .i64 (5 : Nat), .int .i64 (0 : Nat), .string noText], .bool false]) (by simp [results, Try.results37, go_sem, Act3.val, noText, a0, a1, a2, hgb]) rfl (.no 5 0 noText hn (by repeat first | exact K2.out | refine Keeps.setCell ?_ (fun h => absurd h (by rw [Hg.out]; exact Nat.lt_irrefl _)) _))
      · have hn1 := num1_ok H2.out (by omega)
        rw [byt_rest r 1 0 (by simp at hs; omega)] at hn1
        refine hn1.mono ?_
        clear hn1
        rintro e w2 ⟨rfl, h2, k2⟩
        have g3 := k2.heap g2 hgb
        have H3 := Box.mk h2
        have K3 := Box.mk (K2.out.trans k2)
        clear H2 K2 a0 a1 a2 f0 f1 f2 g2 k2 h2
        have a0 := cell_of_heap g3 0
        have a1 := cell_of_heap g3 1
        have a2 := cell_of_heap g3 2
        have f0 := frozen_of_heap g3 0
        have f1 := frozen_of_heap g3 1
        have f2 := frozen_of_heap g3 2
        simp at a0 a1 a2
        go_wp2_with fail
        have hact : actOf r = some (⟨5, byt r 1, noText⟩, 2) := by unfold actOf; rw [if_neg h0, if_neg (by rw [Hq.out]; decide), if_neg (by rw [Hq.out]; decide), if_neg (by rw [Hq.out]; decide), if_neg (by rw [Hq.out]; decide), if_neg (by rw [Hq.out]; decide), if_neg (by simp at hs; omega)]; rw [Hq.out]
        have hrr := rest_rest r 1 1 (by omega)
        rw [hrr] at H3
        clear hrr
        exact bodyPost_ret (v := .tuple #[Act3.val ⟨5, byt r 1, noText⟩, .bool true]) (by simp [results, Try.results37, go_sem, Act3.val, noText, a0, a1, a2, hgb]) rfl (.yes _ 2 hact (by repeat first | exact H3.out | refine IsTape.set ?_ hgb _) (by repeat first | exact K3.out | refine Keeps.setCell ?_ (fun h => absurd h (by rw [Hg.out]; exact Nat.lt_irrefl _)) _))
    | 6, _ =>
      go_wp2_with fail
      have H2 := Box.mk (H1.out.set hgb (i := 0) (.int .i64 6))
      have K2 : Box (Keeps (fun j => j = b) w (w1.setCell ⟨g, 0, none⟩ (.int .i64 6))) := ⟨K1.out.setCell (fun h => absurd h (by rw [Hg.out]; exact Nat.lt_irrefl _)) _⟩
      have g2 := heap_setCell_at Hg1.out 0 (.int .i64 6)
      clear H1 K1 a0 a1 a2 f0 f1 f2
      have a0 := cell_of_heap g2 0
      have a1 := cell_of_heap g2 1
      have a2 := cell_of_heap g2 2
      have f0 := frozen_of_heap g2 0
      have f1 := frozen_of_heap g2 1
      have f2 := frozen_of_heap g2 2
      simp at a0 a1 a2
      by_cases hs : (r.extract 1 r.size).size < 1
      · refine (num_no H2.out (n := 1) hs (by omega)).mono ?_
        rintro e w2 ⟨rfl, rfl⟩
        have hn : actOf r = none := (by unfold actOf; rw [if_neg h0, if_neg (by rw [Hq.out]; decide), if_neg (by rw [Hq.out]; decide), if_neg (by rw [Hq.out]; decide), if_neg (by rw [Hq.out]; decide), if_neg (by rw [Hq.out]; decide), if_pos (by simp at hs; omega)])
        go_wp2_with fail
        exact bodyPost_ret (v := .tuple #[.agg #[.int .i64 (6 : Nat), .int .i64 (0 : Nat), .string noText], .bool false]) (by simp [results, Try.results37, go_sem, Act3.val, noText, a0, a1, a2, hgb]) rfl (.no 6 0 noText hn (by repeat first | exact K2.out | refine Keeps.setCell ?_ (fun h => absurd h (by rw [Hg.out]; exact Nat.lt_irrefl _)) _))
      · have hn1 := num1_ok H2.out (by omega)
        rw [byt_rest r 1 0 (by simp at hs; omega)] at hn1
        refine hn1.mono ?_
        clear hn1
        rintro e w2 ⟨rfl, h2, k2⟩
        have g3 := k2.heap g2 hgb
        have H3 := Box.mk h2
        have K3 := Box.mk (K2.out.trans k2)
        clear H2 K2 a0 a1 a2 f0 f1 f2 g2 k2 h2
        have a0 := cell_of_heap g3 0
        have a1 := cell_of_heap g3 1
        have a2 := cell_of_heap g3 2
        have f0 := frozen_of_heap g3 0
        have f1 := frozen_of_heap g3 1
        have f2 := frozen_of_heap g3 2
        simp at a0 a1 a2
        go_wp2_with fail
        have hact : actOf r = some (⟨6, byt r 1, noText⟩, 2) := by unfold actOf; rw [if_neg h0, if_neg (by rw [Hq.out]; decide), if_neg (by rw [Hq.out]; decide), if_neg (by rw [Hq.out]; decide), if_neg (by rw [Hq.out]; decide), if_neg (by rw [Hq.out]; decide), if_neg (by simp at hs; omega)]; rw [Hq.out]
        have hrr := rest_rest r 1 1 (by omega)
        rw [hrr] at H3
        clear hrr
        exact bodyPost_ret (v := .tuple #[Act3.val ⟨6, byt r 1, noText⟩, .bool true]) (by simp [results, Try.results37, go_sem, Act3.val, noText, a0, a1, a2, hgb]) rfl (.yes _ 2 hact (by repeat first | exact H3.out | refine IsTape.set ?_ hgb _) (by repeat first | exact K3.out | refine Keeps.setCell ?_ (fun h => absurd h (by rw [Hg.out]; exact Nat.lt_irrefl _)) _))
    | 7, _ =>
      go_wp2_with fail
      exact bodyPost_ret (v := .tuple #[Act3.val ⟨4, 5000, noText⟩, .bool true]) (by simp [results, Try.results37, go_sem, Act3.val, noText, a0, a1, a2, hgb]) rfl (.yes ⟨4, 5000, noText⟩ 1 (by unfold actOf; rw [if_neg h0, if_neg (by rw [Hq.out]; decide), if_pos Hq.out]) (by repeat first | exact H1.out | refine IsTape.set ?_ hgb _) (by repeat first | exact K1.out | refine Keeps.setCell ?_ (fun h => absurd h (by rw [Hg.out]; exact Nat.lt_irrefl _)) _))

end Go.Proofs.Ytljmfiegkefpoaa
