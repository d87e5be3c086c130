/- Join, Insert, Remove, as what becomes of the rows. -/
import Derived.Test.YtlbmknnpglandaaRingSt
namespace Go.Proofs.Ytlbmknnpglandaa
set_option linter.unusedVariables false
set_option linter.unusedSimpArgs false
open Go.RowKit

theorem filter_out {L M : List Nat} {q : Nat} (h : (L ++ q :: M).Nodup) : (L ++ q :: M).filter (fun x => x != q) = L ++ M := by
  have hnd := List.nodup_append.1 h
  have hqL : ∀ x ∈ L, x ≠ q := fun x e => hnd.2.2 x e q (by simp)
  have hqM := (List.nodup_cons.1 hnd.2.1).1
  rw [List.filter_append, List.filter_cons]
  simp only [bne_self_eq_false, Bool.false_eq_true, if_false]
  rw [List.filter_eq_self.2 (fun x hx => by simpa using hqL x hx), List.filter_eq_self.2 (fun x hx => by simpa using ne_mem hx hqM)]

section
variable {b g m : Nat} {w : World} {W : List Nat} {R : Nat → List Nat} {f : Nat → Option Nat}

theorem join_rs (hI : IsW w b g W) (h : RS m W R f) {i k : Nat} (hi : i < 3) (hk : k < 3) (hne : i ≠ k) :
    Calls Try.prog 28 #[.pointer (some ⟨b, 0, none⟩), .int .i64 (3 * i : Nat), .int .i64 (3 * k : Nat)] w fun e w' =>
      ∃ W', e = .returned .nilIface ∧ IsW w' b g W' ∧ RS m W' (upd (upd R i (R i ++ R k)) k []) (fun x => if x ∈ R k then some i else f x) ∧ Keeps (foot b g) w w' := by
  have hl := h.len
  have hp := h.ring i hi
  have hq := h.ring k hk
  cases hR : R k with
  | nil =>
    have hlo := ring_lone (show Ring W (3 * k) [] by rw [← hR]; exact hq)
    refine (rjoin_none (p := 3 * i) (q := 3 * k) hI (by omega) (by omega) hlo.2).mono ?_
    rintro e w' ⟨rfl, h1, h2⟩
    refine ⟨W, rfl, h1, ?_, h2⟩
    have := rs_join h hi hk hne (W' := W) (Or.inl ⟨hR, rfl⟩)
    rwa [hR] at this
  | cons x M =>
    rw [hR] at hq
    have nx := hq.node x (by simp)
    have nl := hq.node (lastOf x M) (List.mem_cons_of_mem _ (lastOf_mem x M))
    have nz := hp.node _ (lastOf_mem (3 * i) (R i))
    have hx0 : ¬ x = 3 * k := fun e => (List.nodup_cons.1 hq.nodup).1 (by simp [e])
    refine (rjoin_is (p := 3 * i) (q := 3 * k) (f := x) (l := lastOf x M) (z := lastOf (3 * i) (R i)) hI (by omega) (by omega) hq.path.1.1 hq.back.2 hp.back.2 nx.2 nl.2 nz.2 (by rw [beq_eq_false_iff_ne]; omega)).mono ?_
    rintro e w' ⟨rfl, h1, h2⟩
    refine ⟨_, rfl, h1, ?_, h2⟩
    have := rs_join h hi hk hne (Or.inr ⟨x, M, hR, rfl⟩)
    rwa [hR] at this

theorem insert_rs (hI : IsW w b g W) (h : RS m W R f) {j k : Nat} (hj3 : 3 ≤ j) (hj : j < m + 3) (hk : k < 3) (hf : f (3 * j) = none) :
    Calls Try.prog 24 #[.pointer (some ⟨b, 0, none⟩), .int .i64 (3 * k : Nat), .int .i64 (3 * j : Nat)] w fun e w' =>
      ∃ W', e = .returned .nilIface ∧ IsW w' b g W' ∧ RS m W' (upd R k (3 * j :: R k)) (upd f (3 * j) (some k)) ∧ Keeps (foot b g) w w' := by
  have hl := h.len
  have hp := h.ring k hk
  have nx := hp.node _ (ring_next hp (k := 3 * k) (by simp))
  refine (rinsert_is (p := 3 * k) (q := 3 * j) (x := wat W (3 * k + 2)) hI (by omega) (by omega) rfl nx.2).mono ?_
  rintro e w' ⟨rfl, h1, h2⟩
  exact ⟨_, rfl, h1, rs_insert h hj3 hj hk hf, h2⟩

theorem remove_rs (hI : IsW w b g W) (h : RS m W R f) {q k : Nat} (hf : f q = some k) :
    Calls Try.prog 31 #[.pointer (some ⟨b, 0, none⟩), .int .i64 (q : Nat)] w fun e w' =>
      ∃ W', e = .returned .nilIface ∧ IsW w' b g W' ∧ RS m W' (upd R k ((R k).filter (fun x => x != q))) (upd f q none) ∧ Lone W' q ∧ Keeps (foot b g) w w' := by
  have hl := h.len
  obtain ⟨hk, hm⟩ := (h.mem q k).1 hf
  have hp := h.ring k hk
  obtain ⟨L, M, hR⟩ := List.append_of_mem hm
  have hnd := (List.nodup_cons.1 hp.nodup).2
  rw [hR] at hp hnd
  obtain ⟨e1, e2⟩ := ring_around hp
  have nq := hp.node q (by simp)
  have na := hp.node (lastOf (3 * k) L) (by
    rcases List.mem_cons.1 (lastOf_mem (3 * k) L) with e | e
    · rw [e]; simp
    · exact List.mem_cons_of_mem _ (List.mem_append_left _ e))
  have nx := hp.node (headOr (3 * k) M) (by
    cases M with
    | nil => simp [headOr]
    | cons x M => simp [headOr])
  refine (rremove_is (q := q) (a := lastOf (3 * k) L) (x := headOr (3 * k) M) hI nq.2 e1 e2 na.2 nx.2).mono ?_
  rintro e w' ⟨rfl, h1, h2⟩
  refine ⟨_, rfl, h1, ?_, (ring_remove hp).2, h2⟩
  have := rs_remove h hk hR
  rw [hR, filter_out hnd]
  exact this

theorem around_rs (hI : IsW w b g W) (h : RS m W R f) {k : Nat} (hk : k < 3) (hm : m ≤ 1000) :
    Calls Try.prog 29 #[.pointer (some ⟨b, 0, none⟩), .int .i64 (3 * k : Nat), .int .i64 m] w fun e w' =>
      ∃ u, e = .returned (.tuple #[u, .bool true]) ∧ IsRow .i64 w' u ((R k).map (fun x : Nat => (x : Int))) ∧ IsW w' b g W ∧ Keeps (foot b g) w w' := by
  refine (around_is hI (h.ring k hk) (h.short hk) hm).mono ?_
  rintro e w' ⟨u, rfl, h1, h2, h3⟩
  refine ⟨u, rfl, row_of_own h1 (fun x hx => ?_), h2, h3⟩
  obtain ⟨j, e1, e2, rfl⟩ := h.nodes k hk x hx
  omega
theorem RS.small {k x : Nat} (h : RS m W R f) (hm : m ≤ 1000) (hk : k < 3) (hx : x ∈ R k) : x ≤ 1048576 := by
  obtain ⟨j, e1, e2, rfl⟩ := h.nodes k hk x hx
  omega
end

end Go.Proofs.Ytlbmknnpglandaa
