/- StoreOne's walk: what is written is read, and no other word is another one. -/
import Derived.Test.YtlbmknnpglandaaStore3
namespace Go.Proofs.Ytlbmknnpglandaa
set_option linter.unusedVariables false
set_option linter.unusedSimpArgs false
open Go.RowKit

/-- The first k words are v, v + 1, ..; the others are 0. -/
def filled (v : Int) (m k : Nat) : List Int := (List.range m).map fun j => if j < k then IntKind.u64.wrap (v + (j : Int)) else 0
theorem filled_len (v : Int) (m k : Nat) : (filled v m k).length = m := by simp [filled]
theorem filled_set (v : Int) (m k : Nat) : (filled v m k).set k (IntKind.u64.wrap (v + (k : Int))) = filled v m (k + 1) := by
  apply List.ext_getElem?
  intro j
  by_cases hj : j < m
  · simp only [filled, List.getElem?_set, List.length_map, List.length_range, List.getElem?_map, List.getElem?_range hj, Option.map_some]
    by_cases e : k = j
    · subst e; simp [hj]
    · rw [if_neg e]
      by_cases h : j < k
      · simp [h, show j < k + 1 by omega]
      · simp [h, show ¬ j < k + 1 by omega]
  · simp [filled, hj, List.getElem?_set]
theorem filled_zero (v : Int) (m : Nat) : filled v m 0 = List.replicate m 0 := by
  apply List.ext_getElem?
  intro j
  by_cases hj : j < m
  · simp [filled, hj]
  · simp [filled, hj]
theorem filled_at (v : Int) (m j : Nat) (hj : j < m) : (filled v m m).getD j 0 = IntKind.u64.wrap (v + (j : Int)) := by
  simp [filled, List.getD, hj]

set_option maxRecDepth 100000 in
set_option maxHeartbeats 2000000 in
theorem StoreOne_walk (n i v u : Int) (w : World) (hn : (Lit.int .i64 n).wf = true) (hi : (Lit.int .i64 i).wf = true) (hv : (Lit.int .u64 v).wf = true) (hu : (Lit.int .u64 u).wf = true) :
    Calls Try.prog 3 #[.int .i64 n, .int .i64 i, .int .u64 v, .int .u64 u] w fun e w' => e = .returned (.bool true) ∧ Below w.heap.size w w' := by
  clear hi hv hn hu
  have hb := umod_bd n 500 (by omega) (by omega)
  go_enter Try.func3, Try.ntmps3
  go_wp2_with fail
  generalize wrap64 ((IntKind.u64.wrap n).tmod 500) = m at hb ⊢
  generalize IntKind.u64.wrap n = n1
  generalize n1.tmod 500 = n2
  obtain ⟨m, rfl⟩ := Int.eq_ofNat_of_zero_le hb.1
  obtain ⟨-, hm⟩ := hb
  refine (new_ok m _ (by omega) (by omega)).mono ?_
  rintro e w1 ⟨⟨b, g, c, ws, k⟩, rfl, hs, hws, hk, k1, hb, hg⟩
  simp only at hws hk hb hg
  subst hws hk
  have Hs : Box (IsStore w1 ⟨b, g, c, filled v m 0, 0⟩) := ⟨by rw [filled_zero]; simpa using hs⟩
  have K1 := Box.mk k1
  clear hs k1
  go_wp2_with fail
  go_loopw [26] (fun i wr => ∃ k : Nat, k ≤ m ∧ i = .int .i64 k ∧ Box (IsStore wr ⟨b, g, c, filled v m k, k⟩) ∧ Box (Keeps (fun _ => False) w wr)) (fun i _ => m - (intOf i).toNat)
  case atStart => exact ⟨0, Nat.zero_le _, rfl, Hs, K1⟩
  case round =>
    clear Hs K1
    obtain ⟨k, hk, rfl, Hs, K1⟩ := hrel
    by_cases hlt : k < m
    · go_wp2_with fail
      refine (set_at (t := ⟨b, g, c, filled v m (k + 1), (k + 1 : Nat)⟩) Hs.out (by simp [SSt.has, filled_len]; omega) (by simp [SSt.put, filled_set, wrap64]; omega)).mono ?_
      rintro e w2 ⟨rfl, hs, k2⟩
      have K2 := Box.mk (K1.out.trans' k2 (by intro i hi h; simp only [SSt.foot] at h; omega))
      have Hs2 := Box.mk hs
      clear hs k2 Hs K1
      go_wp2_with fail
      go_roundw
      case rel => exact ⟨k + 1, by omega, by go_num, Hs2, K2⟩
      case measure => simp [intOf]; omega
    · obtain rfl : k = m := by omega
      clear hk hlt
      by_cases hi : 0 ≤ i ∧ i < k
      · obtain ⟨hi0, hi1⟩ := hi
        go_wp2_with fail
        refine (set_at (t := ⟨b, g, c, (filled v k k).set i.toNat u, (k + 1 : Nat)⟩) Hs.out (by simp [SSt.has, filled_len]; omega) (by simp [SSt.put, wrap64]; omega)).mono ?_
        rintro e w2 ⟨rfl, hs, k2⟩
        have K2 := Box.mk (K1.out.trans' k2 (by intro i hi h; simp only [SSt.foot] at h; omega))
        have Hs2 := Box.mk hs
        clear hs k2 Hs K1
        go_wp2_with fail
        refine (awake03 _).mono ?_
        rintro e w3 ⟨rfl, k3⟩
        have K3 := Box.mk (K2.out.trans k3)
        have Hs3 := Box.mk (Hs2.out.keeps k3 (fun h => h) (fun h => h))
        clear k3 K2 Hs2
        go_wp2_with fail
        go_loopw [56] (fun t wr => ∃ (j : Nat) (q : Int), j ≤ k ∧ t = .int .i64 j ∧ Box (IsStore wr ⟨b, g, c, (filled v k k).set i.toNat u, q⟩) ∧ Box (Keeps (fun _ => False) w wr)) (fun t _ => k - (intOf t).toNat)
        case atStart => exact ⟨0, _, Nat.zero_le _, rfl, Hs3, K3⟩
        case round =>
          clear Hs3 K3
          obtain ⟨j, q, hj, rfl, Hs, K⟩ := hrel
          by_cases hlt : j < k
          · by_cases e : (j : Int) = i
            · subst e
              go_wp2_with fail
              refine (get_at (x := u) Hs.out (by simp [SSt.has, filled_len]; omega) (by simp [SSt.at_, List.getD, filled_len, hlt]) rfl).mono ?_
              rintro e w4 ⟨rfl, hs, k4⟩
              have K4 := Box.mk (K.out.trans' k4 (by intro i hi h; simp only [SSt.foot] at h; omega))
              have Hs4 := Box.mk hs
              clear hs k4 Hs K
              go_wp2_with fail
              go_roundw
              case rel => exact ⟨j + 1, _, by omega, by go_num, Hs4, K4⟩
              case measure => simp [intOf]; omega
            · have hne : i.toNat ≠ j := by omega
              have Hne := Box.mk hne
              clear hne
              go_wp2_with fail
              refine (get_at (x := IntKind.u64.wrap (v + (j : Int))) Hs.out (by simp [SSt.has, filled_len]; omega) (by have := filled_at v k j hlt; simpa [SSt.at_, List.getD, List.getElem?_set, Hne.out] using this) rfl).mono ?_
              rintro e w4 ⟨rfl, hs, k4⟩
              have K4 := Box.mk (K.out.trans' k4 (by intro i hi h; simp only [SSt.foot] at h; omega))
              have Hs4 := Box.mk hs
              clear hs k4 Hs K
              go_wp2_with fail
              go_roundw
              case rel => exact ⟨j + 1, _, by omega, by go_num, Hs4, K4⟩
              case measure => simp [intOf]; omega
          · go_wp2_with fail
            go_ret
            exact ⟨rfl, K.out.below (Nat.le_refl _) (fun _ h => h.elim)⟩
      · go_wp2_with fail
        refine (set_no i u _ _ Hs.out (by simp [SSt.has, filled_len]; omega)).mono ?_
        rintro e w2 ⟨rfl, rfl⟩
        have hb : (decide (0 ≤ i) && decide (i < k)) = false := by simp; omega
        have hc : 0 ≤ i → (k : Int) ≤ i := by omega
        by_cases hi0 : 0 ≤ i
        · have hi1 := hc hi0
          clear hc hi hb
          go_wp2_with fail
          refine (awake03 _).mono ?_
          rintro e w3 ⟨rfl, k3⟩
          have K3 := Box.mk (K1.out.trans k3)
          have Hs3 := Box.mk (Hs.out.keeps k3 (fun h => h) (fun h => h))
          clear k3 K1 Hs
          go_wp2_with fail
          go_loopw [56] (fun t wr => ∃ (j : Nat) (q : Int), j ≤ k ∧ t = .int .i64 j ∧ Box (IsStore wr ⟨b, g, c, filled v k k, q⟩) ∧ Box (Keeps (fun _ => False) w wr)) (fun t _ => k - (intOf t).toNat)
          case atStart => exact ⟨0, _, Nat.zero_le _, rfl, Hs3, K3⟩
          case round =>
            clear Hs3 K3
            obtain ⟨j, q, hj, rfl, Hs, K⟩ := hrel
            by_cases hlt : j < k
            · go_wp2_with fail
              refine (get_at (x := IntKind.u64.wrap (v + (j : Int))) Hs.out (by simp [SSt.has, filled_len]; omega) (by have := filled_at v k j hlt; simpa [SSt.at_] using this) rfl).mono ?_
              rintro e w4 ⟨rfl, hs, k4⟩
              have K4 := Box.mk (K.out.trans' k4 (by intro i hi h; simp only [SSt.foot] at h; omega))
              have Hs4 := Box.mk hs
              clear hs k4 Hs K
              go_wp2_with fail
              go_roundw
              case rel => exact ⟨j + 1, _, by omega, by go_num, Hs4, K4⟩
              case measure => simp [intOf]; omega
            · go_wp2_with fail
              go_ret
              exact ⟨rfl, K.out.below (Nat.le_refl _) (fun _ h => h.elim)⟩
        · clear hc hi hb
          go_wp2_with fail
          refine (awake03 _).mono ?_
          rintro e w3 ⟨rfl, k3⟩
          have K3 := Box.mk (K1.out.trans k3)
          have Hs3 := Box.mk (Hs.out.keeps k3 (fun h => h) (fun h => h))
          clear k3 K1 Hs
          go_wp2_with fail
          go_loopw [56] (fun t wr => ∃ (j : Nat) (q : Int), j ≤ k ∧ t = .int .i64 j ∧ Box (IsStore wr ⟨b, g, c, filled v k k, q⟩) ∧ Box (Keeps (fun _ => False) w wr)) (fun t _ => k - (intOf t).toNat)
          case atStart => exact ⟨0, _, Nat.zero_le _, rfl, Hs3, K3⟩
          case round =>
            clear Hs3 K3
            obtain ⟨j, q, hj, rfl, Hs, K⟩ := hrel
            by_cases hlt : j < k
            · go_wp2_with fail
              refine (get_at (x := IntKind.u64.wrap (v + (j : Int))) Hs.out (by simp [SSt.has, filled_len]; omega) (by have := filled_at v k j hlt; simpa [SSt.at_] using this) rfl).mono ?_
              rintro e w4 ⟨rfl, hs, k4⟩
              have K4 := Box.mk (K.out.trans' k4 (by intro i hi h; simp only [SSt.foot] at h; omega))
              have Hs4 := Box.mk hs
              clear hs k4 Hs K
              go_wp2_with fail
              go_roundw
              case rel => exact ⟨j + 1, _, by omega, by go_num, Hs4, K4⟩
              case measure => simp [intOf]; omega
            · go_wp2_with fail
              go_ret
              exact ⟨rfl, K.out.below (Nat.le_refl _) (fun _ h => h.elim)⟩

end Go.Proofs.Ytlbmknnpglandaa
