/- StoreCounts's walk: the count is how many reads and writes were answered. -/
import Derived.Test.YtlbmknnpglandaaStore3
namespace Go.Proofs.Ytlbmknnpglandaa
set_option linter.unusedVariables false
set_option linter.unusedSimpArgs false
open Go.RowKit

theorem within_yes (a n : Int) (w : World) (h0 : 0 ≤ a) (h1 : a < n) : Calls Try.prog 15 #[.int .i64 a, .int .i64 n] w fun e w' => e = .returned (.bool true) ∧ w' = w := by
  go_enter Try.func15, Try.ntmps15
  go_wp2
  go_ret
  exact ⟨rfl, rfl⟩
theorem within_no (a n : Int) (w : World) (h : ¬ (0 ≤ a ∧ a < n)) : Calls Try.prog 15 #[.int .i64 a, .int .i64 n] w fun e w' => e = .returned (.bool false) ∧ w' = w := by
  by_cases h0 : 0 ≤ a
  · have h1 : n ≤ a := by omega
    clear h
    have hd : decide (a < n) = false := by simp; omega
    go_enter Try.func15, Try.ntmps15
    go_wp2
    go_ret
    exact ⟨by simp only [Array.getD_eq_getD_getElem?, hd]; rfl, rfl⟩
  · clear h
    go_enter Try.func15, Try.ntmps15
    go_wp2
    go_ret
    exact ⟨rfl, rfl⟩

set_option maxRecDepth 100000 in
set_option maxHeartbeats 2000000 in
theorem StoreCounts_walk (n : Int) (p : Value) (zs : List Int) (w : World) (hn : (Lit.int .i64 n).wf = true) (hp : IsRow .i64 w p zs) :
    Calls Try.prog 4 #[.int .i64 n, p] w fun e w' => e = .returned (.bool true) ∧ Below w.heap.size w w' := by
  clear hn
  have hb := umod_bd n 200 (by omega) (by omega)
  obtain ⟨a, len, cap, rfl⟩ := hp.form
  obtain ⟨hlen, hmax⟩ := hp.len
  unfold maxLen at hmax
  have HP := Box.mk hp
  clear hp hlen
  go_enter Try.func4, Try.ntmps4
  go_wp2_with fail
  generalize wrap64 ((IntKind.u64.wrap n).tmod 200) = m at hb ⊢
  generalize IntKind.u64.wrap n = n1
  generalize n1.tmod 200 = n2
  obtain ⟨m, rfl⟩ := Int.eq_ofNat_of_zero_le hb.1
  obtain ⟨-, hm⟩ := hb
  refine (new_ok m _ (by omega) (by omega)).mono ?_
  rintro e w1 ⟨⟨b, g, c, ws, k⟩, rfl, hs, hws, hk, k1, hb, hg⟩
  simp only at hws hk hb hg
  subst hws hk
  have Hs : Box (IsStore w1 ⟨b, g, c, List.replicate m 0, 0⟩) := ⟨by simpa using hs⟩
  have K1 := Box.mk k1
  clear hs k1
  go_wp2_with fail
  refine (awake03 _).mono ?_
  rintro e w3 ⟨rfl, k3⟩
  have K3 := Box.mk (K1.out.trans k3)
  have Hs3 := Box.mk (Hs.out.keeps k3 (fun h => h) (fun h => h))
  clear k3 K1 Hs
  by_cases hl : 500 < len
  · go_wp2_with fail
    refine (awake03 _).mono ?_
    rintro e w4 ⟨rfl, k4⟩
    have K4 := Box.mk (K3.out.trans k4)
    clear k4 K3
    go_wp2_with fail
    go_ret
    exact ⟨rfl, K4.out.below (Nat.le_refl _) (fun _ h => h.elim)⟩
  · go_wp2_with fail
    go_loopw [7, 39] (fun d i wr => ∃ (k q : Nat) (ws : List Int), k ≤ len ∧ q ≤ k ∧ i = .int .i64 k ∧ d = .int .i64 q ∧ Box (ws.length = m) ∧ Box (IsStore wr ⟨b, g, c, ws, q⟩) ∧ Box (Keeps (fun _ => False) w wr)) (fun _ i _ => len - (intOf i).toNat)
    case atStart => exact ⟨0, 0, _, Nat.zero_le _, Nat.zero_le _, rfl, rfl, ⟨by simp⟩, Hs3, K3⟩
    case round =>
      clear Hs3 K3
      obtain ⟨k, q, ws, hk, hq, rfl, rfl, Hl, Hs, K⟩ := hrel
      by_cases hlt : k < len
      · obtain ⟨pb, po, rfl, hpb, hcell⟩ := HP.out.cell hlt
        have hcell' := K.out.cell hcell (fun h => h)
        clear hcell
        generalize zs.getD k 0 = at_ at hcell'
        by_cases he : k % 2 = 0
        · have he' := Box.mk he
          clear he
          have het : (((k : Int) % 2) == 0) = true := by have := he'.out; simp; omega
          by_cases hin : 0 ≤ at_ ∧ at_ < m
          · obtain ⟨hin0, hin1⟩ := hin
            go_wp2_with fail
            refine (get_at (x := _) Hs.out (by simp only [SSt.has, Hl.out]; omega) rfl rfl).mono ?_
            rintro e w4 ⟨rfl, hs, k4⟩
            have K4 := Box.mk (K.out.trans' k4 (by intro i hi h; simp only [SSt.foot] at h; omega))
            have hst : IsStore w4 ⟨b, g, c, ws, (q + 1 : Nat)⟩ := by
              have : wrap64 ((q : Int) + 1) = ((q + 1 : Nat) : Int) := by unfold wrap64; omega
              simpa [SSt.touched, this] using hs
            have Hs4 := Box.mk hst
            have Hl4 : Box ((ws).length = m) := ⟨Hl.out⟩
            clear hs k4 Hs K hst Hl
            go_wp2_with fail
            refine (within_yes _ _ _ hin0 hin1).mono ?_
            rintro e w5 ⟨rfl, rfl⟩
            go_wp2_with fail
            go_roundw
            case rel => exact ⟨k + 1, q + 1, _, by omega, by omega, by go_num, by go_num, Hl4, Hs4, K4⟩
            case measure => simp [intOf]; omega
          · have _h := trivial
            have Hin := Box.mk hin
            clear hin
            go_wp2_with fail
            refine (get_no _ _ _ Hs.out (by simp only [SSt.has, Hl.out]; have := Hin.out; omega)).mono ?_
            rintro e w4 ⟨rfl, rfl⟩
            go_wp2_with fail
            refine (within_no _ _ _ Hin.out).mono ?_
            rintro e w5 ⟨rfl, rfl⟩
            go_wp2_with fail
            go_roundw
            case rel => exact ⟨k + 1, q, _, by omega, by omega, by go_num, rfl, Hl, Hs, K⟩
            case measure => simp [intOf]; omega
        · have he' := Box.mk he
          clear he
          have het : (((k : Int) % 2) == 0) = false := by have := he'.out; simp; omega
          by_cases hin : 0 ≤ at_ ∧ at_ < m
          · obtain ⟨hin0, hin1⟩ := hin
            go_wp2_with fail
            refine (set_at Hs.out (by simp only [SSt.has, Hl.out]; omega) rfl).mono ?_
            rintro e w4 ⟨rfl, hs, k4⟩
            have K4 := Box.mk (K.out.trans' k4 (by intro i hi h; simp only [SSt.foot] at h; omega))
            have hst : IsStore w4 ⟨b, g, c, ws.set at_.toNat (k : Int), (q + 1 : Nat)⟩ := by
              have : wrap64 ((q : Int) + 1) = ((q + 1 : Nat) : Int) := by unfold wrap64; omega
              simpa [SSt.put, this] using hs
            have Hs4 := Box.mk hst
            have Hl4 : Box ((ws.set at_.toNat (k : Int)).length = m) := ⟨by simpa using Hl.out⟩
            clear hs k4 Hs K hst Hl
            go_wp2_with fail
            refine (within_yes _ _ _ hin0 hin1).mono ?_
            rintro e w5 ⟨rfl, rfl⟩
            go_wp2_with fail
            go_roundw
            case rel => exact ⟨k + 1, q + 1, _, by omega, by omega, by go_num, by go_num, Hl4, Hs4, K4⟩
            case measure => simp [intOf]; omega
          · have _h := trivial
            have Hin := Box.mk hin
            clear hin
            go_wp2_with fail
            refine (set_no _ _ _ _ Hs.out (by simp only [SSt.has, Hl.out]; have := Hin.out; omega)).mono ?_
            rintro e w4 ⟨rfl, rfl⟩
            go_wp2_with fail
            refine (within_no _ _ _ Hin.out).mono ?_
            rintro e w5 ⟨rfl, rfl⟩
            go_wp2_with fail
            go_roundw
            case rel => exact ⟨k + 1, q, _, by omega, by omega, by go_num, rfl, Hl, Hs, K⟩
            case measure => simp [intOf]; omega
      · go_wp2_with fail
        refine (count_is _ _ Hs.out).mono ?_
        rintro e w5 ⟨rfl, rfl⟩
        go_wp2_with fail
        go_ret
        exact ⟨rfl, K.out.below (Nat.le_refl _) (fun _ h => h.elim)⟩

end Go.Proofs.Ytlbmknnpglandaa
