/- QueueCopies's walk: what is done with a copy is nothing to the queue, and the other way round. -/
import Derived.Test.YtljmfiegkefpoaaWQueueDrops
namespace Go.Proofs.Ytljmfiegkefpoaa
set_option linter.unusedVariables false
set_option linter.unusedSimpArgs false
open Go.RowKit

set_option maxRecDepth 100000 in
set_option maxHeartbeats 4000000 in
theorem QueueCopies_walk (v1 v2 : Value) (t : Int) (w : World) (hv1 : Reads Try.prog w 22 v1) (hv2 : Reads Try.prog w 22 v2) (hk : (Lit.int .i64 t).wf = true) :
    Calls Try.prog 7 #[v1, v2, .int .i64 t] w fun e w' => e = .returned (.bool true) ∧ Below w.heap.size w w' := by
  clear hk
  obtain ⟨l, hl⟩ := events_of_reads hv1
  clear hv1
  obtain ⟨al, cl, rfl⟩ := hl.form
  have hlenl := hl.len
  have Hl := Box.mk hl
  clear hl
  obtain ⟨n, hn⟩ : ∃ n, l.length = n := ⟨_, rfl⟩
  have Hn := Box.mk hn
  rw [hn] at hlenl ⊢
  clear hn
  obtain ⟨r, hr⟩ := events_of_reads hv2
  clear hv2
  obtain ⟨ar, cr, rfl⟩ := hr.form
  have hlenr := hr.len
  have Hr := Box.mk hr
  clear hr
  obtain ⟨m, hm⟩ : ∃ m, r.length = m := ⟨_, rfl⟩
  have Hm := Box.mk hm
  rw [hm] at hlenr ⊢
  clear hm
  have hbd := umod_bd t 20 (by omega) (by omega)
  go_enter Try.func7, Try.ntmps7
  go_wp2_with fail
  refine (awake20 _).mono ?_
  rintro e w1 ⟨rfl, k1⟩
  have K1 := Box.mk k1
  clear k1
  by_cases hn100 : 100 < n
  · go_wp2_with fail
    refine (awake20 _).mono ?_
    rintro e w2 ⟨rfl, k2⟩
    have K2 := Box.mk (K1.out.trans k2)
    clear k2
    go_wp2_with fail
    go_ret
    exact ⟨rfl, K2.out.below (Nat.le_refl _) (fun _ h => h.elim)⟩
  by_cases hm100 : 100 < m
  · go_wp2_with fail
    refine (awake20 _).mono ?_
    rintro e w2 ⟨rfl, k2⟩
    have K2 := Box.mk (K1.out.trans k2)
    clear k2
    go_wp2_with fail
    go_ret
    exact ⟨rfl, K2.out.below (Nat.le_refl _) (fun _ h => h.elim)⟩
  go_wp2_with fail
  refine (lnew_is _).mono ?_
  rintro e w2 ⟨rfl, h2, k2⟩
  obtain ⟨b, hb0⟩ : ∃ b, w1.heap.size = b := ⟨_, rfl⟩
  rw [hb0] at h2 ⊢
  have Hb : w.heap.size ≤ b := by have := K1.out.size; omega
  have H2 := Box.mk h2
  have K2 := Box.mk (K1.out.trans k2)
  clear hb0 h2 k2 K1
  go_wp2_with fail
  go_loopw [31] (fun i wr => ∃ (j : Nat) (q : List (Int × Int)), j ≤ n ∧ i = .int .i64 j ∧ Box (IsQL wr b q) ∧ Box (Keeps (fun _ => False) w wr)) (fun i _ => n - (intOf i).toNat)
  case atStart => exact ⟨0, [], Nat.zero_le _, rfl, H2, K2⟩
  case round =>
    clear H2 K2
    obtain ⟨j, q, hj, rfl, HQ, K⟩ := hrel
    by_cases hlt : j < n
    · obtain ⟨eb, eo, rfl, heb, c0, c1⟩ := Hl.out.cells _ _ _ rfl j (by rw [Hn.out]; exact hlt)
      have d0 := K.out.cell c0 (fun h => h)
      have d1 := K.out.cell c1 (fun h => h)
      clear c0 c1
      generalize (l.getD j (0, 0)).1 = x at d0
      generalize (l.getD j (0, 0)).2 = y at d1
      have HQ1 := Box.mk (HQ.out.keeps0 ((Keeps.refl (fun _ => False) wr).alloc (.cells #[.int .i64 x, .int .i64 y] 27)))
      have K1 := Box.mk (K.out.alloc (.cells #[.int .i64 x, .int .i64 y] 27))
      go_wp2_with fail
      refine (lpush_any HQ1.out).mono ?_
      rintro e w3 ⟨r, q', rfl, hp, hq3, k3⟩
      have HQ3 := Box.mk hq3
      have K3 := Box.mk (K1.out.trans' k3 (by intro i hi h; omega))
      clear hp hq3 k3 HQ1 K1 HQ K
      go_wp2_with fail
      go_roundw
      case rel => exact ⟨j + 1, q', by omega, by go_num, HQ3, K3⟩
      case measure => simp [intOf]; omega
    · go_wp2_with fail
      clear hlt hj
      refine (lall_is HQ.out).mono ?_
      rintro e w3 ⟨u, rfl, ho, k3⟩
      have HU := Box.mk (IsEvs.of_own ho)
      have hub : Box (∀ k, u.ownBlock = some k → k < w3.heap.size) := ⟨fun k hk => (ho.lt k hk).2⟩
      have HQ3 := Box.mk (HQ.out.keeps0 k3)
      have K3 := Box.mk (K.out.trans k3)
      clear ho k3 HQ K
      go_wp2_with fail
      refine (lcopy_is HQ3.out).mono ?_
      rintro e w4 ⟨rfl, hd4, k4⟩
      obtain ⟨d, hd⟩ : ∃ d, w3.heap.size = d := ⟨_, rfl⟩
      rw [hd] at hd4 hub ⊢
      have hbd2 : b < d := by have := HQ3.out.lt; omega
      have hdw : w.heap.size ≤ d := by omega
      have HQ4 := Box.mk (HQ3.out.keeps0 k4)
      have HU4 := Box.mk (HU.out.keeps0 k4)
      have K4 := Box.mk (K3.out.trans k4)
      have HD4 := Box.mk hd4
      clear hd4 k4 HQ3 HU K3 hd
      go_wp2_with fail
      generalize wrap64 ((IntKind.u64.wrap t).tmod 20) = z at hbd ⊢
      generalize IntKind.u64.wrap t = n1
      generalize n1.tmod 20 = n2
      obtain ⟨z, rfl⟩ := Int.eq_ofNat_of_zero_le hbd.1
      obtain ⟨-, hz⟩ := hbd
      go_loopw [47] (fun i wr => ∃ (j : Nat) (c : List (Int × Int)), j ≤ z ∧ i = .int .i64 j ∧ Box (IsQL wr d c) ∧ Box (Keeps (fun y => y = d) w4 wr)) (fun i _ => z - (intOf i).toNat)
      case atStart => exact ⟨0, q, Nat.zero_le _, rfl, HD4, ⟨Keeps.refl _ _⟩⟩
      case round =>
        clear HD4
        obtain ⟨j, c, hj, rfl, HD, K⟩ := hrel
        by_cases hlt : j < z
        · go_wp2_with fail
          refine (lpop_any HD.out).mono ?_
          rintro e w5 ⟨p, ok, rfl, -, hd5, k5⟩
          have HD5 := Box.mk hd5
          have K5 := Box.mk (K.out.trans k5)
          clear hd5 k5 HD K
          go_wp2_with fail
          go_roundw
          case rel => exact ⟨j + 1, c.tail, by omega, by go_num, HD5, K5⟩
          case measure => simp [intOf]; omega
        · go_wp2_with fail
          clear hlt hj hz
          go_loopw [54] (fun i wr => ∃ (j : Nat) (c : List (Int × Int)), j ≤ m ∧ i = .int .i64 j ∧ Box (IsQL wr d c) ∧ Box (Keeps (fun y => y = d) w4 wr)) (fun i _ => m - (intOf i).toNat)
          case atStart => exact ⟨0, c, Nat.zero_le _, rfl, HD, K⟩
          case round =>
            clear HD K
            obtain ⟨j, c, hj, rfl, HD, K⟩ := hrel
            by_cases hlt : j < m
            · obtain ⟨eb, eo, rfl, heb, c0, c1⟩ := Hr.out.cells _ _ _ rfl j (by rw [Hm.out]; exact hlt)
              have d0 := K.out.cell (K4.out.cell c0 (fun h => h)) (by simp only; omega)
              have d1 := K.out.cell (K4.out.cell c1 (fun h => h)) (by simp only; omega)
              clear c0 c1
              generalize (r.getD j (0, 0)).1 = x at d0
              generalize (r.getD j (0, 0)).2 = y at d1
              have HD1 := Box.mk (HD.out.keeps0 ((Keeps.refl (fun _ => False) wr).alloc (.cells #[.int .i64 x, .int .i64 y] 27)))
              have K1 := Box.mk (K.out.alloc (.cells #[.int .i64 x, .int .i64 y] 27))
              go_wp2_with fail
              refine (lpush_any HD1.out).mono ?_
              rintro e w5 ⟨p, c', rfl, hp, hd5, k5⟩
              have HD5 := Box.mk hd5
              have K5 := Box.mk (K1.out.trans k5)
              clear hp hd5 k5 HD1 K1 HD K
              go_wp2_with fail
              go_roundw
              case rel => exact ⟨j + 1, c', by omega, by go_num, HD5, K5⟩
              case measure => simp [intOf]; omega
            · go_wp2_with fail
              clear hlt hj
              refine (ldrop_is 1 HD.out).mono ?_
              rintro e w5 ⟨rfl, hd5, k5⟩
              have HD5 := Box.mk hd5
              have k6 := K.out.trans k5
              have HQ5 := Box.mk (HQ4.out.keeps k6 (by show ¬ b = d; omega))
              have HU5 := Box.mk (HU4.out.keeps k6 (fun bb oo nn cc h => by
                subst h
                have := hub.out bb rfl
                show ¬ bb = d
                omega))
              have K5 := Box.mk (K4.out.trans' k6 (by intro i hi h; omega))
              clear hd5 k5 k6 HD K K4 HQ4 HU4 hub
              go_wp2_with fail
              refine (lall_is HQ5.out).mono ?_
              rintro e w6 ⟨u6, rfl, ho6, k6⟩
              have HA6 := Box.mk (IsEvs.of_own ho6)
              have HQ6 := Box.mk (HQ5.out.keeps0 k6)
              have HU6 := Box.mk (HU5.out.keeps0 k6)
              have HD6 := Box.mk (HD5.out.keeps0 k6)
              have K6 := Box.mk (K5.out.trans k6)
              clear ho6 k6 HQ5 HU5 HD5 K5
              go_wp2_with fail
              refine (same_refl HA6.out HU6.out).mono ?_
              rintro e w7 ⟨rfl, z7, rfl⟩
              have HQ7 := Box.mk (HQ6.out.keeps0 ((Keeps.refl _ _).drewN z7))
              have HD7 := Box.mk (HD6.out.keeps0 ((Keeps.refl _ _).drewN z7))
              have K7 := Box.mk (K6.out.drewN z7)
              clear HA6 HU6 HQ6 HD6 K6
              generalize w6.drewN z7 = w7 at *
              go_wp2_with fail
              refine (lall_is HD7.out).mono ?_
              rintro e w8 ⟨u8, rfl, ho8, k8⟩
              have HA8 := Box.mk (IsEvs.of_own ho8)
              have hub8 : ∀ k, u8.ownBlock = some k → b < k := fun k hk => by have := (ho8.lt k hk).1; have := HQ7.out.lt; omega
              have HU8 : Box (∀ bb oo nn cc, u8 = .slice (some ⟨bb, oo, none⟩) nn cc → ¬ bb = b) := ⟨fun bb oo nn cc h => by
                subst h
                have := hub8 bb rfl
                omega⟩
              have HQ8 := Box.mk (HQ7.out.keeps0 k8)
              have HD8 := Box.mk (HD7.out.keeps0 k8)
              have K8 := Box.mk (K7.out.trans k8)
              clear ho8 hub8 k8 HQ7 HD7 K7
              go_wp2_with fail
              refine (lpop_any HQ8.out).mono ?_
              rintro e w9 ⟨p, ok, rfl, -, hq9, k9⟩
              have HD9 := Box.mk (HD8.out.keeps k9 (by show ¬ d = b; omega))
              have HA9 := Box.mk (HA8.out.keeps k9 HU8.out)
              have K9 := Box.mk (K8.out.trans' k9 (by intro i hi h; omega))
              clear hq9 k9 HQ8 HD8 HA8 HU8 K8
              go_wp2_with fail
              refine (lall_is HD9.out).mono ?_
              rintro e wa ⟨ua, rfl, hoa, ka⟩
              have HB := Box.mk (IsEvs.of_own hoa)
              have HA := Box.mk (HA9.out.keeps0 ka)
              have KA := Box.mk (K9.out.trans ka)
              clear hoa ka HD9 HA9 K9
              go_wp2_with fail
              refine (same_refl HB.out HA.out).mono ?_
              rintro e wb ⟨rfl, zb, rfl⟩
              have KB := Box.mk (KA.out.drewN zb)
              clear HA HB KA
              go_wp2_with fail
              go_ret
              exact ⟨rfl, KB.out.below (Nat.le_refl _) (fun _ h => h.elim)⟩

end Go.Proofs.Ytljmfiegkefpoaa
