/- RingRows' walk. -/
import Derived.Test.YtlbmknnpglandaaRingApp
namespace Go.Proofs.Ytlbmknnpglandaa
set_option linter.unusedVariables false
set_option linter.unusedSimpArgs false
open Go.RowKit

set_option maxRecDepth 100000 in
set_option maxHeartbeats 1000000 in
theorem same04_is {w : World} {u v : Value} {l : List Int} (hu : IsRow .i64 w u l) (hv : IsRow .i64 w v l) :
    Calls Try.prog 30 #[u, v] w fun e w' => e = .returned (.bool true) ∧ ∃ k, w' = w.drewN k := by
  obtain ⟨a, n, c, rfl⟩ := hu.form
  obtain ⟨a', n', c', rfl⟩ := hv.form
  obtain ⟨h1, h2⟩ := hu.len
  obtain ⟨h3, h4⟩ := hv.len
  obtain rfl : n' = n := by omega
  have HU := Box.mk hu
  have HV := Box.mk hv
  clear hu hv h1 h3 h4
  simp only [maxLen] at h2
  go_enter Try.func30, Try.ntmps30
  go_wp2_with fail
  go_loopw [13] (fun i wr => ∃ (k q : Nat), k ≤ n' ∧ i = .int .i64 k ∧ wr = w.drewN q) (fun i _ => n' - (intOf i).toNat)
  case atStart => exact ⟨0, 0, Nat.zero_le _, rfl, rfl⟩
  case round =>
    obtain ⟨k, q, hk, rfl, rfl⟩ := hrel
    by_cases hkn : k < n'
    · obtain ⟨ub, uo, rfl, hub, u0⟩ := HU.out.cell hkn
      obtain ⟨vb, vo, rfl, hvb, v0⟩ := HV.out.cell hkn
      have hk0 : (0 : Int) ≤ (k : Int) := by omega
      have hk1 : (k : Int) < (n' : Int) := by omega
      generalize l.getD k 0 = x at *
      go_wp2_with fail
      go_quiet (fail)
      go_wp2_with fail
      go_roundw
      case rel => exact ⟨k + 1, q + nq, by omega, by go_num, by first | rfl | rw [World.drewN_drewN]⟩
      case measure => simp [intOf]; omega
    · go_wp2_with fail
      go_ret
      exact ⟨rfl, q, rfl⟩

theorem Keeps.after {S : Nat → Prop} {w w1 w2 : World} (K : Keeps (fun _ => False) w w1) (k : Keeps S w1 w2) (hs : ∀ z, S z → w.heap.size ≤ z) : Keeps (fun _ => False) w w2 :=
  K.trans' k (fun i hi h => by have := hs i h; omega)

set_option maxRecDepth 100000 in
set_option maxHeartbeats 8000000 in
theorem RingRows_walk (members : Int) (u : Value) (w : World) (hm : (Lit.int .i64 members).wf = true) (hu : Reads Try.prog w 63 u) :
    Calls Try.prog 10 #[.int .i64 members, u] w fun e w' => e = .returned (.bool true) ∧ Below w.heap.size w w' := by
  have hmm := @run_makeMap Try.prog
  obtain ⟨l, hu⟩ := rops_of_reads hu
  obtain ⟨ua, uc, rfl, hul⟩ := hu.form
  have HU := Box.mk hu
  clear hu
  obtain ⟨ln, hln⟩ : ∃ ln, l.length = ln := ⟨_, rfl⟩
  have Hln := Box.mk hln
  rw [hln] at hul ⊢
  clear hln
  simp only [maxLen] at hul
  clear hm
  obtain ⟨m, hd⟩ : ∃ d : Nat, wrap64 ((IntKind.u64.wrap members).tmod 20) = (d : Int) := ⟨(wrap64 ((IntKind.u64.wrap members).tmod 20)).toNat, by have := umod_bd members 20 (by omega) (by omega); omega⟩
  have hds : m < 20 := by have := umod_bd members 20 (by omega) (by omega); omega
  obtain ⟨m1, hm1⟩ : ∃ m1 : Nat, m + 3 = m1 := ⟨_, rfl⟩
  have hm3 : (m : Int) + 3 = (m1 : Int) := by omega
  obtain ⟨n, hn⟩ : ∃ n : Nat, 3 * m1 = n := ⟨_, rfl⟩
  have hn3 : 3 * (m1 : Int) = (n : Int) := by omega
  have Hn := Box.mk (And.intro hm1 hn)
  clear hm1 hn
  have hnb : n ≤ 100 := by have := Hn.out; omega
  go_enter Try.func10, Try.ntmps10
  go_wp2_with fail
  rw [hd]
  refine (rnew_is n _ (by omega)).mono ?_
  rintro e w1 ⟨b, g, rfl, h1, k1, hb, hg⟩
  have H1 := Box.mk h1
  have K1 := Box.mk k1
  have Hb := Box.mk (And.intro hb hg)
  clear h1 k1 hd hb hg
  go_wp2_with fail
  refine (awake04 _).mono ?_
  rintro e w2 ⟨rfl, k2⟩
  have H2 := Box.mk (H1.out.keeps0 k2)
  have K2 := Box.mk (K1.out.trans k2)
  clear k2 H1 K1
  by_cases hlong : 300 < ln
  · have hlong2 : (300 : Int) < (ln : Int) := by omega
    go_wp2_with fail
    refine (awake04 _).mono ?_
    rintro e w3 ⟨rfl, k3⟩
    have K3 := Box.mk (K2.out.trans k3)
    clear k3 K2
    go_wp2_with fail
    go_ret
    exact ⟨rfl, K3.out.below (Nat.le_refl _) (fun _ h => h.elim)⟩
  have hlong2 : ¬ (300 : Int) < (ln : Int) := by omega
  go_wp2_with fail
  have hm1b : m1 ≤ 22 := by have := Hn.out; omega
  go_loopw [56] (fun i wr => ∃ (k : Nat) (W : List Nat), k ≤ m1 ∧ i = .int .i64 k ∧ Box (W.length = n) ∧ Box (IsW wr b g W) ∧ Box (∀ j, j < k → Lone W (3 * j)) ∧ Box (Keeps (fun _ => False) w wr)) (fun i _ => m1 - (intOf i).toNat)
  case atStart => exact ⟨0, List.replicate n 0, Nat.zero_le _, rfl, ⟨by simp⟩, H2, ⟨fun j hj => by omega⟩, K2⟩
  case round =>
    clear H2 K2
    obtain ⟨k, W, hk, rfl, HW, HI, HL, K⟩ := hrel
    by_cases hkn : k < m1
    · have hk1 : (k : Int) < (m1 : Int) := by omega
      obtain ⟨q, hq⟩ : ∃ q : Nat, 3 * k = q := ⟨_, rfl⟩
      have hq3 : 3 * (k : Int) = (q : Int) := by omega
      have Hq := Box.mk hq
      clear hq
      have hqn : Node W q := ⟨by have := Hq.out; omega, by have := Hq.out; have := HW.out; have := Hn.out; omega⟩
      have HN := Box.mk hqn
      clear hqn
      go_wp2_with fail
      refine (rinit_is (p := q) HI.out HN.out.2).mono ?_
      rintro e w3 ⟨rfl, h3, k3⟩
      have H3 := Box.mk h3
      have K3 := Box.mk (K.out.ring k3 Hb.out.1 Hb.out.2)
      have HW3 : Box ((setAll W [(q, 1, q), (q, 2, q)]).length = n) := ⟨by rw [setAll_length]; exact HW.out⟩
      have HL3 : Box (∀ j, j < k + 1 → Lone (setAll W [(q, 1, q), (q, 2, q)]) (3 * j)) := ⟨fun j hj => lone_init HN.out (by omega) (by
        rcases Nat.lt_or_ge j k with h | h
        · exact Or.inr (HL.out j h)
        · have := Hq.out; exact Or.inl (by omega))⟩
      clear h3 k3 HI K HW HL HN
      go_wp2_with fail
      go_roundw
      case rel => exact ⟨k + 1, _, by omega, by go_num, HW3, H3, HL3, K3⟩
      case measure => simp [intOf]; omega
    · have HL1 : Box (∀ j, j < m1 → Lone W (3 * j)) := ⟨fun j hj => HL.out j (by omega)⟩
      have HRS : Box (RS m W (fun _ => []) (fun _ => none)) := ⟨⟨fun i hi => lone_ring (HL1.out i (by have := Hn.out; omega)) ⟨by omega, by have := HW.out; have := Hn.out; omega⟩, fun x i => by simp, fun i hi x hx => (by cases hx), fun j h1 h2 _ => HL1.out j (by have := Hn.out; omega), by have := HW.out; have := Hn.out; omega⟩⟩
      have hh1 := heap_alloc_new wr (.cells #[.slice none 0 0, .slice none 0 0, .slice none 0 0] 64)
      have HA1 := (Keeps.refl (fun _ => False) wr).alloc (.cells #[.slice none 0 0, .slice none 0 0, .slice none 0 0] 64)
      have hs1 : (wr.alloc (.cells #[.slice none 0 0, .slice none 0 0, .slice none 0 0] 64)).heap.size = wr.heap.size + 1 := by simp
      have HA2 := HA1.alloc (.map #[] 0)
      obtain ⟨B, hB⟩ : ∃ B, wr.heap.size = B := ⟨_, rfl⟩
      have hM : Mem b g B (B + 1) (B + 2) ((wr.alloc (.cells #[.slice none 0 0, .slice none 0 0, .slice none 0 0] 64)).alloc (.map #[] 0)) 0 W (fun _ => .slice none 0 0) (fun _ => []) (fun _ => none) := by
        refine ⟨HI.out.keeps0 HA2, ?_, fun k hk => World.ownsRow_nil _ _ _ _, ?_, by simp; omega⟩
        · rw [hB] at hh1
          exact ((Keeps.refl (fun _ => False) _).alloc (.map #[] 0)).heap hh1 (fun h => h)
        · have := IsIn.made (wr.alloc (.cells #[.slice none 0 0, .slice none 0 0, .slice none 0 0] 64))
          rw [hs1, hB] at this
          exact this
      have HM := Box.mk hM
      have HB : Box (Blks b g B (B + 1) (B + 2)) := ⟨by have := HI.out.lt; exact ⟨by omega, by omega⟩⟩
      have HBw : Box (w.heap.size ≤ B) := ⟨by have := K.out.size; omega⟩
      have KA := Box.mk (K.out.trans HA2)
      clear hM hh1 HA1 HA2 hs1 HL HL1 hk HI K HW
      go_wp2_with fail
      clear hB hkn
      generalize (wr.alloc (.cells #[.slice none 0 0, .slice none 0 0, .slice none 0 0] 64)).alloc (.map #[] 0) = wr at *
      go_loopw [67] (fun i wr => ∃ (t nn : Nat) (W : List Nat) (v : Nat → Value) (R : Nat → List Nat) (f : Nat → Option Nat), t ≤ ln ∧ i = .int .i64 t ∧ nn ≤ 64 * t ∧ Box (Mem b g B (B + 1) (B + 2) wr nn W v R f) ∧ Box (RS m W R f) ∧ Box (Keeps (fun _ => False) w wr)) (fun i _ => ln - (intOf i).toNat)
      case atStart => exact ⟨0, 0, W, _, _, _, Nat.zero_le _, rfl, Nat.le_refl _, HM, HRS, KA⟩
      case round =>
        clear HM HRS KA
        obtain ⟨t, nn, W, v, R, f, ht, rfl, hnn, HM, HRS, K⟩ := hrel
        by_cases htl : t < ln
        · obtain ⟨ub, uo, rfl, hub, c0, c1, c2⟩ := (HU.out.keeps0 K.out).cells _ _ _ rfl t (by rw [Hln.out]; exact htl)
          have ht0 : (0 : Int) ≤ (t : Int) := by omega
          have ht1 : (t : Int) < (ln : Int) := by omega
          generalize l.getD t (0, 0, 0) = op at *
          obtain ⟨ok, oa, ob⟩ := op
          simp only at c0 c1 c2
          obtain ⟨h, hh⟩ : ∃ d : Nat, wrap64 ((IntKind.u64.wrap oa).tmod 3) = (d : Int) := ⟨(wrap64 ((IntKind.u64.wrap oa).tmod 3)).toNat, by have := umod_bd oa 3 (by omega) (by omega); omega⟩
          have hh3 : h < 3 := by have := umod_bd oa 3 (by omega) (by omega); omega
          obtain ⟨p, hp⟩ : ∃ p, 3 * h = p := ⟨_, rfl⟩
          have hp3 : 3 * (h : Int) = (p : Int) := by omega
          have Hp := Box.mk hp
          clear hp
          have ka := (Keeps.refl (fun _ => False) wr).alloc (.cells #[.int .i64 ok, .int .i64 oa, .int .i64 ob] 67)
          have HMa := Box.mk (HM.out.keeps0 ka HB.out)
          have Ka := Box.mk (K.out.trans ka)
          have Hact := Box.mk (heap_alloc_new wr (.cells #[.int .i64 ok, .int .i64 oa, .int .i64 ob] 67))
          obtain ⟨ab, hab⟩ : ∃ ab, wr.heap.size = ab := ⟨_, rfl⟩
          have Hab := Box.mk hab
          rw [hab] at Hact
          have HabB : Box (B + 2 ≤ ab) := ⟨by have := HM.out.size; omega⟩
          clear ka hab HM K
          by_cases h6 : ok = 6
          · subst h6
            obtain ⟨k, hk⟩ : ∃ d : Nat, wrap64 ((IntKind.u64.wrap ob).tmod 3) = (d : Int) := ⟨(wrap64 ((IntKind.u64.wrap ob).tmod 3)).toNat, by have := umod_bd ob 3 (by omega) (by omega); omega⟩
            have hk3 : k < 3 := by have := umod_bd ob 3 (by omega) (by omega); omega
            by_cases hkh : k = h
            · subst hkh
              go_wp2_with fail
              go_roundw
              case rel => exact ⟨t + 1, nn, W, v, R, f, by omega, by go_num, by omega, HMa, HRS, Ka⟩
              case measure => simp [intOf]; omega
            · have hkh2 : ((k : Int) == (h : Int)) = false := by rw [beq_eq_false_iff_ne]; omega
              obtain ⟨p', hp'⟩ : ∃ p', 3 * k = p' := ⟨_, rfl⟩
              have hp'3 : 3 * (k : Int) = (p' : Int) := by omega
              have Hp' := Box.mk hp'
              clear hp'
              have hk0 : (0 : Int) ≤ (k : Int) := by omega
              have hk4 : (k : Int) < 3 := by omega
              have hh0 : (0 : Int) ≤ (h : Int) := by omega
              have hh4 : (h : Int) < 3 := by omega
              go_wp2_with fail
              rw [hh, hk, Hab.out]
              have hj := join_rs HMa.out.iw HRS.out hh3 hk3 (fun e => hkh e.symm)
              rw [Hp.out, Hp'.out] at hj
              refine hj.mono ?_
              clear hj hh hk c0 c1 c2
              rintro e w3 ⟨W3, rfl, hI3, hR3, k3⟩
              have HM3 := Box.mk (HMa.out.ring HB.out k3 hI3)
              have HRS3 := Box.mk hR3
              have K3 := Box.mk (Ka.out.ring k3 Hb.out.1 Hb.out.2)
              clear hI3 hR3 k3 HMa Ka Hact Hab
              obtain ⟨ra, rc, hvk, hrow⟩ := HM3.out.row HRS.out (by omega) hk3
              have ck := HM3.out.rows.cell hk3
              rw [hvk] at ck
              obtain ⟨rk, hrk⟩ : ∃ rk, (R k).length = rk := ⟨_, rfl⟩
              rw [hrk] at ck hvk
              have hrkb : rk ≤ 20 := by have := HRS.out.short hk3; omega
              have Hrk := Box.mk hrk
              have Hvk := Box.mk hvk
              clear hrk hvk hrow
              go_wp2_with fail
              go_loopw [98] (fun i wx => ∃ j : Nat, j ≤ rk ∧ i = .int .i64 j ∧ Box (Mem b g B (B + 1) (B + 2) wx (nn + j) W3 v R (fun x => if x ∈ (R k).take j then some h else f x)) ∧ Box (Keeps (fun _ => False) w wx)) (fun i _ => rk - (intOf i).toNat)
              case atStart => exact ⟨0, Nat.zero_le _, rfl, ⟨by simpa using HM3.out⟩, K3⟩
              case round =>
                clear HM3 K3 ck
                obtain ⟨j, hj, rfl, HMj, Kj⟩ := hrel
                by_cases hjr : j < rk
                · have hrow := row_of_own (HMj.out.own k hk3) (fun x hx => HRS.out.small (by omega) hk3 hx)
                  rw [Hvk.out] at hrow
                  obtain ⟨cb, co, rfl, hcb, hcc⟩ := hrow.cell hjr
                  have hjl : j < (R k).length := by rw [Hrk.out]; exact hjr
                  have hxm : (R k).getD j 0 ∈ R k := by simp [List.getD, hjl]
                  have hxs := HRS.out.small (by omega) hk3 hxm
                  have htu := take_upd (R k) f h j hjl
                  have hzx : ((R k).map (fun x : Nat => (x : Int))).getD j 0 = ((R k).getD j 0 : Int) := by simp [List.getD, hjl]
                  rw [hzx] at hcc
                  have Hin := Box.mk HMj.out.inn
                  have Htu := Box.mk htu
                  generalize (R k).getD j 0 = x at *
                  have hj0 : (0 : Int) ≤ (j : Int) := by omega
                  have hj1 : (j : Int) < (rk : Int) := by omega
                  clear hxm hzx htu hrow hjl
                  go_wp2_with (at_mapUpdate; refine wpList_in_put _ rfl _ _ _ rfl (B + 1) (nn + j) _ rfl Hin.out (by unfold maxLen; omega) x h hxs (by omega) rfl rfl ?m1)
                  intro w5 hin5 k5
                  rw [Htu.out] at hin5
                  have HM5 := Box.mk (HMj.out.map HB.out k5 hin5)
                  have K5 := Box.mk (Kj.out.after k5 (fun z hz => by have := HBw.out; omega))
                  clear hin5 k5 HMj Kj Hin Htu
                  go_wp2_with fail
                  go_roundw
                  case rel => exact ⟨j + 1, by omega, by go_num, HM5, K5⟩
                  case measure => simp [intOf]; omega
                · have hjr2 : j = rk := by omega
                  subst hjr2
                  obtain ⟨f', hf'⟩ : ∃ f', (fun x => if x ∈ R k then some h else f x) = f' := ⟨_, rfl⟩
                  have HMj2 : Box (Mem b g B (B + 1) (B + 2) wr (nn + j) W3 v R f') := ⟨by
                    have h := HMj.out
                    rw [List.take_of_length_le (by rw [Hrk.out]; omega), hf'] at h
                    exact h⟩
                  rw [hf'] at HRS3
                  clear HMj hf' hj hjr
                  obtain ⟨ha, hc, hvh, hrowh⟩ := HMj2.out.row HRS.out (by omega) hh3
                  have hrowk := row_of_own (HMj2.out.own k hk3) (fun x hx => HRS.out.small (by omega) hk3 hx)
                  rw [Hvk.out] at hrowk
                  have ck := HMj2.out.rows.cell hk3
                  have ch := HMj2.out.rows.cell hh3
                  rw [Hvk.out] at ck
                  rw [hvh] at ch
                  have fh := HMj2.out.rows.frozen h
                  obtain ⟨rh, hrh⟩ : ∃ rh, (R h).length = rh := ⟨_, rfl⟩
                  rw [hrh] at ch hrowh hvh
                  have Hrh := Box.mk hrh
                  have hrhb : rh ≤ 20 := by have := HRS.out.short hh3; omega
                  clear hrh
                  go_wp2_with fail
                  have hBs := HMj2.out.size
                  have hkB := HMj2.out.own k hk3
                  have hhB := HMj2.out.own h hh3
                  rw [Hvk.out] at hkB
                  rw [hvh] at hhB
                  have Hemp := Box.mk (show (wr.alloc (.cells #[] 3)).ownsRow wr.heap.size 3 1 (.slice (some ⟨wr.heap.size, 0, none⟩) 0 0) 0 [] from World.ownsRow_lit wr #[] 0 (Nat.le_refl _) (Nat.zero_le _) rfl)
                  have ke := (Keeps.refl (fun _ => False) wr).alloc (.cells #[] 3)
                  have ck1 := ke.cell ck (fun h => h)
                  have ch1 := ke.cell ch (fun h => h)
                  have Rh1 := Box.mk (hrowh.keeps ke (fun _ _ _ _ _ _ h => h))
                  have Rk1 := Box.mk hrowk
                  have Hkb : Box (∀ b o n c, Value.slice ra j rc = .slice (some ⟨b, o, none⟩) n c → ¬ b = wr.heap.size) := ⟨fun b o n c e => by
                    have := (hkB.lt b (by rw [e]; rfl)).2
                    omega⟩
                  have HM0 := Box.mk HMj2.out
                  clear ke hrowh hrowk hkB hhB HMj2 hvh
                  go_cut [67] from 67 to 213 (fun i wx => i = .int .i64 t ∧ ∃ a6 c6, Box (Mem b g B (B + 1) (B + 2) wx (nn + j) W3 (upd v h (.slice a6 (rh + j) c6)) (upd R h (R h ++ R k)) f') ∧ Box (Keeps (fun _ => False) w wx))
                  case first =>
                    go_region_law (first | (refine step_append_row (by rfl) _ _ (by rfl) wr.heap.size (.slice (some ⟨wr.heap.size, 0, none⟩) 0 0) 0 [] (by rfl) Hemp.out ha rh hc _ (by rfl) (Rh1.out.heap rfl) rh (Nat.zero_add _) (by omega) (by simp) ?_; intro a5 c5 w5 hown5 hgr5; have k5 : Keeps (fun z => z = wr.heap.size) wr w5 := ((Keeps.refl (fun z => z = wr.heap.size) wr).alloc (.cells #[] 3)).grown (ungrow (w := wr.alloc (.cells #[] 3)) hgr5 rfl rfl rfl rfl) (fun k hk _ => by simpa [Value.ownBlock] using hk.symm); have ck5 := k5.cell ck (Nat.ne_of_lt (by simp only; omega)); have ch5 := k5.cell ch (Nat.ne_of_lt (by simp only; omega)); have fh5 : w5.frozen? ⟨B, h, none⟩ = false := (k5.frozen (p := ⟨B, h, none⟩) (by simp only; omega) (Nat.ne_of_lt (by simp only; omega))).trans fh) | (refine step_append_row (by rfl) _ _ (by rfl) wr.heap.size (.slice a5 rh c5) rh _ (by rfl) hown5 ra j rc _ (by rfl) ((Rk1.out.keeps k5 (fun b o n c e _ hb => Hkb.out b o n c e hb)).heap rfl) (rh + j) rfl (by omega) (by have := k5.size; omega) ?_; intro a6 c6 w6 hown6 hgr6; have hb5 : ¬ (Value.slice a5 rh c5).ownBlock = some B := (fun e => absurd (hown5.lt B e).1 (by omega)); have k6 : Keeps (fun z => (Value.slice a5 rh c5).ownBlock = some z) w5 w6 := (Keeps.refl (fun z => (Value.slice a5 rh c5).ownBlock = some z) w5).grown (ungrow (w := w5) hgr6 rfl rfl rfl rfl) (fun k hk _ => hk); have ch6 := k6.cell ch5 hb5; have fh6 : w6.frozen? ⟨B, h, none⟩ = false := (k6.frozen (p := ⟨B, h, none⟩) (by have := k5.size; simp only; omega) hb5).trans fh5))
                    all_goals
                      have k56 : Keeps (fun z => wr.heap.size ≤ z) wr w6 := (k5.mono (S' := fun z => wr.heap.size ≤ z) (fun _ _ h => Nat.le_of_eq h.symm)).trans' k6 (fun i hi h => (hown5.lt i h).1)
                      have HM6 := HM0.out.keeps k56 HB.out (fun z hz => by omega)
                      have own6 : w6.ownsRow (B + 2) 3 1 (.slice a6 (rh + j) c6) (R h ++ R k).length (icells (R h ++ R k)) := by
                        rw [List.length_append, Hrh.out, Hrk.out, show icells (R h ++ R k) = [] ++ zcells ((R h).map (fun x : Nat => (x : Int))) ++ zcells ((R k).map (fun x : Nat => (x : Int))) by rw [zcells_nat, zcells_nat]; simp [icells]]
                        exact lowerI hBs hown6
                      have HM7 := Box.mk (HM6.put HB.out hh3 own6)
                      have k567 : Keeps (fun z => wr.heap.size ≤ z ∨ z = B) wr (w6.setCell ⟨B, h, none⟩ (.slice a6 (rh + j) c6)) := (k56.mono (S' := fun z => wr.heap.size ≤ z ∨ z = B) (fun _ _ h => Or.inl h)).setCell (p := ⟨B, h, none⟩) (fun _ => Or.inr rfl) _
                      have K7 := Box.mk (Kj.out.after k567 (fun z hz => by have := Kj.out.size; have := HBw.out; omega))
                      clear k56 HM6 own6 k567 hown5 hgr5 k5 ck5 ch5 fh5 hown6 hgr6 hb5 k6 ch6 fh6 HM0 Hemp ck1 ch1 Rh1 Rk1 Hkb ck ch fh Kj hBs
                      go_wp2_with fail
                      go_meet
                      first | exact ⟨rfl, _, _, HM7, K7⟩ | (case rel => exact ⟨rfl, _, _, HM7, K7⟩)
                  case rest =>
                    obtain ⟨rfl, a6, c6, HM7, K7⟩ := hcut
                    clear HM0 Hemp ck1 ch1 Rh1 Rk1 Hkb ck ch fh Kj hBs
                    have ck7 := HM7.out.rows.cell hk3
                    have fk7 := HM7.out.rows.frozen k
                    rw [upd_ne _ _ hkh, Hvk.out] at ck7
                    go_wp2_with fail
                    have HM8 := Box.mk (HM7.out.put HB.out hk3 (x := .slice none 0 0) (L := []) (World.ownsRow_nil _ _ _ _))
                    have K8 := Box.mk (K7.out.after ((Keeps.refl (fun z => z = B) wc).setCell (p := ⟨B, k, none⟩) (fun _ => rfl) (.slice none 0 0)) (fun z hz => by have := HBw.out; omega))
                    clear HM7 K7 ck7 fk7
                    generalize wc.setCell ⟨B, k, none⟩ (.slice none 0 0) = w8 at *
                    go_loopw [191] (fun i wr => ∃ jx : Nat, jx ≤ 3 ∧ i = .int .i64 jx ∧ Box (Mem b g B (B + 1) (B + 2) wr (nn + j) W3 (upd (upd v h (.slice a6 (rh + j) c6)) k (.slice none 0 0)) (upd (upd R h (R h ++ R k)) k []) (f')) ∧ Box (Keeps (fun _ => False) w wr)) (fun i _ => 3 - (intOf i).toNat)
                    case atStart => exact ⟨0, Nat.zero_le _, rfl, HM8, K8⟩
                    case round =>
                      clear HM8 K8
                      obtain ⟨jj, hjj, rfl, HMc, Kc⟩ := hrel
                      by_cases hj3 : jj < 3
                      · have hj30 : (0 : Int) ≤ (jj : Int) := by omega
                        have hj31 : (jj : Int) < 3 := by omega
                        obtain ⟨pj, hpj⟩ : ∃ pj, 3 * jj = pj := ⟨_, rfl⟩
                        have hpj3 : 3 * (jj : Int) = (pj : Int) := by omega
                        have Hpj := Box.mk hpj
                        clear hpj
                        have har := around_rs HMc.out.iw HRS3.out hj3 (by omega : m ≤ 1000)
                        rw [Hpj.out] at har
                        have Har := Box.mk har
                        clear har
                        go_wp2_with fail
                        refine Har.out.mono ?_
                        rintro e wc ⟨uc', rfl, hrowc, hIc, kc⟩
                        have HMd := Box.mk (HMc.out.ring HB.out kc hIc)
                        have Kd := Box.mk (Kc.out.ring kc Hb.out.1 Hb.out.2)
                        obtain ⟨da, dc, hvd, hrowd⟩ := HMd.out.row HRS3.out (by omega) hj3
                        have cd := HMd.out.rows.cell hj3
                        rw [hvd] at cd
                        have Rc := Box.mk hrowc
                        have Rd := Box.mk hrowd
                        obtain ⟨rd, hrd⟩ : ∃ rd, ((upd (upd R h (R h ++ R k)) k []) jj).length = rd := ⟨_, rfl⟩
                        rw [hrd] at cd Rd
                        clear Har HMc Kc hrowc hIc kc hvd hrowd hrd
                        go_wp2_with fail
                        refine (same04_is Rc.out Rd.out).mono ?_
                        rintro e we ⟨rfl, q, rfl⟩
                        have HMe := Box.mk (HMd.out.keeps0 ((Keeps.refl (fun _ => False) wc).drewN q) HB.out)
                        have Ke := Box.mk (Kd.out.drewN q)
                        clear HMd Kd cd Rc Rd
                        go_wp2_with fail
                        go_roundw
                        case rel => exact ⟨jj + 1, by omega, by go_num, HMe, Ke⟩
                        case measure => simp [intOf]; omega
                      · go_wp2_with fail
                        go_roundw
                        case rel => first | exact ⟨t + 1, nn + j, W3, upd (upd v h (.slice a6 (rh + j) c6)) k (.slice none 0 0), upd (upd R h (R h ++ R k)) k [], f', by omega, by go_num, by omega, HMc, HRS3, Kc⟩ | (repeat apply Exists.intro; exact ⟨⟨t + 1, nn + j, W3, upd (upd v h (.slice a6 (rh + j) c6)) k (.slice none 0 0), upd (upd R h (R h ++ R k)) k [], f', by omega, by go_num, by omega, HMc, HRS3, Kc⟩, rfl⟩) | ((repeat apply Exists.intro); exact ⟨⟨t + 1, nn + j, W3, upd (upd v h (.slice a6 (rh + j) c6)) k (.slice none 0 0), upd (upd R h (R h ++ R k)) k [], f', by omega, by go_num, by omega, HMc, HRS3, Kc⟩, rfl⟩)
                        case measure => simp [intOf]; omega
          · have h62 : (ok == 6) = false := by rw [beq_eq_false_iff_ne]; exact h6
            have hh0 : (0 : Int) ≤ (h : Int) := by omega
            have hh4 : (h : Int) < 3 := by omega
            by_cases hm0 : m = 0
            · have hm00 : ¬ (0 : Int) < (m : Int) := by omega
              have Hm0 := Box.mk hm0
              clear hm0
              go_wp2_with fail
              try rw [hh]
              clear hh c0 c1 c2 Hact Hab HabB
              generalize wr.alloc (.cells #[.int .i64 ok, .int .i64 oa, .int .i64 ob] 67) = w8 at *
              go_loopw [191] (fun i wr => ∃ jx : Nat, jx ≤ 3 ∧ i = .int .i64 jx ∧ Box (Mem b g B (B + 1) (B + 2) wr (nn) W (v) (R) (f)) ∧ Box (Keeps (fun _ => False) w wr)) (fun i _ => 3 - (intOf i).toNat)
              case atStart => exact ⟨0, Nat.zero_le _, rfl, HMa, Ka⟩
              case round =>
                clear HMa Ka
                obtain ⟨jj, hjj, rfl, HMc, Kc⟩ := hrel
                by_cases hj3 : jj < 3
                · have hj30 : (0 : Int) ≤ (jj : Int) := by omega
                  have hj31 : (jj : Int) < 3 := by omega
                  obtain ⟨pj, hpj⟩ : ∃ pj, 3 * jj = pj := ⟨_, rfl⟩
                  have hpj3 : 3 * (jj : Int) = (pj : Int) := by omega
                  have Hpj := Box.mk hpj
                  clear hpj
                  have har := around_rs HMc.out.iw HRS.out hj3 (by omega : m ≤ 1000)
                  rw [Hpj.out] at har
                  have Har := Box.mk har
                  clear har
                  go_wp2_with fail
                  refine Har.out.mono ?_
                  rintro e wc ⟨uc', rfl, hrowc, hIc, kc⟩
                  have HMd := Box.mk (HMc.out.ring HB.out kc hIc)
                  have Kd := Box.mk (Kc.out.ring kc Hb.out.1 Hb.out.2)
                  obtain ⟨da, dc, hvd, hrowd⟩ := HMd.out.row HRS.out (by omega) hj3
                  have cd := HMd.out.rows.cell hj3
                  rw [hvd] at cd
                  have Rc := Box.mk hrowc
                  have Rd := Box.mk hrowd
                  obtain ⟨rd, hrd⟩ : ∃ rd, ((R) jj).length = rd := ⟨_, rfl⟩
                  rw [hrd] at cd Rd
                  clear Har HMc Kc hrowc hIc kc hvd hrowd hrd
                  go_wp2_with fail
                  refine (same04_is Rc.out Rd.out).mono ?_
                  rintro e we ⟨rfl, q, rfl⟩
                  have HMe := Box.mk (HMd.out.keeps0 ((Keeps.refl (fun _ => False) wc).drewN q) HB.out)
                  have Ke := Box.mk (Kd.out.drewN q)
                  clear HMd Kd cd Rc Rd
                  go_wp2_with fail
                  go_roundw
                  case rel => exact ⟨jj + 1, by omega, by go_num, HMe, Ke⟩
                  case measure => simp [intOf]; omega
                · go_wp2_with fail
                  go_roundw
                  case rel => exact ⟨t + 1, nn, W, v, R, f, by omega, by go_num, by omega, HMc, HRS, Kc⟩
                  case measure => simp [intOf]; omega

            · have hm00 : (0 : Int) < (m : Int) := by omega
              obtain ⟨d, hd⟩ : ∃ d : Nat, wrap64 ((IntKind.u64.wrap ob).tmod (m : Int)) = (d : Int) := ⟨(wrap64 ((IntKind.u64.wrap ob).tmod (m : Int))).toNat, by have := umod_bd ob (m : Int) (by omega) (by omega); omega⟩
              have hdm : d < m := by have := umod_bd ob (m : Int) (by omega) (by omega); omega
              obtain ⟨j3, hj3⟩ : ∃ j3 : Nat, 3 + d = j3 := ⟨_, rfl⟩
              have hj33 : 3 + (d : Int) = (j3 : Int) := by omega
              obtain ⟨q, hq⟩ : ∃ q : Nat, 3 * j3 = q := ⟨_, rfl⟩
              have hq3 : 3 * (j3 : Int) = (q : Int) := by omega
              have Hj3 : Box (3 ≤ j3 ∧ j3 < m + 3) := ⟨by omega⟩
              have Hq := Box.mk hq
              have hqs : q ≤ 1048576 := by omega
              have hj3b : j3 ≤ 100 := by omega
              clear hq hj3
              go_wp2_with (at_lookup; refine wpList_in_look _ rfl _ _ rfl (B + 1) nn f rfl HMa.out.inn q hqs rfl ?m2)
              case m2 =>
                intro c hc
                try rw [hh]
                try rw [hd]
                try rw [Hab.out]
                clear hd hh c0 c1 c2
                cases hf : f q with
                | some k =>
                  have hck := hc k hf
                  subst hck
                  obtain ⟨hk3, hkm⟩ := (HRS.out.mem q k).1 hf
                  have hk0 : (0 : Int) ≤ (k : Int) := by omega
                  have hk4 : (k : Int) < 3 := by omega
                  have Hf := Box.mk hf
                  clear hc hkm hf
                  simp only [Option.isSome_some]
                  go_wp2_with fail
                  refine (remove_rs HMa.out.iw HRS.out Hf.out).mono ?_
                  rintro e w3 ⟨W3, rfl, hI3, hR3, hlo, k3⟩
                  have HM3 := Box.mk (HMa.out.ring HB.out k3 hI3)
                  have HRS3 := Box.mk hR3
                  have Hlo := Box.mk hlo
                  have K3 := Box.mk (Ka.out.ring k3 Hb.out.1 Hb.out.2)
                  clear hI3 hR3 k3 HMa Ka Hact Hab hlo
                  obtain ⟨ra, rc, hvk, hrow⟩ := HM3.out.row HRS.out (by omega) hk3
                  have ck := HM3.out.rows.cell hk3
                  rw [hvk] at ck
                  obtain ⟨rk, hrk⟩ : ∃ rk, (R k).length = rk := ⟨_, rfl⟩
                  rw [hrk] at ck hvk hrow
                  have hrkb : rk ≤ 20 := by have := HRS.out.short hk3; omega
                  have hownk := HM3.out.own k hk3
                  rw [hvk] at hownk
                  have Hkb : Box (∀ b o n c, Value.slice ra rk rc = .slice (some ⟨b, o, none⟩) n c → b < w3.heap.size) := ⟨fun b o n c e => (hownk.lt b (by rw [e]; rfl)).2⟩
                  have Hrow := Box.mk hrow
                  have Hrk := Box.mk hrk
                  have Hvk := Box.mk hvk
                  clear hrk hvk hrow hownk
                  have hB3 : B + 2 ≤ w3.heap.size := HM3.out.size
                  go_wp2_with fail
                  clear ck
                  go_loopw [19, 145] (fun o i wx => ∃ j : Nat, j ≤ rk ∧ i = .int .i64 j ∧ Box (wx.ownsRow w3.heap.size 3 1 o (((R k).take j).filter (fun x => x != q)).length (icells (((R k).take j).filter (fun x => x != q)))) ∧ Box (Keeps (fun z => w3.heap.size ≤ z) w3 wx)) (fun _ i _ => rk - (intOf i).toNat)
                  case atStart => exact ⟨0, Nat.zero_le _, rfl, ⟨World.ownsRow_nil _ _ _ _⟩, ⟨Keeps.refl _ _⟩⟩
                  case round =>
                    obtain ⟨j, hj, rfl, HOj, Kj⟩ := hrel
                    by_cases hjr : j < rk
                    · have hrow := Hrow.out.keeps Kj.out (fun b o n c e _ hb => by have := Hkb.out b o n c e; omega)
                      obtain ⟨cb, co, rfl, hcb, hcc⟩ := hrow.cell hjr
                      have hjl : j < (R k).length := by rw [Hrk.out]; exact hjr
                      have hxm : (R k).getD j 0 ∈ R k := by simp [List.getD, hjl]
                      have hxs := HRS.out.small (by omega) hk3 hxm
                      have hfs := filter_step (R k) q j hjl
                      have hzx : ((R k).map (fun x : Nat => (x : Int))).getD j 0 = ((R k).getD j 0 : Int) := by simp [List.getD, hjl]
                      rw [hzx] at hcc
                      have hfl : (((R k).take j).filter (fun x => x != q)).length ≤ 20 := by
                        have h1 := List.length_filter_le (fun x => x != q) ((R k).take j)
                        have h2 : ((R k).take j).length ≤ j := by simp; omega
                        omega
                      generalize (R k).getD j 0 = x at *
                      have hj0 : (0 : Int) ≤ (j : Int) := by omega
                      have hj1 : (j : Int) < (rk : Int) := by omega
                      by_cases hxq : x = q
                      · rw [if_pos hxq] at hfs
                        have HO2 : Box (wr.ownsRow w3.heap.size 3 1 u19 (((R k).take (j + 1)).filter (fun x => x != q)).length (icells (((R k).take (j + 1)).filter (fun x => x != q)))) := ⟨by rw [hfs]; exact HOj.out⟩
                        subst hxq
                        clear hfs hxm hzx hrow hjl HOj
                        go_wp2_with fail
                        go_roundw
                        case rel => exact ⟨j + 1, by omega, by go_num, HO2, Kj⟩
                        case measure => simp [intOf]; omega
                      · rw [if_neg hxq] at hfs
                        have hxq2 : ((x : Int) != (q : Int)) = true := by rw [bne_iff_ne]; omega
                        obtain ⟨fl, hfl2⟩ : ∃ fl, (((R k).take j).filter (fun x => x != q)).length = fl := ⟨_, rfl⟩
                        have HO1 : Box ((wr.alloc (.cells #[.int .i64 x] 3)).ownsRow w3.heap.size 3 1 u19 fl (icells (((R k).take j).filter (fun x => x != q)))) := ⟨by rw [← hfl2]; exact HOj.out.alloc _⟩
                        have HR1 := Box.mk (IsRow.one wr x hxs)
                        have Hfs := Box.mk hfs
                        have Hfl := Box.mk hfl2
                        rw [hfl2] at hfl
                        have hws := Kj.out.size
                        clear hfs hxm hzx hrow hjl hxq hfl2
                        go_wp2_with (at_builtin; refine wpList_append_row rfl _ _ rfl w3.heap.size u19 fl _ rfl HO1.out (some ⟨wr.heap.size, 0, none⟩) 1 1 _ rfl HR1.out (fl + 1) rfl (by omega) (by simp; omega) ?m3)
                        intro a1 c1 w5 hown5 hgr5
                        have HO5 : Box (w5.ownsRow w3.heap.size 3 1 (.slice a1 (fl + 1) c1) (((R k).take (j + 1)).filter (fun x => x != q)).length (icells (((R k).take (j + 1)).filter (fun x => x != q)))) := ⟨by
                          rw [Hfs.out, List.length_append, Hfl.out]
                          have e : icells (((R k).take j).filter (fun x => x != q) ++ [x]) = icells (((R k).take j).filter (fun x => x != q)) ++ zcells [(x : Int)] := by simp [icells, zcells]
                          rw [e]
                          exact hown5⟩
                        have k5 : Keeps (fun z => u19.ownBlock = some z) wr w5 := ((Keeps.refl (fun z => u19.ownBlock = some z) wr).alloc _).grown hgr5 (fun k hk _ => hk)
                        have K5 := Box.mk (Kj.out.trans' k5 (fun i hi h => (HO1.out.lt i h).1))
                        clear hown5 hgr5 k5 HO1 HR1 HOj Kj Hfs Hfl
                        go_wp2_with fail
                        go_roundw
                        case rel => exact ⟨j + 1, by omega, by go_num, HO5, K5⟩
                        case measure => simp [intOf]; omega
                    · have hjr2 : j = rk := by omega
                      subst hjr2
                      have htk : (R k).take j = R k := List.take_of_length_le (by rw [Hrk.out]; omega)
                      rw [htk] at HOj
                      have HMj := HM3.out.keeps Kj.out HB.out (fun z hz => by omega)
                      obtain ⟨L, hL⟩ : ∃ L, (R k).filter (fun x => x != q) = L := ⟨_, rfl⟩
                      rw [hL] at HOj HRS3
                      obtain ⟨va, vn, vc, rfl⟩ : ∃ va vn vc, u19 = .slice va vn vc := by
                        rcases HOj.out.2 with ⟨h, _⟩ | ⟨g', cap, cur, h, _⟩
                        · exact ⟨_, _, _, h⟩
                        · exact ⟨_, _, _, h⟩
                      have ck := HMj.rows.cell hk3
                      have fk := HMj.rows.frozen k
                      rw [Hvk.out] at ck
                      have HM4 := Box.mk (HMj.put HB.out hk3 (lowerI hB3 HOj.out))
                      have K4 := Box.mk ((K3.out.after Kj.out (fun z hz => by have := K3.out.size; omega)).after ((Keeps.refl (fun z => z = B) wr).setCell (p := ⟨B, k, none⟩) (fun _ => rfl) (.slice va vn vc)) (fun z hz => by have := HBw.out; omega))
                      clear HMj htk hL HM3 K3 Kj HOj hj hjr
                      go_wp2_with (at_delete; refine wpList_in_del _ rfl _ _ rfl (B + 1) nn f rfl HM4.out.inn q hqs rfl ?m4)
                      case m4 =>
                        intro w5 hin5 k5
                        have HM5 := Box.mk (HM4.out.map HB.out k5 hin5)
                        have K5 := Box.mk (K4.out.after k5 (fun z hz => by have := HBw.out; omega))
                        clear hin5 k5 HM4 K4 ck fk
                        have hql : q + 2 < W3.length := by have := HRS3.out.len; have := Hj3.out; have := Hq.out; omega
                        go_wp2_with fail
                        refine (ralone_is (p := q) (x := q) HM5.out.iw hql Hlo.out.2 hqs).mono ?_
                        rintro e w6 ⟨rfl, hI6, k6⟩
                        simp only [decide_true]
                        have HM6 := Box.mk (HM5.out.ring HB.out k6 hI6)
                        have K6 := Box.mk (K5.out.ring k6 Hb.out.1 Hb.out.2)
                        clear hI6 k6 HM5 K5
                        go_wp2_with fail
                        go_loopw [191] (fun i wr => ∃ jx : Nat, jx ≤ 3 ∧ i = .int .i64 jx ∧ Box (Mem b g B (B + 1) (B + 2) wr (nn) W3 (upd v k (.slice va vn vc)) (upd R k L) (upd f q none)) ∧ Box (Keeps (fun _ => False) w wr)) (fun i _ => 3 - (intOf i).toNat)
                        case atStart => exact ⟨0, Nat.zero_le _, rfl, HM6, K6⟩
                        case round =>
                          clear HM6 K6
                          obtain ⟨jj, hjj, rfl, HMc, Kc⟩ := hrel
                          by_cases hj3 : jj < 3
                          · have hj30 : (0 : Int) ≤ (jj : Int) := by omega
                            have hj31 : (jj : Int) < 3 := by omega
                            obtain ⟨pj, hpj⟩ : ∃ pj, 3 * jj = pj := ⟨_, rfl⟩
                            have hpj3 : 3 * (jj : Int) = (pj : Int) := by omega
                            have Hpj := Box.mk hpj
                            clear hpj
                            have har := around_rs HMc.out.iw HRS3.out hj3 (by omega : m ≤ 1000)
                            rw [Hpj.out] at har
                            have Har := Box.mk har
                            clear har
                            go_wp2_with fail
                            refine Har.out.mono ?_
                            rintro e wc ⟨uc', rfl, hrowc, hIc, kc⟩
                            have HMd := Box.mk (HMc.out.ring HB.out kc hIc)
                            have Kd := Box.mk (Kc.out.ring kc Hb.out.1 Hb.out.2)
                            obtain ⟨da, dc, hvd, hrowd⟩ := HMd.out.row HRS3.out (by omega) hj3
                            have cd := HMd.out.rows.cell hj3
                            rw [hvd] at cd
                            have Rc := Box.mk hrowc
                            have Rd := Box.mk hrowd
                            obtain ⟨rd, hrd⟩ : ∃ rd, ((upd R k L) jj).length = rd := ⟨_, rfl⟩
                            rw [hrd] at cd Rd
                            clear Har HMc Kc hrowc hIc kc hvd hrowd hrd
                            go_wp2_with fail
                            refine (same04_is Rc.out Rd.out).mono ?_
                            rintro e we ⟨rfl, q, rfl⟩
                            have HMe := Box.mk (HMd.out.keeps0 ((Keeps.refl (fun _ => False) wc).drewN q) HB.out)
                            have Ke := Box.mk (Kd.out.drewN q)
                            clear HMd Kd cd Rc Rd
                            go_wp2_with fail
                            go_roundw
                            case rel => exact ⟨jj + 1, by omega, by go_num, HMe, Ke⟩
                            case measure => simp [intOf]; omega
                          · go_wp2_with fail
                            go_roundw
                            case rel => exact ⟨t + 1, nn, W3, upd v k (.slice va vn vc), upd R k L, upd f q none, by omega, by go_num, by omega, HMc, HRS3, Kc⟩
                            case measure => simp [intOf]; omega

                | none =>
                  simp only [Option.isSome_none]
                  have Hf := Box.mk hf
                  clear hc hf
                  go_wp2_with fail
                  have hj := insert_rs HMa.out.iw HRS.out Hj3.out.1 Hj3.out.2 hh3 (by rw [Hq.out]; exact Hf.out)
                  rw [Hp.out, Hq.out] at hj
                  refine hj.mono ?_
                  clear hj
                  rintro e w3 ⟨W3, rfl, hI3, hR3, k3⟩
                  have HM3 := Box.mk (HMa.out.ring HB.out k3 hI3)
                  have HRS3 := Box.mk hR3
                  have K3 := Box.mk (Ka.out.ring k3 Hb.out.1 Hb.out.2)
                  clear hI3 hR3 k3 HMa Ka Hact Hab
                  obtain ⟨ra, rc, hvh, hrow⟩ := HM3.out.row HRS.out (by omega) hh3
                  have k4 := (Keeps.refl (fun _ => False) w3).alloc (.cells #[.int .i64 q] 3)
                  have ch := HM3.out.rows.cell hh3
                  rw [hvh] at ch
                  have ch1 := k4.cell ch (fun h => h)
                  obtain ⟨rh, hrh⟩ : ∃ rh, (R h).length = rh := ⟨_, rfl⟩
                  rw [hrh] at ch ch1 hvh hrow
                  have hrhb : rh ≤ 20 := by have := HRS.out.short hh3; omega
                  have Hrow := Box.mk (hrow.keeps k4 (fun _ _ _ _ _ _ h => h))
                  have Hrh := Box.mk hrh
                  have A3 := Box.mk (show (w3.alloc (.cells #[.int .i64 q] 3)).ownsRow w3.heap.size 3 1 (.slice (some ⟨w3.heap.size, 0, none⟩) 1 1) 1 [.int .i64 q] from World.ownsRow_lit w3 #[.int .i64 q] 1 (Nat.le_refl _) (by decide) rfl)
                  have hB3 : B + 2 ≤ w3.heap.size := HM3.out.size
                  clear hrh hvh hrow k4
                  go_wp2_with (at_builtin; refine wpList_append_row rfl _ _ rfl w3.heap.size (.slice (some ⟨w3.heap.size, 0, none⟩) 1 1) 1 _ rfl A3.out ra rh rc _ rfl Hrow.out (1 + rh) rfl (by omega) (by simp) ?m5)
                  intro a1 c1 w5 hown5 hgr5
                  have k5 : Keeps (fun z => z = w3.heap.size) w3 w5 := ((Keeps.refl (fun z => z = w3.heap.size) w3).alloc (.cells #[.int .i64 q] 3)).grown hgr5 (fun k hk _ => by simpa [Value.ownBlock] using hk.symm)
                  have HM5 := HM3.out.keeps k5 HB.out (fun z hz => by omega)
                  have own5 : w5.ownsRow (B + 2) 3 1 (.slice a1 (1 + rh) c1) (q :: R h).length (icells (q :: R h)) := by
                    rw [List.length_cons, Hrh.out, Nat.add_comm rh 1, show icells (q :: R h) = [.int .i64 (q : Int)] ++ zcells ((R h).map (fun x : Nat => (x : Int))) by rw [zcells_nat]; simp [icells]]
                    exact lowerI hB3 hown5
                  have ch5 := k5.cell ch (Nat.ne_of_lt (by simp only; omega))
                  have fh5 := HM5.rows.frozen h
                  have HM6 := Box.mk (HM5.put HB.out hh3 own5)
                  have K6 := Box.mk ((K3.out.after k5 (fun z hz => by have := K3.out.size; omega)).after ((Keeps.refl (fun z => z = B) w5).setCell (p := ⟨B, h, none⟩) (fun _ => rfl) (.slice a1 (1 + rh) c1)) (fun z hz => by have := HBw.out; omega))
                  clear HM5 own5 k5 hown5 hgr5 HM3 K3 A3 Hrow ch ch1
                  go_wp2_with (at_mapUpdate; refine wpList_in_put _ rfl _ _ _ rfl (B + 1) nn f rfl HM6.out.inn (by unfold maxLen; omega) q h hqs (by omega) rfl rfl ?m6)
                  intro w7 hin7 k7
                  have HM7 := Box.mk (HM6.out.map HB.out k7 hin7)
                  have K7 := Box.mk (K6.out.after k7 (fun z hz => by have := HBw.out; omega))
                  clear hin7 k7 HM6 K6 ch5 fh5
                  go_wp2_with fail
                  go_loopw [191] (fun i wr => ∃ jx : Nat, jx ≤ 3 ∧ i = .int .i64 jx ∧ Box (Mem b g B (B + 1) (B + 2) wr (nn + 1) W3 (upd v h (.slice a1 (1 + rh) c1)) (upd R h (q :: R h)) (upd f q (some h))) ∧ Box (Keeps (fun _ => False) w wr)) (fun i _ => 3 - (intOf i).toNat)
                  case atStart => exact ⟨0, Nat.zero_le _, rfl, HM7, K7⟩
                  case round =>
                    clear HM7 K7
                    obtain ⟨jj, hjj, rfl, HMc, Kc⟩ := hrel
                    by_cases hj3 : jj < 3
                    · have hj30 : (0 : Int) ≤ (jj : Int) := by omega
                      have hj31 : (jj : Int) < 3 := by omega
                      obtain ⟨pj, hpj⟩ : ∃ pj, 3 * jj = pj := ⟨_, rfl⟩
                      have hpj3 : 3 * (jj : Int) = (pj : Int) := by omega
                      have Hpj := Box.mk hpj
                      clear hpj
                      have har := around_rs HMc.out.iw HRS3.out hj3 (by omega : m ≤ 1000)
                      rw [Hpj.out] at har
                      have Har := Box.mk har
                      clear har
                      go_wp2_with fail
                      refine Har.out.mono ?_
                      rintro e wc ⟨uc', rfl, hrowc, hIc, kc⟩
                      have HMd := Box.mk (HMc.out.ring HB.out kc hIc)
                      have Kd := Box.mk (Kc.out.ring kc Hb.out.1 Hb.out.2)
                      obtain ⟨da, dc, hvd, hrowd⟩ := HMd.out.row HRS3.out (by omega) hj3
                      have cd := HMd.out.rows.cell hj3
                      rw [hvd] at cd
                      have Rc := Box.mk hrowc
                      have Rd := Box.mk hrowd
                      obtain ⟨rd, hrd⟩ : ∃ rd, ((upd R h (q :: R h)) jj).length = rd := ⟨_, rfl⟩
                      rw [hrd] at cd Rd
                      clear Har HMc Kc hrowc hIc kc hvd hrowd hrd
                      go_wp2_with fail
                      refine (same04_is Rc.out Rd.out).mono ?_
                      rintro e we ⟨rfl, q, rfl⟩
                      have HMe := Box.mk (HMd.out.keeps0 ((Keeps.refl (fun _ => False) wc).drewN q) HB.out)
                      have Ke := Box.mk (Kd.out.drewN q)
                      clear HMd Kd cd Rc Rd
                      go_wp2_with fail
                      go_roundw
                      case rel => exact ⟨jj + 1, by omega, by go_num, HMe, Ke⟩
                      case measure => simp [intOf]; omega
                    · go_wp2_with fail
                      go_roundw
                      case rel => exact ⟨t + 1, nn + 1, W3, upd v h (.slice a1 (1 + rh) c1), upd R h (q :: R h), upd f q (some h), by omega, by go_num, by omega, HMc, HRS3, Kc⟩
                      case measure => simp [intOf]; omega
        · go_wp2_with fail
          go_ret
          exact ⟨rfl, K.out.below (Nat.le_refl _) (fun _ h => h.elim)⟩

end Go.Proofs.Ytlbmknnpglandaa
