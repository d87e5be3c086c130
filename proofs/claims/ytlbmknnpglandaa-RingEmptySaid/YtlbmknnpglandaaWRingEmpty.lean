/- RingEmpty's walk; law 4's same. -/
import Derived.Test.YtlbmknnpglandaaRing5
import Derived.Laws.AppendOwnNone
namespace Go.Proofs.Ytlbmknnpglandaa
set_option linter.unusedVariables false
set_option linter.unusedSimpArgs false
open Go.RowKit

set_option maxRecDepth 100000 in
set_option maxHeartbeats 1000000 in
theorem same04_is {w : World} {u v : Value} {l : List Int} (hu : IsRow .i64 w u l) (hv : IsRow .i64 w v l) :
    Calls Try.prog 30 #[u, v] w fun e w' => e = .returned (.bool true) ∧ ∃ k, w' = w.drewN k := by
  obtain ⟨a, n, c, rfl⟩ := hu.form
  obtain ⟨a', n', c', rfl⟩ := hv.form
  obtain ⟨h1, h2⟩ := hu.len
  obtain ⟨h3, h4⟩ := hv.len
  obtain rfl : n' = n := by omega
  have HU := Box.mk hu
  have HV := Box.mk hv
  clear hu hv h1 h3 h4
  simp only [maxLen] at h2
  go_enter Try.func30, Try.ntmps30
  go_wp2_with fail
  go_loopw [13] (fun i wr => ∃ (k q : Nat), k ≤ n' ∧ i = .int .i64 k ∧ wr = w.drewN q) (fun i _ => n' - (intOf i).toNat)
  case atStart => exact ⟨0, 0, Nat.zero_le _, rfl, rfl⟩
  case round =>
    obtain ⟨k, q, hk, rfl, rfl⟩ := hrel
    by_cases hkn : k < n'
    · obtain ⟨ub, uo, rfl, hub, u0⟩ := HU.out.cell hkn
      obtain ⟨vb, vo, rfl, hvb, v0⟩ := HV.out.cell hkn
      have hk0 : (0 : Int) ≤ (k : Int) := by omega
      have hk1 : (k : Int) < (n' : Int) := by omega
      generalize l.getD k 0 = x at *
      go_wp2_with fail
      go_quiet (fail)
      go_wp2_with fail
      go_roundw
      case rel => exact ⟨k + 1, q + nq, by omega, by go_num, by first | rfl | rw [World.drewN_drewN]⟩
      case measure => simp [intOf]; omega
    · go_wp2_with fail
      go_ret
      exact ⟨rfl, q, rfl⟩

theorem dn_le {s i x : Nat} (h : x ∈ dn s i) (hb : s + i ≤ 300000) : x ≤ 1048576 := by
  obtain ⟨j, h1, h2, h3⟩ := dn_mem h
  omega

set_option maxRecDepth 100000 in
set_option maxHeartbeats 2000000 in
theorem RingEmpty_walk (members : Int) (w : World) (hm : (Lit.int .i64 members).wf = true) :
    Calls Try.prog 9 #[.int .i64 members] w fun e w' => e = .returned (.bool true) ∧ Below w.heap.size w w' := by
  clear hm
  obtain ⟨i0, hi0, hz0, hz1, hz2⟩ := info_parts info_int
  have Hi := Box.mk (And.intro hi0 (And.intro hz0 (And.intro hz1 hz2)))
  clear hi0 hz0 hz1 hz2
  obtain ⟨m, hd⟩ : ∃ d : Nat, wrap64 ((IntKind.u64.wrap members).tmod 20) = (d : Int) := ⟨(wrap64 ((IntKind.u64.wrap members).tmod 20)).toNat, by have := umod_bd members 20 (by omega) (by omega); omega⟩
  have hds : m < 20 := by have := umod_bd members 20 (by omega) (by omega); omega
  obtain ⟨m1, hm1⟩ : ∃ m1 : Nat, m + 3 = m1 := ⟨_, rfl⟩
  have hm3 : (m : Int) + 3 = (m1 : Int) := by omega
  obtain ⟨n, hn⟩ : ∃ n : Nat, 3 * m1 = n := ⟨_, rfl⟩
  have hn3 : 3 * (m1 : Int) = (n : Int) := by omega
  have Hn := Box.mk (And.intro hm1 hn)
  clear hm1 hn
  have hnb : n ≤ 100 := by have := Hn.out; omega
  go_enter Try.func9, Try.ntmps9
  go_wp2_with fail
  rw [hd]
  refine (rnew_is n _ (by omega)).mono ?_
  rintro e w1 ⟨b, g, rfl, h1, k1, hb, hg⟩
  have H1 := Box.mk h1
  have K1 := Box.mk k1
  have Hb := Box.mk (And.intro hb hg)
  clear h1 k1 hd hb hg
  go_wp2_with fail
  refine (awake04 _).mono ?_
  rintro e w2 ⟨rfl, k2⟩
  have H2 := Box.mk (H1.out.keeps0 k2)
  have K2 := Box.mk (K1.out.trans k2)
  clear k2 H1 K1
  go_wp2_with fail
  have hm1b : m1 ≤ 22 := by have := Hn.out; omega
  go_loopw [37] (fun i wr => ∃ (k : Nat) (W : List Nat), k ≤ m1 ∧ i = .int .i64 k ∧ Box (W.length = n) ∧ Box (IsW wr b g W) ∧ Box (∀ j, j < k → Lone W (3 * j)) ∧ Box (Keeps (fun _ => False) w wr)) (fun i _ => m1 - (intOf i).toNat)
  case atStart => exact ⟨0, List.replicate n 0, Nat.zero_le _, rfl, ⟨by simp⟩, H2, ⟨fun j hj => by omega⟩, K2⟩
  case round =>
    clear H2 K2
    obtain ⟨k, W, hk, rfl, HW, HI, HL, K⟩ := hrel
    by_cases hkn : k < m1
    · have hk1 : (k : Int) < (m1 : Int) := by omega
      obtain ⟨q, hq⟩ : ∃ q : Nat, 3 * k = q := ⟨_, rfl⟩
      have hq3 : 3 * (k : Int) = (q : Int) := by omega
      have Hq := Box.mk hq
      clear hq
      have hqn : Node W q := ⟨by have := Hq.out; omega, by have := Hq.out; have := HW.out; have := Hn.out; omega⟩
      have HN := Box.mk hqn
      clear hqn
      go_wp2_with fail
      refine (rinit_is (p := q) HI.out HN.out.2).mono ?_
      rintro e w3 ⟨rfl, h3, k3⟩
      have H3 := Box.mk h3
      have K3 := Box.mk (K.out.ring k3 Hb.out.1 Hb.out.2)
      have HW3 : Box ((setAll W [(q, 1, q), (q, 2, q)]).length = n) := ⟨by rw [setAll_length]; exact HW.out⟩
      have HL3 : Box (∀ j, j < k + 1 → Lone (setAll W [(q, 1, q), (q, 2, q)]) (3 * j)) := ⟨fun j hj => lone_init HN.out (by omega) (by
        rcases Nat.lt_or_ge j k with h | h
        · exact Or.inr (HL.out j h)
        · have := Hq.out; exact Or.inl (by omega))⟩
      clear h3 k3 HI K HW HL HN
      go_wp2_with fail
      go_roundw
      case rel => exact ⟨k + 1, _, by omega, by go_num, HW3, H3, HL3, K3⟩
      case measure => simp [intOf]; omega
    · have HL1 : Box (∀ j, j < m1 → Lone W (3 * j)) := ⟨fun j hj => HL.out j (by omega)⟩
      have hnode : ∀ j, j < m1 → Node W (3 * j) := fun j hj => ⟨by omega, by have := HW.out; have := Hn.out; omega⟩
      have HR : Box (Ring W 0 (dn 3 0)) := ⟨lone_ring (HL1.out 0 (by have := Hn.out; omega)) (hnode 0 (by have := Hn.out; omega))⟩
      have HL2 : Box (∀ j, j = 1 ∨ j = 2 ∨ 3 + 0 ≤ j → j < m1 → Lone W (3 * j)) := ⟨fun j _ hj => HL1.out j hj⟩
      obtain ⟨B, hB⟩ : ∃ B, wr.heap.size = B := ⟨_, rfl⟩
      have HB : Box (b < B ∧ g < B ∧ w.heap.size ≤ B) := ⟨by have := HI.out.lt; have := K.out.size; omega⟩
      have HO : Box (wr.ownsRow B 3 1 (.slice none 0 0) (dn 3 0).length (icells (dn 3 0))) := ⟨World.ownsRow_nil _ _ _ _⟩
      have HBs : Box (B ≤ wr.heap.size) := ⟨by omega⟩
      clear HL HL1 hnode hk hB
      go_wp2_with fail
      clear hkn
      go_loopw [6, 46] (fun v i wr => ∃ (k : Nat) (W : List Nat), k ≤ m ∧ i = .int .i64 k ∧ Box (W.length = n) ∧ Box (IsW wr b g W) ∧ Box (Ring W 0 (dn 3 k)) ∧ Box (∀ j, j = 1 ∨ j = 2 ∨ 3 + k ≤ j → j < m1 → Lone W (3 * j)) ∧ Box (wr.ownsRow B 3 1 v (dn 3 k).length (icells (dn 3 k))) ∧ Box (B ≤ wr.heap.size) ∧ Box (Keeps (fun _ => False) w wr)) (fun _ i _ => m - (intOf i).toNat)
      case atStart => exact ⟨0, W, Nat.zero_le _, rfl, HW, HI, HR, HL2, HO, HBs, K⟩
      case round =>
        clear HW HI HR HL2 K HO HBs
        obtain ⟨k, W, hk, rfl, HW, HI, HR, HL, HO, HBs, K⟩ := hrel
        by_cases hkn : k < m
        · have hk1 : (k : Int) < (m : Int) := by omega
          obtain ⟨i1, hi1⟩ : ∃ i1 : Nat, 3 + k = i1 := ⟨_, rfl⟩
          have hi13 : 3 + (k : Int) = (i1 : Int) := by omega
          obtain ⟨q, hq⟩ : ∃ q : Nat, 3 * i1 = q := ⟨_, rfl⟩
          have hq3 : 3 * (i1 : Int) = (q : Int) := by omega
          have Hq := Box.mk (And.intro hi1 hq)
          clear hq hi1
          have hi1b : i1 ≤ 100 := by have := Hq.out; omega
          have HQ : Box (Node W q) := ⟨⟨by have := Hq.out; omega, by have := Hq.out; have := HW.out; have := Hn.out; omega⟩⟩
          have HX := Box.mk (HR.out.node _ (ring_next HR.out (k := 0) (by simp)))
          have HP := Box.mk (HR.out.node 0 (by simp))
          have Hnq : Box (q ∉ 0 :: dn 3 k) := ⟨fun h => by
            have := Hq.out
            rcases List.mem_cons.1 h with h | h
            · omega
            · obtain ⟨j, h1, h2, h3⟩ := dn_mem h; omega⟩
          go_wp2_with fail
          refine (rinsert_is (p := 0) (q := q) (x := wat W (0 + 2)) HI.out HP.out.2 HQ.out.2 rfl HX.out.2).mono ?_
          rintro e w3 ⟨rfl, h3, k3⟩
          have H3 := Box.mk h3
          have K3 := Box.mk (K.out.ring k3 Hb.out.1 Hb.out.2)
          have HW3 : Box ((setAll W [(q, 1, 0), (q, 2, wat W (0 + 2)), (0, 2, q), (wat W (0 + 2), 1, q)]).length = n) := ⟨by rw [setAll_length]; exact HW.out⟩
          have e : q = 3 * (3 + k) := by have := Hq.out; omega
          have HD : Box (dn 3 (k + 1) = q :: dn 3 k) := ⟨by rw [e]; rfl⟩
          have HR3 : Box (Ring (setAll W [(q, 1, 0), (q, 2, wat W (0 + 2)), (0, 2, q), (wat W (0 + 2), 1, q)]) 0 (dn 3 (k + 1))) := ⟨by
            have h := ring_insert HR.out HQ.out Hnq.out
            rw [HD.out]
            exact h⟩
          have HL3 : Box (∀ j, j = 1 ∨ j = 2 ∨ 3 + (k + 1) ≤ j → j < m1 → Lone (setAll W [(q, 1, 0), (q, 2, wat W (0 + 2)), (0, 2, q), (wat W (0 + 2), 1, q)]) (3 * j)) := ⟨fun j hj hjm => lone_insert HR.out HQ.out ⟨by omega, by have := HW.out; have := Hn.out; omega⟩ (HL.out j (by omega) hjm) (fun h => by
            rcases List.mem_cons.1 h with h | h
            · omega
            · obtain ⟨j', h1, h2, h3⟩ := dn_mem h; omega) (by omega)⟩
          generalize setAll W [(q, 1, 0), (q, 2, wat W (0 + 2)), (0, 2, q), (wat W (0 + 2), 1, q)] = W3 at *
          have O3 := Box.mk (k3.own2 HO.out (fun z hz hf => by have := (HO.out.lt z hz).1; have := HB.out; unfold foot at hf; omega))
          have hB3 : B ≤ w3.heap.size := by have := k3.size; have := HBs.out; omega
          clear h3 k3 HI K HW HL HR HQ HX HP Hnq e HO HBs
          have A3 := Box.mk (show (w3.alloc (.cells #[.int .i64 q] 3)).ownsRow w3.heap.size 3 1 (.slice (some ⟨w3.heap.size, 0, none⟩) 1 1) 1 [.int .i64 q] from World.ownsRow_lit w3 #[.int .i64 q] 1 (Nat.le_refl _) (by decide) rfl)
          have O4 := Box.mk (O3.out.alloc (.cells #[.int .i64 q] 3))
          rcases HOS : O4.out.2 with ⟨hu6, h0⟩ | ⟨gg, cap, cur, hu6, hbg, hh, hnn, hmm, hcs, htt⟩
          · have hk00 : dn 3 k = [] := List.eq_nil_of_length_eq_zero h0
            subst hu6
            clear HOS
            go_wp2_with (at_builtin; refine wpList_append_own_none rfl _ _ 34 rfl w3.heap.size 3 i0 1 Try.underlying34 Hi.out.1 (.slice (some ⟨w3.heap.size, 0, none⟩) 1 1) 1 [.int .i64 q] rfl A3.out rfl ?c1)
            have O5 : Box ((w3.alloc (.cells #[.int .i64 q] 3)).ownsRow B 3 1 (.slice (some ⟨w3.heap.size, 0, none⟩) 1 1) (dn 3 (k + 1)).length (icells (dn 3 (k + 1)))) := ⟨by
              rw [HD.out, hk00]
              exact ⟨A3.out.1, A3.out.2.imp id (fun ⟨g1, c1, u1, x1, x2, x3⟩ => ⟨g1, c1, u1, x1, by omega, x3⟩)⟩⟩
            have H5 := Box.mk (H3.out.keeps0 ((Keeps.refl (fun _ => False) w3).alloc (.cells #[.int .i64 q] 3)))
            have K5 := Box.mk (K3.out.alloc (.cells #[.int .i64 q] 3))
            have HBs5 : Box (B ≤ (w3.alloc (.cells #[.int .i64 q] 3)).heap.size) := ⟨by simp; omega⟩
            clear O3 O4 A3 H3 K3 h0 hk00
            go_wp2_with fail
            go_roundw
            case rel => exact ⟨k + 1, W3, by omega, by go_num, HW3, H5, HR3, HL3, O5, HBs5, K5⟩
            case measure => simp [intOf]; omega
          · subst hu6
            have Hc := Box.mk (O4.out.cells (g := gg) rfl)
            have hlen := dn_length 3 k
            have Hlen := Box.mk hlen
            clear HOS hh hcs htt
            rw [hlen] at hnn ⊢
            go_wp2_with (at_builtin; refine wpList_append_own _ rfl _ _ 34 rfl w3.heap.size 3 i0 _ 1 8 Try.underlying34 Hi.out.1 Hi.out.2.1 Hi.out.2.2.1 Hi.out.2.2.2 rfl (by decide) (.slice (some ⟨w3.heap.size, 0, none⟩) 1 1) 1 _ rfl A3.out ⟨gg, 0, none⟩ k cap (icells (dn 3 k)) rfl (by simp [icells, dn_length]) ?d1 ?d2 ?d3 ?d4 ?d5 ?d6)
            case d1 => exact Hc.out
            case d2 => intro u hu; simp only [icells, List.mem_map] at hu; obtain ⟨x, -, rfl⟩ := hu; rfl
            case d3 => unfold maxLen; omega
            case d4 => omega
            case d5 => simp
            case d6 =>
              intro v6 w6 hown6 hgr6 _
              have O5 : Box (w6.ownsRow B 3 1 v6 (dn 3 (k + 1)).length (icells (dn 3 (k + 1)))) := ⟨by
                have h : w6.ownsRow w3.heap.size 3 1 v6 (dn 3 (k + 1)).length (icells (dn 3 (k + 1))) := by
                  rw [HD.out, List.length_cons, Hlen.out, Nat.add_comm]
                  exact hown6
                exact ⟨h.1, h.2.imp id (fun ⟨g1, c1, u1, x1, x2, x3⟩ => ⟨g1, c1, u1, x1, by omega, x3⟩)⟩⟩
              have k6 : Keeps (fun z => z = w3.heap.size) w3 w6 := ((Keeps.refl (fun z => z = w3.heap.size) w3).alloc (.cells #[.int .i64 q] 3)).grown hgr6 (fun k hk _ => by simpa [Value.ownBlock] using hk.symm)
              have H5 := Box.mk (H3.out.keeps k6 (fun h => by have := HB.out; omega) (fun h => by have := HB.out; omega))
              have K5 := Box.mk (K3.out.trans' k6 (by intro i hi h; have := K3.out.size; omega))
              have HBs5 : Box (B ≤ w6.heap.size) := ⟨by have := k6.size; omega⟩
              clear O3 O4 A3 H3 K3 hown6 hgr6 k6 Hc hnn hmm hbg hlen Hlen
              go_wp2_with fail
              go_roundw
              case rel => exact ⟨k + 1, W3, by omega, by go_num, HW3, H5, HR3, HL3, O5, HBs5, K5⟩
              case measure => simp [intOf]; omega
        · have hkm : k = m := by omega
          subst hkm
          have hw5 := (HL.out 1 (by omega) (by have := Hn.out; omega)).2
          have HRs := HR.out
          have H6 := Box.mk (lone_ring (HL.out 2 (by omega) (by have := Hn.out; omega)) ⟨by omega, by have := HW.out; have := Hn.out; omega⟩)
          have hnl : 9 ≤ W.length := by have := HW.out; have := Hn.out; omega
          have HV : Box (IsRow .i64 wr u6 ((dn 3 k).map (fun x : Nat => (x : Int)))) := ⟨row_of_own HO.out (fun x hx => dn_le hx (by omega))⟩
          have Hdl := Box.mk (dn_length 3 k)
          have Hw5 := Box.mk hw5
          have Hnl := Box.mk hnl
          clear hw5 hnl HRs HW HL hm3 hn3 hnb
          go_wp2_with fail
          refine (rjoin_none (p := 0) (q := 3) HI.out (by have := Hnl.out; omega) (by have := Hnl.out; omega) Hw5.out).mono ?_
          rintro e w3 ⟨rfl, h3, k3⟩
          have H3 := Box.mk h3
          have K3 := Box.mk (K.out.ring k3 Hb.out.1 Hb.out.2)
          have O3 := Box.mk (k3.own2 HO.out (fun z hz hf => by have := (HO.out.lt z hz).1; have := HB.out; unfold foot at hf; omega))
          clear h3 k3 HI K HO HV
          cases hdn : dn 3 k with
          | nil =>
            rw [hdn] at HR O3 Hdl
            have hk0 : k = 0 := by have := Hdl.out; simp at this; omega
            subst hk0
            have Hl0 := Box.mk (ring_lone HR.out)
            clear hdn
            go_wp2_with fail
            refine (rjoin_none (p := 6) (q := 0) H3.out (by have := Hnl.out; omega) (by have := Hnl.out; omega) Hl0.out.2).mono ?_
            rintro e w4 ⟨rfl, h4, k4⟩
            have H4 := Box.mk h4
            have K4 := Box.mk (K3.out.ring k4 Hb.out.1 Hb.out.2)
            have O4 := Box.mk (k4.own2 O3.out (fun z hz hf => by have := (O3.out.lt z hz).1; have := HB.out; unfold foot at hf; omega))
            clear h4 k4 H3 K3 O3
            have HR6 : Box (Ring W 6 []) := H6
            have Hq : Box (wat W (0 + 2) = 0) := ⟨Hl0.out.2⟩
            have Hnl4 := Hnl
            clear H6
            go_wp2_with fail
            refine (rjoin_none (p := 6) (q := 0) H4.out (by have := Hnl4.out; omega) (by have := Hnl4.out; omega) Hq.out).mono ?_
            rintro e w5 ⟨rfl, h5, k5⟩
            have H5 := Box.mk h5
            have K5 := Box.mk (K4.out.ring k5 Hb.out.1 Hb.out.2)
            have O5 := Box.mk (k5.own2 O4.out (fun z hz hf => by have := (O4.out.lt z hz).1; have := HB.out; unfold foot at hf; omega))
            clear h5 k5 H4 K4 O4
            go_wp2_with fail
            refine (around_is (h := 6) (most := 0) H5.out HR6.out (by have := Hdl.out; simp at this ⊢ <;> omega) (by omega)).mono ?_
            rintro e w6 ⟨v6, rfl, h6, h6i, k6⟩
            have V6 := Box.mk (row_of_own h6 (by intro x hx; cases hx))
            have O6 := Box.mk (k6.own2 O5.out (fun z hz hf => by have := (O5.out.lt z hz).1; have := HB.out; unfold foot at hf; omega))
            have V6' := Box.mk (row_of_own O6.out (by intro x hx; cases hx))
            have K6 := Box.mk (K5.out.ring k6 Hb.out.1 Hb.out.2)
            clear h6 h6i k6 H5 K5 O5 O6
            go_wp2_with fail
            refine (same04_is V6.out V6'.out).mono ?_
            rintro e w7 ⟨rfl, qq, rfl⟩
            go_wp2_with fail
            go_ret
            exact ⟨rfl, (K6.out.drewN qq).below (Nat.le_refl _) (fun _ h => h.elim)⟩
          | cons f M =>
            rw [hdn] at HR O3 Hdl
            have hpq : ∀ u ∈ [6], u ∉ 0 :: f :: M := by
              intro u hu hu'
              simp only [List.mem_singleton] at hu
              subst hu
              rcases List.mem_cons.1 hu' with h | h
              · omega
              · rw [← hdn] at h
                obtain ⟨j, h1, h2, h3⟩ := dn_mem h
                omega
            have hfm : f ∈ dn 3 k := by rw [hdn]; simp
            have hf0 : ¬ f = 0 := by
              obtain ⟨j, h1, h2, h3⟩ := dn_mem hfm
              omega
            have hf0' : ((f : Int) == ((0 : Nat) : Int)) = false := by rw [beq_eq_false_iff_ne]; omega
            obtain ⟨hj1, hj2⟩ := ring_join H6.out HR.out hpq
            have nf := HR.out.node f (by simp)
            have nl := HR.out.node (lastOf f M) (List.mem_cons_of_mem _ (lastOf_mem f M))
            have wf := HR.out.path.1.1
            have wl := HR.out.back.2
            have wz := H6.out.back.2
            rw [show lastOf 0 (f :: M) = lastOf f M from rfl] at wl
            rw [show lastOf 6 [] = 6 from rfl] at hj1 hj2 wz
            obtain ⟨l, hl⟩ : ∃ l, lastOf f M = l := ⟨_, rfl⟩
            rw [hl] at hj1 hj2 nl wl
            have Hnl4 : Box (9 ≤ (setAll W [(6, 2, f), (f, 1, 6), (l, 2, 6), (6, 1, l), (0, 1, 0), (0, 2, 0)]).length) := ⟨by rw [setAll_length]; exact Hnl.out⟩
            have HR6 : Box (Ring (setAll W [(6, 2, f), (f, 1, 6), (l, 2, 6), (6, 1, l), (0, 1, 0), (0, 2, 0)]) 6 (f :: M)) := ⟨hj1⟩
            have Hq : Box (wat (setAll W [(6, 2, f), (f, 1, 6), (l, 2, 6), (6, 1, l), (0, 1, 0), (0, 2, 0)]) (0 + 2) = 0) := ⟨hj2.2⟩
            have HF := Box.mk (And.intro nf.2 (And.intro nl.2 (And.intro wf (And.intro wl (And.intro wz hf0')))))
            have HD := Box.mk hdn
            clear hj1 hj2 nf nl wf wl wz hl hdn hpq hfm hf0 H6 hf0'
            go_wp2_with fail
            refine (rjoin_is (p := 6) (q := 0) (f := f) (l := l) (z := 6) H3.out (by have := Hnl.out; omega) (by have := Hnl.out; omega) HF.out.2.2.1 HF.out.2.2.2.1 HF.out.2.2.2.2.1 HF.out.1 HF.out.2.1 (by have := Hnl.out; omega) HF.out.2.2.2.2.2).mono ?_
            rintro e w4 ⟨rfl, h4, k4⟩
            have H4 := Box.mk h4
            generalize setAll W [(6, 2, f), (f, 1, 6), (l, 2, 6), (6, 1, l), (0, 1, 0), (0, 2, 0)] = W at *
            have K4 := Box.mk (K3.out.ring k4 Hb.out.1 Hb.out.2)
            have O4 := Box.mk (k4.own2 O3.out (fun z hz hf => by have := (O3.out.lt z hz).1; have := HB.out; unfold foot at hf; omega))
            clear h4 k4 H3 K3 O3 HF
            go_wp2_with fail
            refine (rjoin_none (p := 6) (q := 0) H4.out (by have := Hnl4.out; omega) (by have := Hnl4.out; omega) Hq.out).mono ?_
            rintro e w5 ⟨rfl, h5, k5⟩
            have H5 := Box.mk h5
            have K5 := Box.mk (K4.out.ring k5 Hb.out.1 Hb.out.2)
            have O5 := Box.mk (k5.own2 O4.out (fun z hz hf => by have := (O4.out.lt z hz).1; have := HB.out; unfold foot at hf; omega))
            clear h5 k5 H4 K4 O4
            go_wp2_with fail
            refine (around_is (h := 6) (most := k) H5.out HR6.out (by have := Hdl.out; simp at this ⊢ <;> omega) (by omega)).mono ?_
            rintro e w6 ⟨v6, rfl, h6, h6i, k6⟩
            have V6 := Box.mk (row_of_own h6 (by intro x hx; rw [← HD.out] at hx; exact dn_le hx (by omega)))
            have O6 := Box.mk (k6.own2 O5.out (fun z hz hf => by have := (O5.out.lt z hz).1; have := HB.out; unfold foot at hf; omega))
            have V6' := Box.mk (row_of_own O6.out (by intro x hx; rw [← HD.out] at hx; exact dn_le hx (by omega)))
            have K6 := Box.mk (K5.out.ring k6 Hb.out.1 Hb.out.2)
            clear h6 h6i k6 H5 K5 O5 O6
            go_wp2_with fail
            refine (same04_is V6.out V6'.out).mono ?_
            rintro e w7 ⟨rfl, qq, rfl⟩
            go_wp2_with fail
            go_ret
            exact ⟨rfl, (K6.out.drewN qq).below (Nat.le_refl _) (fun _ h => h.elim)⟩

end Go.Proofs.Ytlbmknnpglandaa
