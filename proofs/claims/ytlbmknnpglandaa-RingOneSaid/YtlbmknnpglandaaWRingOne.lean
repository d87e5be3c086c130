/- RingOne's walk. -/
import Derived.Test.YtlbmknnpglandaaRing4
import Derived.Test.YtlbmknnpglandaaRingLaw2
namespace Go.Proofs.Ytlbmknnpglandaa
set_option linter.unusedVariables false
set_option linter.unusedSimpArgs false
open Go.RowKit

set_option maxRecDepth 100000 in
set_option maxHeartbeats 2000000 in
theorem RingOne_walk (members at_ : Int) (w : World) (hm : (Lit.int .i64 members).wf = true) (ha : (Lit.int .i64 at_).wf = true) :
    Calls Try.prog 8 #[.int .i64 members, .int .i64 at_] w fun e w' => e = .returned (.bool true) ∧ Below w.heap.size w w' := by
  clear hm ha
  obtain ⟨d, hd⟩ : ∃ d : Nat, wrap64 ((IntKind.u64.wrap members).tmod 20) = (d : Int) := ⟨(wrap64 ((IntKind.u64.wrap members).tmod 20)).toNat, by have := umod_bd members 20 (by omega) (by omega); omega⟩
  have hds : d < 20 := by have := umod_bd members 20 (by omega) (by omega); omega
  obtain ⟨m, hm⟩ : ∃ m : Nat, d + 2 = m := ⟨_, rfl⟩
  have hm2 : 2 + (d : Int) = (m : Int) := by omega
  have hmb : 2 ≤ m ∧ m ≤ 21 := by omega
  obtain ⟨m1, hm1⟩ : ∃ m1 : Nat, m + 1 = m1 := ⟨_, rfl⟩
  have hm3 : (m : Int) + 1 = (m1 : Int) := by omega
  obtain ⟨n, hn⟩ : ∃ n : Nat, 3 * m1 = n := ⟨_, rfl⟩
  have hn3 : 3 * (m1 : Int) = (n : Int) := by omega
  have Hn := Box.mk (And.intro hm1 hn)
  clear hm hm1 hn
  have hnb : n ≤ 100 := by have := Hn.out; omega
  go_enter Try.func8, Try.ntmps8
  go_wp2_with fail
  refine (rnew_is n _ (by omega)).mono ?_
  rintro e w1 ⟨b, g, rfl, h1, k1, hb, hg⟩
  have H1 := Box.mk h1
  have K1 := Box.mk k1
  have Hb := Box.mk (And.intro hb hg)
  clear h1 k1 hd hds hm2 hb hg
  go_wp2_with fail
  refine (awake04 _).mono ?_
  rintro e w2 ⟨rfl, k2⟩
  have H2 := Box.mk (H1.out.keeps0 k2)
  have K2 := Box.mk (K1.out.trans k2)
  clear k2 H1 K1
  go_wp2_with fail
  have hm1b : m1 ≤ 22 := by have := Hn.out; omega
  go_loopw [48] (fun i wr => ∃ (k : Nat) (W : List Nat), k ≤ m1 ∧ i = .int .i64 k ∧ Box (W.length = n) ∧ Box (IsW wr b g W) ∧ Box (∀ j, j < k → Lone W (3 * j)) ∧ Box (Keeps (fun _ => False) w wr)) (fun i _ => m1 - (intOf i).toNat)
  case atStart => exact ⟨0, List.replicate n 0, Nat.zero_le _, rfl, ⟨by simp⟩, H2, ⟨fun j hj => by omega⟩, K2⟩
  case round =>
    clear H2 K2
    obtain ⟨k, W, hk, rfl, HW, HI, HL, K⟩ := hrel
    by_cases hkn : k < m1
    · have hk1 : (k : Int) < (m1 : Int) := by omega
      obtain ⟨q, hq⟩ : ∃ q : Nat, 3 * k = q := ⟨_, rfl⟩
      have hq3 : 3 * (k : Int) = (q : Int) := by omega
      have Hq := Box.mk hq
      clear hq
      have hqn : Node W q := ⟨by have := Hq.out; omega, by have := Hq.out; have := HW.out; have := Hn.out; omega⟩
      have HN := Box.mk hqn
      clear hqn
      go_wp2_with fail
      refine (rinit_is (p := q) HI.out HN.out.2).mono ?_
      rintro e w3 ⟨rfl, h3, k3⟩
      have H3 := Box.mk h3
      have K3 := Box.mk (K.out.ring k3 Hb.out.1 Hb.out.2)
      have HW3 : Box ((setAll W [(q, 1, q), (q, 2, q)]).length = n) := ⟨by rw [setAll_length]; exact HW.out⟩
      have HL3 : Box (∀ j, j < k + 1 → Lone (setAll W [(q, 1, q), (q, 2, q)]) (3 * j)) := ⟨fun j hj => lone_init HN.out (by omega) (by
        rcases Nat.lt_or_ge j k with h | h
        · exact Or.inr (HL.out j h)
        · have := Hq.out; exact Or.inl (by omega))⟩
      clear h3 k3 HI K HW HL HN
      go_wp2_with fail
      go_roundw
      case rel => exact ⟨k + 1, _, by omega, by go_num, HW3, H3, HL3, K3⟩
      case measure => simp [intOf]; omega
    · have HL1 : Box (∀ j, j ≤ m → Lone W (3 * j)) := ⟨fun j hj => HL.out j (by have := Hn.out; omega)⟩
      have hnode : ∀ j, j ≤ m → Node W (3 * j) := fun j hj => ⟨by omega, by have := HW.out; have := Hn.out; omega⟩
      have HR : Box (Ring W 0 (dn 1 0)) := ⟨lone_ring (HL1.out 0 (Nat.zero_le _)) (hnode 0 (Nat.zero_le _))⟩
      have HL2 : Box (∀ j, 0 + 1 ≤ j → j ≤ m → Lone W (3 * j)) := ⟨fun j _ hj => HL1.out j hj⟩
      clear HL HL1 hnode hk
      go_wp2_with fail
      clear hkn
      go_loopw [8] (fun i wr => ∃ (k : Nat) (W : List Nat), k + 1 ≤ m ∧ i = .int .i64 (k + 1 : Nat) ∧ Box (W.length = n) ∧ Box (IsW wr b g W) ∧ Box (Ring W 0 (dn 1 k)) ∧ Box (∀ j, k + 1 ≤ j → j ≤ m → Lone W (3 * j)) ∧ Box (Keeps (fun _ => False) w wr)) (fun i _ => m - (intOf i).toNat)
      case atStart => exact ⟨0, W, by omega, rfl, HW, HI, HR, HL2, K⟩
      case round =>
        clear HW HI HR HL2 K
        obtain ⟨k, W, hk, rfl, HW, HI, HR, HL, K⟩ := hrel
        obtain ⟨i1, hi1⟩ : ∃ i1 : Nat, k + 1 = i1 := ⟨_, rfl⟩
        rw [hi1]
        have Hi1 := Box.mk hi1
        have hib : 1 ≤ i1 ∧ i1 ≤ m := by omega
        clear hi1 hk
        by_cases hkn : i1 < m
        · have hk1 : (i1 : Int) < (m : Int) := by omega
          obtain ⟨q, hq⟩ : ∃ q : Nat, 3 * i1 = q := ⟨_, rfl⟩
          have hq3 : 3 * (i1 : Int) = (q : Int) := by omega
          have Hq := Box.mk hq
          clear hq
          have HQ : Box (Node W q) := ⟨⟨by have := Hq.out; omega, by have := Hq.out; have := HW.out; have := Hn.out; omega⟩⟩
          have HX := Box.mk (HR.out.node _ (ring_next HR.out (k := 0) (by simp)))
          have HP := Box.mk (HR.out.node 0 (by simp))
          have Hnq : Box (q ∉ 0 :: dn 1 k) := ⟨fun h => by
            have := Hq.out
            have := Hi1.out
            rcases List.mem_cons.1 h with h | h
            · omega
            · obtain ⟨j, h1, h2, h3⟩ := dn_mem h; omega⟩
          go_wp2_with fail
          refine (rinsert_is (p := 0) (q := q) (x := wat W (0 + 2)) HI.out HP.out.2 HQ.out.2 rfl HX.out.2).mono ?_
          rintro e w3 ⟨rfl, h3, k3⟩
          have H3 := Box.mk h3
          have K3 := Box.mk (K.out.ring k3 Hb.out.1 Hb.out.2)
          have HW3 : Box ((setAll W [(q, 1, 0), (q, 2, wat W (0 + 2)), (0, 2, q), (wat W (0 + 2), 1, q)]).length = n) := ⟨by rw [setAll_length]; exact HW.out⟩
          have HR3 : Box (Ring (setAll W [(q, 1, 0), (q, 2, wat W (0 + 2)), (0, 2, q), (wat W (0 + 2), 1, q)]) 0 (dn 1 (k + 1))) := ⟨by
            have h := ring_insert HR.out HQ.out Hnq.out
            have e : q = 3 * (1 + k) := by have := Hq.out; have := Hi1.out; omega
            show Ring _ 0 (3 * (1 + k) :: dn 1 k)
            rw [← e]
            exact h⟩
          have HL3 : Box (∀ j, (k + 1) + 1 ≤ j → j ≤ m → Lone (setAll W [(q, 1, 0), (q, 2, wat W (0 + 2)), (0, 2, q), (wat W (0 + 2), 1, q)]) (3 * j)) := ⟨fun j hj hjm => lone_insert HR.out HQ.out ⟨by omega, by have := HW.out; have := Hn.out; omega⟩ (HL.out j (by omega) hjm) (fun h => by
            rcases List.mem_cons.1 h with h | h
            · omega
            · obtain ⟨j', h1, h2, h3⟩ := dn_mem h; omega) (by have := Hq.out; have := Hi1.out; omega)⟩
          generalize setAll W [(q, 1, 0), (q, 2, wat W (0 + 2)), (0, 2, q), (wat W (0 + 2), 1, q)] = W3 at *
          clear h3 k3 HI K HW HL HR HQ HX HP Hnq
          go_wp2_with fail
          go_roundw
          case rel => exact ⟨k + 1, W3, by have := Hi1.out; omega, by have := Hi1.out; subst this; go_num, HW3, H3, HR3, HL3, K3⟩
          case measure => simp [intOf]; omega
        · have him : i1 = m := by omega
          subst him
          obtain ⟨e, he⟩ : ∃ e : Nat, wrap64 ((IntKind.u64.wrap at_).tmod (i1 : Int)) = (e : Int) := ⟨(wrap64 ((IntKind.u64.wrap at_).tmod (i1 : Int))).toNat, by have := umod_bd at_ (i1 : Int) (by omega) (by omega); omega⟩
          have hei : e < i1 := by have := umod_bd at_ (i1 : Int) (by omega) (by omega); omega
          obtain ⟨k9, hk9⟩ : ∃ k9 : Nat, 3 * e = k9 := ⟨_, rfl⟩
          have hk93 : 3 * (e : Int) = (k9 : Int) := by omega
          obtain ⟨q, hq⟩ : ∃ q : Nat, 3 * i1 = q := ⟨_, rfl⟩
          have hq3 : 3 * (i1 : Int) = (q : Int) := by omega
          have hkm : k9 ∈ 0 :: dn 1 k := by
            have := Hi1.out
            by_cases h : e = 0
            · subst h; simp at hk9; subst hk9; simp
            · rw [← hk9]; exact List.mem_cons_of_mem _ (mem_dn (by omega) (by omega))
          have hqn : Node W q := ⟨by omega, by have := HW.out; have := Hn.out; omega⟩
          have hqm : q ∉ 0 :: dn 1 k := fun h => by
            have := Hi1.out
            rcases List.mem_cons.1 h with h | h
            · omega
            · obtain ⟨j, h1, h2, h3⟩ := dn_mem h; omega
          have hlq : Lone W q := by rw [← hq]; exact HL.out i1 (by have := Hi1.out; omega) (Nat.le_refl _)
          have hxm := ring_next HR.out hkm
          obtain ⟨s1, s2, s3, s4⟩ := insert_seen HR.out hkm hqn hqm
          obtain ⟨x, hx⟩ : ∃ x, wat W (k9 + 2) = x := ⟨_, rfl⟩
          rw [hx] at hxm s1 s2 s3 s4
          have HX := Box.mk (HR.out.node x hxm)
          have HP := Box.mk (HR.out.node k9 hkm)
          have HQ := Box.mk hqn
          have HS := Box.mk (And.intro s1 (And.intro s2 (And.intro s3 s4)))
          have Hx := Box.mk hx
          have Hlq := Box.mk hlq
          have HWl := HI.out.len
          have hx20 : x ≤ 1048576 := by have := HX.out.2; omega
          have hk20 : k9 ≤ 1048576 := by omega
          have hq20 : q ≤ 1048576 := by omega
          clear s1 s2 s3 s4 hxm hlq hqm hqn hkm hx hq hk9 HR HL HW hei Hn
          go_wp2_with fail
          refine (rbehind_is (p := k9) (x := x) HI.out HP.out.2 Hx.out hx20).mono ?_
          rintro e1 w3 ⟨rfl, h3, k3⟩
          have H3 := Box.mk h3
          have K3 := Box.mk (K.out.ring k3 Hb.out.1 Hb.out.2)
          clear h3 k3 HI K
          go_wp2_with fail
          refine (ralone_is (p := q) (x := q) H3.out HQ.out.2 Hlq.out.2 hq20).mono ?_
          rintro e1 w4 ⟨rfl, h4, k4⟩
          simp only [decide_true]
          have H4 := Box.mk h4
          have K4 := Box.mk (K3.out.ring k4 Hb.out.1 Hb.out.2)
          clear h4 k4 H3 K3
          go_wp2_with fail
          refine (rinsert_is (p := k9) (q := q) (x := x) H4.out HP.out.2 HQ.out.2 Hx.out HX.out.2).mono ?_
          rintro e1 w5 ⟨rfl, h5, k5⟩
          have H5 := Box.mk h5
          have K5 := Box.mk (K4.out.ring k5 Hb.out.1 Hb.out.2)
          have Hlen : Box ((setAll W [(q, 1, k9), (q, 2, x), (k9, 2, q), (x, 1, q)]).length = W.length) := ⟨setAll_length _ _⟩
          generalize setAll W [(q, 1, k9), (q, 2, x), (k9, 2, q), (x, 1, q)] = W5 at *
          clear h5 k5 H4 K4
          go_wp2_with fail
          refine (rbehind_is (p := k9) (x := q) H5.out (by rw [Hlen.out]; exact HP.out.2) HS.out.1 hq20).mono ?_
          rintro e1 w6 ⟨rfl, h6, k6⟩
          have H6 := Box.mk h6
          have K6 := Box.mk (K5.out.ring k6 Hb.out.1 Hb.out.2)
          clear h6 k6 H5 K5
          go_wp2_with fail
          refine (rbehind_is (p := q) (x := x) H6.out (by rw [Hlen.out]; exact HQ.out.2) HS.out.2.1 hx20).mono ?_
          rintro e1 w7 ⟨rfl, h7, k7⟩
          have H7 := Box.mk h7
          have K7 := Box.mk (K6.out.ring k7 Hb.out.1 Hb.out.2)
          clear h7 k7 H6 K6
          go_wp2_with fail
          refine (rahead_is (p := x) (x := q) H7.out (by rw [Hlen.out]; exact HX.out.2) HS.out.2.2.1 hq20).mono ?_
          rintro e1 w8 ⟨rfl, h8, k8⟩
          have H8 := Box.mk h8
          have K8 := Box.mk (K7.out.ring k8 Hb.out.1 Hb.out.2)
          clear h8 k8 H7 K7
          go_wp2_with fail
          refine (rahead_is (p := q) (x := k9) H8.out (by rw [Hlen.out]; exact HQ.out.2) HS.out.2.2.2 hk20).mono ?_
          rintro e1 w9 ⟨rfl, h9, k9'⟩
          have K9 := Box.mk (K8.out.ring k9' Hb.out.1 Hb.out.2)
          clear h9 k9' H8 K8
          go_wp2_with fail
          go_ret
          exact ⟨rfl, K9.out.below (Nat.le_refl _) (fun _ h => h.elim)⟩

end Go.Proofs.Ytlbmknnpglandaa
