/- QueuePlays's walk: in every order of calls events wait, and come out, as the document says. -/
import Derived.Test.YtljmfiegkefpoaaQOps
namespace Go.Proofs.Ytljmfiegkefpoaa
set_option linter.unusedVariables false
set_option linter.unusedSimpArgs false
open Go.RowKit

theorem IsRQ.drewN {w : World} {b : Nat} {v : Value} {l : List (Int × Int)} (h : IsRQ w b v l) (n : Nat) : IsRQ (w.drewN n) b v l := h.keeps0 ((Keeps.refl _ _).drewN n)
theorem IsRQ.drew {w : World} {b : Nat} {v : Value} {l : List (Int × Int)} (h : IsRQ w b v l) : IsRQ w.drew b v l := h.keeps0 ((Keeps.refl _ _).drew)
theorem IsQL.drew {w : World} {b : Nat} {l : List (Int × Int)} (h : IsQL w b l) : IsQL w.drew b l := h.keeps0 ((Keeps.refl _ _).drew)

set_option maxRecDepth 100000 in
set_option maxHeartbeats 8000000 in
theorem QueuePlays_walk (v : Value) (w : World) (hv : Reads Try.prog w 41 v) :
    Calls Try.prog 5 #[v] w fun e w' => e = .returned (.bool true) ∧ Below w.heap.size w w' := by
  obtain ⟨a, n, c, K_, X_, Y_, rfl, hlen, ho⟩ := qops_of_reads hv
  clear hv
  unfold maxLen at hlen
  have HO := Box.mk ho
  clear ho
  go_enter Try.func5, Try.ntmps5
  go_wp2_with fail
  refine (awake20 _).mono ?_
  rintro e w1 ⟨rfl, k1⟩
  have K1 := Box.mk k1
  clear k1
  by_cases h500 : 500 < n
  · go_wp2_with fail
    refine (awake20 _).mono ?_
    rintro e w2 ⟨rfl, k2⟩
    have K2 := Box.mk (K1.out.trans k2)
    clear k2
    go_wp2_with fail
    go_ret
    exact ⟨rfl, K2.out.below (Nat.le_refl _) (fun _ h => h.elim)⟩
  go_wp2_with fail
  refine (lnew_is _).mono ?_
  rintro e w2 ⟨rfl, h2, k2⟩
  obtain ⟨qb, hqb⟩ : ∃ b, w1.heap.size = b := ⟨_, rfl⟩
  rw [hqb] at h2 ⊢
  have hqw : w.heap.size ≤ qb := by have := K1.out.size; omega
  have H2 := Box.mk h2
  have K2 := Box.mk (K1.out.trans k2)
  have hql := h2.lt
  clear hqb h2 k2 K1
  go_wp2_with fail
  obtain ⟨rb, hrb⟩ : ∃ b, w2.heap.size = b := ⟨_, rfl⟩
  have HR : Box (IsRQ (w2.alloc (.cells #[.slice none 0 0] 44)) rb (.slice none 0 0) []) := ⟨⟨by rw [← hrb]; exact heap_alloc_new _ _, World.ownsRow_nil _ _ _ _, by simp [Value.ownBlock], by simp⟩⟩
  have HQ := Box.mk (H2.out.keeps0 ((Keeps.refl (fun _ => False) w2).alloc (.cells #[.slice none 0 0] 44)))
  have HK := Box.mk (K2.out.alloc (.cells #[.slice none 0 0] 44))
  rw [hrb] at hql ⊢
  have hrw : w.heap.size ≤ rb := by omega
  have hne : qb ≠ rb := by omega
  clear hrb hql H2 K2
  go_loopw [3, 25] (fun p i wr => ∃ (j qb : Nat) (v : Value) (l : List (Int × Int)), j ≤ n ∧ i = .int .i64 j ∧ p = .pointer (some ⟨qb, 0, none⟩) ∧ Box (IsQL wr qb l) ∧ Box (IsRQ wr rb v l) ∧ qb ≠ rb ∧ Box (v.ownBlock ≠ some qb) ∧ w.heap.size ≤ qb ∧
      Box (∀ z, v.ownBlock = some z → w.heap.size ≤ z) ∧ Box (Keeps (fun _ => False) w wr)) (fun _ i _ => n - (intOf i).toNat)
  case atStart => exact ⟨0, qb, _, [], Nat.zero_le _, rfl, rfl, HQ, HR, hne, ⟨by simp [Value.ownBlock]⟩, hqw, ⟨by simp [Value.ownBlock]⟩, HK⟩
  case round =>
    clear HQ HR HK hne hqw
    obtain ⟨j, qb, v, l, hj, rfl, rfl, HQ, HR, hne, Hvq, hqw, Hvw, K⟩ := hrel
    by_cases hlt : j < n
    · obtain ⟨ob, oo, rfl, hob, c0, c1, c2⟩ := HO.out.cells j hlt
      have e0 := K.out.cell c0 (fun h => h)
      have e1 := K.out.cell c1 (fun h => h)
      have e2 := K.out.cell c2 (fun h => h)
      have hobr : ob < wr.heap.size := by have := K.out.size; omega
      clear c0 c1 c2
      generalize K_ j = kk at e0
      generalize X_ j = x at e1
      generalize Y_ j = y at e2
      have hqs := HQ.out.lt
      have hrs := HR.out.lt
      have Hvl : Box (∀ z, v.ownBlock = some z → z < wr.heap.size) := ⟨fun z h => (HR.out.row.lt z h).2⟩
      by_cases hk1 : kk = 1
      · subst hk1
        have hqa := HQ.out.keeps0 ((Keeps.refl (fun _ => False) wr).alloc (.cells #[.int .i64 1, .int .i64 x, .int .i64 y] 46))
        have hra := HR.out.keeps0 ((Keeps.refl (fun _ => False) wr).alloc (.cells #[.int .i64 1, .int .i64 x, .int .i64 y] 46))
        have hka := K.out.alloc (.cells #[.int .i64 1, .int .i64 x, .int .i64 y] 46)
        have hsa : (wr.alloc (.cells #[.int .i64 1, .int .i64 x, .int .i64 y] 46)).heap.size = wr.heap.size + 1 := by simp
        have hx1 : (wr.alloc (.cells #[.int .i64 1, .int .i64 x, .int .i64 y] 46)).cell? ⟨wr.heap.size, 1, none⟩ = some (.int .i64 x) := by simp
        have hx2 : (wr.alloc (.cells #[.int .i64 1, .int .i64 x, .int .i64 y] 46)).cell? ⟨wr.heap.size, 2, none⟩ = some (.int .i64 y) := by simp
        go_wp2_with fail
        generalize wr.alloc (.cells #[.int .i64 1, .int .i64 x, .int .i64 y] 46) = wa at hqa hra hka hsa hx1 hx2 ⊢
        obtain ⟨s, hs⟩ : ∃ s, wr.heap.size = s := ⟨_, rfl⟩
        rw [hs] at hsa hx1 hx2 hqs hrs hobr Hvl ⊢
        have Hvs : Box (v.ownBlock ≠ some s) := ⟨fun h => by have := Hvl.out s h; omega⟩
        have HQa := Box.mk hqa
        have HRa := Box.mk hra
        have HKa := Box.mk hka
        clear hqa hra hka HQ HR K e0 e1 e2 hs
        cases hm : evMay x y
        · skip
          go_region_held3 (fun w' => w'.cell? ⟨s, 1, none⟩ = some (.int .i64 x) ∧ w'.cell? ⟨s, 2, none⟩ = some (.int .i64 y))
            (first | go_keep | exact ⟨(k6.cell (k5.cell (k4.cell hx1 (fun h => h)) (fun h => h)) (fun h => h)), (k6.cell (k5.cell (k4.cell hx2 (fun h => h)) (fun h => h)) (fun h => h))⟩ | exact ⟨(k5.cell (k4.cell hx1 (fun h => h)) (fun h => h)), (k5.cell (k4.cell hx2 (fun h => h)) (fun h => h))⟩ | exact ⟨(k4.cell hx1 (fun h => h)), (k4.cell hx2 (fun h => h))⟩)
            (first
              | (go_at_call 14; refine (push_arg qb x y wa.drew hm).mono ?_; rintro e w4 ⟨rfl, k4⟩)
              | (go_at_call 21; refine (kind20_err 2 (by omega) _).mono ?_; rintro e w5 ⟨rfl, k5⟩)
              | (go_at_call 22; refine (rpush_arg (b := rb) (v := v) (l := l) hm).mono ?_; rintro e w6 ⟨rfl, k6⟩))
          have HQz := Box.mk (((HQa.out.drew.keeps0 k4).keeps0 k5).keeps0 k6)
          have HRz := Box.mk (((HRa.out.drew.keeps0 k4).keeps0 k5).keeps0 k6)
          have Kz := Box.mk ((((HKa.out.drew).trans k4).trans k5).trans k6)
          obtain ⟨qbz, hqz⟩ : ∃ z, z = qb := ⟨_, rfl⟩
          rw [← hqz] at HQz Hvq hne hqw ⊢
          have hnez := hne
          have hqwz := hqw
          have Hvqz := Hvq
          have Hvwz := Hvw
          obtain ⟨wz, hwz⟩ : ∃ z, z = w6 := ⟨_, rfl⟩
          rw [← hwz] at HQz HRz Kz ⊢
          clear hqz hwz k4 k5 k6 hx1 hx2 HQa HRa HKa Hvq Hvw Hvs Hvl hm hne hqw
          obtain ⟨lz, hlz⟩ : ∃ z, z = l := ⟨_, rfl⟩
          rw [← hlz] at HQz HRz
          clear hlz
          go_wp2_with fail
          obtain ⟨va, vc, rfl⟩ := HRz.out.evs.form
          have hrz := cell_of_heap HRz.out.head 0
          simp only [List.getElem?_toArray, List.getElem?_cons_zero] at hrz
          have hle := HRz.out.len
          have hln := fun (w : World) (h : IsQL w qbz lz) => llen_is h
          have HE := Box.mk HRz.out.evs
          obtain ⟨fl, hfl⟩ : ∃ fl, lz.length = fl := ⟨_, rfl⟩
          rw [hfl] at hrz hle HRz HE Hvqz Hvwz
          simp only [hfl] at hln
          have HLN := Box.mk hln
          clear hln hfl
          go_region_held3 (fun w' => w'.cell? ⟨rb, 0, none⟩ = some (.slice va fl vc))
            (first | exact k7.cell hrz (fun h => h) | go_keep)
            (first
              | (go_at_call 15; refine (lall_is (show IsQL wz.drew qbz lz from HQz.out.drew)).mono ?_; rintro e w7 ⟨u, rfl, ho7, k7⟩)
              | (go_at_call 18; refine (same_refl (IsEvs.of_own ho7) ((HE.out.keeps0 ((Keeps.refl _ _).drew)).keeps0 k7)).mono ?_; rintro e w8 ⟨rfl, zz, rfl⟩)
              | (go_at_call 16; refine (HLN.out _ ((HQz.out.drew.keeps0 k7).keeps0 ((Keeps.refl _ _).drewN zz))).mono ?_; rintro e w9 ⟨rfl, rfl⟩))
          all_goals
            have HQf := Box.mk ((HQz.out.drew.keeps0 k7).keeps0 ((Keeps.refl _ _).drewN zz))
            have HRf := Box.mk ((HRz.out.drew.keeps0 k7).keeps0 ((Keeps.refl _ _).drewN zz))
            have Kf := Box.mk (((Kz.out.drew).trans k7).drewN zz)
            clear ho7 k7 HQz HRz Kz HE HLN hrz
            go_wp2_with fail
            go_roundw
            case rel => exact ⟨j + 1, qbz, _, lz, by omega, by go_num, rfl, HQf, HRf, hnez, Hvqz, hqwz, Hvwz, Kf⟩
            case measure => simp [intOf]; omega
        · by_cases h16 : l.length < 16
          · skip
            go_region_held3 (fun w' => w'.cell? ⟨s, 1, none⟩ = some (.int .i64 x) ∧ w'.cell? ⟨s, 2, none⟩ = some (.int .i64 y))
              (first | go_keep | exact ⟨(k6.cell (k5.cell (k4.cell hx1 (by show ¬ s = qb; omega)) (fun h => h)) (fun h => h.elim (fun h => by simp only at h; omega) (fun h => Hvs.out h))), (k6.cell (k5.cell (k4.cell hx2 (by show ¬ s = qb; omega)) (fun h => h)) (fun h => h.elim (fun h => by simp only at h; omega) (fun h => Hvs.out h)))⟩ | exact ⟨(k5.cell (k4.cell hx1 (by show ¬ s = qb; omega)) (fun h => h)), (k5.cell (k4.cell hx2 (by show ¬ s = qb; omega)) (fun h => h))⟩ | exact ⟨(k4.cell hx1 (by show ¬ s = qb; omega)), (k4.cell hx2 (by show ¬ s = qb; omega))⟩)
              (first
                | (go_at_call 14; refine (lpush_is (show IsQL wa.drew qb l from HQa.out.drew) h16 hm).mono ?_; rintro e w4 ⟨rfl, hq4, k4⟩)
                | (go_at_call 21; refine (kind20_nil _).mono ?_; rintro e w5 ⟨rfl, k5⟩)
                | (go_at_call 22; refine (rpush_ok (((show IsRQ wa.drew rb v l from HRa.out.drew).keeps k4 (by show ¬ rb = qb; omega) (fun z hz e => Hvq.out (by rw [hz, e]))).keeps0 k5) h16 hm).mono ?_; rintro e w6 ⟨rfl, v', hr6, hvv, k6⟩))
            have HQz := Box.mk ((hq4.keeps0 k5).keeps k6 (fun h => h.elim (fun h => by omega) (fun h => Hvq.out h)))
            have HRz := Box.mk hr6
            have h45 : wa.heap.size ≤ w5.heap.size := by have h1 : wa.heap.size ≤ w4.heap.size := k4.size; have h2 := k5.size; omega
            have Hvqz : Box (v'.ownBlock ≠ some qb) := ⟨fun h => (hvv qb h).elim (fun h => Hvq.out h) (fun h => by omega)⟩
            have Hvwz : Box (∀ z, v'.ownBlock = some z → w.heap.size ≤ z) := ⟨fun z h => (hvv z h).elim (fun h => Hvw.out z h) (fun h => by have := HKa.out.size; omega)⟩
            have Kz := Box.mk ((((HKa.out.drew).trans' k4 (by intro i hi h; omega)).trans k5).trans' k6 (fun i hi h => h.elim (fun h => by omega) (fun h => by have := Hvw.out i h; omega)))
            obtain ⟨qbz, hqz⟩ : ∃ z, z = qb := ⟨_, rfl⟩
            rw [← hqz] at HQz Hvqz hne hqw ⊢
            have hnez := hne
            have hqwz := hqw
            obtain ⟨wz, hwz⟩ : ∃ z, z = w6 := ⟨_, rfl⟩
            rw [← hwz] at HQz HRz Kz ⊢
            clear hqz hwz hr6 hvv k4 k5 k6 h45 hq4 hx1 hx2 HQa HRa HKa Hvq Hvw Hvs Hvl hm h16 hne hqw
            obtain ⟨lz, hlz⟩ : ∃ z, z = l ++ [(x, y)] := ⟨_, rfl⟩
            rw [← hlz] at HQz HRz
            clear hlz
            go_wp2_with fail
            obtain ⟨va, vc, rfl⟩ := HRz.out.evs.form
            have hrz := cell_of_heap HRz.out.head 0
            simp only [List.getElem?_toArray, List.getElem?_cons_zero] at hrz
            have hle := HRz.out.len
            have hln := fun (w : World) (h : IsQL w qbz lz) => llen_is h
            have HE := Box.mk HRz.out.evs
            obtain ⟨fl, hfl⟩ : ∃ fl, lz.length = fl := ⟨_, rfl⟩
            rw [hfl] at hrz hle HRz HE Hvqz Hvwz
            simp only [hfl] at hln
            have HLN := Box.mk hln
            clear hln hfl
            go_region_held3 (fun w' => w'.cell? ⟨rb, 0, none⟩ = some (.slice va fl vc))
              (first | exact k7.cell hrz (fun h => h) | go_keep)
              (first
                | (go_at_call 15; refine (lall_is (show IsQL wz.drew qbz lz from HQz.out.drew)).mono ?_; rintro e w7 ⟨u, rfl, ho7, k7⟩)
                | (go_at_call 18; refine (same_refl (IsEvs.of_own ho7) ((HE.out.keeps0 ((Keeps.refl _ _).drew)).keeps0 k7)).mono ?_; rintro e w8 ⟨rfl, zz, rfl⟩)
                | (go_at_call 16; refine (HLN.out _ ((HQz.out.drew.keeps0 k7).keeps0 ((Keeps.refl _ _).drewN zz))).mono ?_; rintro e w9 ⟨rfl, rfl⟩))
            all_goals
              have HQf := Box.mk ((HQz.out.drew.keeps0 k7).keeps0 ((Keeps.refl _ _).drewN zz))
              have HRf := Box.mk ((HRz.out.drew.keeps0 k7).keeps0 ((Keeps.refl _ _).drewN zz))
              have Kf := Box.mk (((Kz.out.drew).trans k7).drewN zz)
              clear ho7 k7 HQz HRz Kz HE HLN hrz
              go_wp2_with fail
              go_roundw
              case rel => exact ⟨j + 1, qbz, _, lz, by omega, by go_num, rfl, HQf, HRf, hnez, Hvqz, hqwz, Hvwz, Kf⟩
              case measure => simp [intOf]; omega
          · have h16 : l.length = 16 := by have := HQa.out.len; omega
            go_region_held3 (fun w' => w'.cell? ⟨s, 1, none⟩ = some (.int .i64 x) ∧ w'.cell? ⟨s, 2, none⟩ = some (.int .i64 y))
              (first | go_keep | exact ⟨(k6.cell (k5.cell (k4.cell hx1 (fun h => h)) (fun h => h)) (fun h => h)), (k6.cell (k5.cell (k4.cell hx2 (fun h => h)) (fun h => h)) (fun h => h))⟩ | exact ⟨(k5.cell (k4.cell hx1 (fun h => h)) (fun h => h)), (k5.cell (k4.cell hx2 (fun h => h)) (fun h => h))⟩ | exact ⟨(k4.cell hx1 (fun h => h)), (k4.cell hx2 (fun h => h))⟩)
              (first
                | (go_at_call 14; refine (lpush_full (show IsQL wa.drew qb l from HQa.out.drew) h16 hm).mono ?_; rintro e w4 ⟨rfl, k4⟩)
                | (go_at_call 21; refine (kind20_err 18 (by omega) _).mono ?_; rintro e w5 ⟨rfl, k5⟩)
                | (go_at_call 22; refine (rpush_full (((show IsRQ wa.drew rb v l from HRa.out.drew).keeps0 k4).keeps0 k5) h16 hm).mono ?_; rintro e w6 ⟨rfl, k6⟩))
            have HQz := Box.mk (((HQa.out.drew.keeps0 k4).keeps0 k5).keeps0 k6)
            have HRz := Box.mk (((HRa.out.drew.keeps0 k4).keeps0 k5).keeps0 k6)
            have Kz := Box.mk ((((HKa.out.drew).trans k4).trans k5).trans k6)
            obtain ⟨qbz, hqz⟩ : ∃ z, z = qb := ⟨_, rfl⟩
            rw [← hqz] at HQz Hvq hne hqw ⊢
            have hnez := hne
            have hqwz := hqw
            have Hvqz := Hvq
            have Hvwz := Hvw
            obtain ⟨wz, hwz⟩ : ∃ z, z = w6 := ⟨_, rfl⟩
            rw [← hwz] at HQz HRz Kz ⊢
            clear hqz hwz k4 k5 k6 hx1 hx2 HQa HRa HKa Hvq Hvw Hvs Hvl hm hne hqw
            obtain ⟨lz, hlz⟩ : ∃ z, z = l := ⟨_, rfl⟩
            rw [← hlz] at HQz HRz
            clear hlz
            go_wp2_with fail
            obtain ⟨va, vc, rfl⟩ := HRz.out.evs.form
            have hrz := cell_of_heap HRz.out.head 0
            simp only [List.getElem?_toArray, List.getElem?_cons_zero] at hrz
            have hle := HRz.out.len
            have hln := fun (w : World) (h : IsQL w qbz lz) => llen_is h
            have HE := Box.mk HRz.out.evs
            obtain ⟨fl, hfl⟩ : ∃ fl, lz.length = fl := ⟨_, rfl⟩
            rw [hfl] at hrz hle HRz HE Hvqz Hvwz
            simp only [hfl] at hln
            have HLN := Box.mk hln
            clear hln hfl
            go_region_held3 (fun w' => w'.cell? ⟨rb, 0, none⟩ = some (.slice va fl vc))
              (first | exact k7.cell hrz (fun h => h) | go_keep)
              (first
                | (go_at_call 15; refine (lall_is (show IsQL wz.drew qbz lz from HQz.out.drew)).mono ?_; rintro e w7 ⟨u, rfl, ho7, k7⟩)
                | (go_at_call 18; refine (same_refl (IsEvs.of_own ho7) ((HE.out.keeps0 ((Keeps.refl _ _).drew)).keeps0 k7)).mono ?_; rintro e w8 ⟨rfl, zz, rfl⟩)
                | (go_at_call 16; refine (HLN.out _ ((HQz.out.drew.keeps0 k7).keeps0 ((Keeps.refl _ _).drewN zz))).mono ?_; rintro e w9 ⟨rfl, rfl⟩))
            all_goals
              have HQf := Box.mk ((HQz.out.drew.keeps0 k7).keeps0 ((Keeps.refl _ _).drewN zz))
              have HRf := Box.mk ((HRz.out.drew.keeps0 k7).keeps0 ((Keeps.refl _ _).drewN zz))
              have Kf := Box.mk (((Kz.out.drew).trans k7).drewN zz)
              clear ho7 k7 HQz HRz Kz HE HLN hrz
              go_wp2_with fail
              go_roundw
              case rel => exact ⟨j + 1, qbz, _, lz, by omega, by go_num, rfl, HQf, HRf, hnez, Hvqz, hqwz, Hvwz, Kf⟩
              case measure => simp [intOf]; omega
      by_cases hk2 : kk = 2
      · subst hk2
        have hqa := HQ.out.keeps0 ((Keeps.refl (fun _ => False) wr).alloc (.cells #[.int .i64 2, .int .i64 x, .int .i64 y] 46))
        have hra := HR.out.keeps0 ((Keeps.refl (fun _ => False) wr).alloc (.cells #[.int .i64 2, .int .i64 x, .int .i64 y] 46))
        have hka := K.out.alloc (.cells #[.int .i64 2, .int .i64 x, .int .i64 y] 46)
        have hsa : (wr.alloc (.cells #[.int .i64 2, .int .i64 x, .int .i64 y] 46)).heap.size = wr.heap.size + 1 := by simp
        have hx1 : (wr.alloc (.cells #[.int .i64 2, .int .i64 x, .int .i64 y] 46)).cell? ⟨wr.heap.size, 1, none⟩ = some (.int .i64 x) := by simp
        have hx2 : (wr.alloc (.cells #[.int .i64 2, .int .i64 x, .int .i64 y] 46)).cell? ⟨wr.heap.size, 2, none⟩ = some (.int .i64 y) := by simp
        go_wp2_with fail
        generalize wr.alloc (.cells #[.int .i64 2, .int .i64 x, .int .i64 y] 46) = wa at hqa hra hka hsa hx1 hx2 ⊢
        obtain ⟨s, hs⟩ : ∃ s, wr.heap.size = s := ⟨_, rfl⟩
        rw [hs] at hsa hx1 hx2 hqs hrs hobr Hvl ⊢
        have Hvs : Box (v.ownBlock ≠ some s) := ⟨fun h => by have := Hvl.out s h; omega⟩
        have HQa := Box.mk hqa
        have HRa := Box.mk hra
        have HKa := Box.mk hka
        clear hqa hra hka HQ HR K e0 e1 e2 hs
        cases l with
        | nil =>
          refine (lpop_none HQa.out).mono ?_
          rintro e w4 ⟨rfl, k4⟩
          have HQ4 := Box.mk ((HQa.out.keeps0 k4).keeps0 ((Keeps.refl (fun _ => False) w4).alloc (.cells #[.int .i64 0, .int .i64 0] 27)))
          have HR4 := Box.mk ((HRa.out.keeps0 k4).keeps0 ((Keeps.refl (fun _ => False) w4).alloc (.cells #[.int .i64 0, .int .i64 0] 27)))
          have K4 := Box.mk ((HKa.out.trans k4).alloc (.cells #[.int .i64 0, .int .i64 0] 27))
          clear k4 HQa HRa HKa hx1 hx2
          go_wp2_with fail
          refine (rpop_none HR4.out).mono ?_
          rintro e w6 ⟨rfl, k6⟩
          have g6 : w6.heap[w4.heap.size]? = some (.cells #[.int .i64 0, .int .i64 0] 27 (0, 0)) := k6.heap (heap_alloc_new _ _) (fun h => h)
          have d0 := cell_of_heap g6 0
          have d1 := cell_of_heap g6 1
          have hs6 : w4.heap.size < w6.heap.size := (Array.getElem?_eq_some_iff.1 g6).1
          have HQz := Box.mk ((HQ4.out.keeps0 k6).keeps0 ((Keeps.refl (fun _ => False) w6).alloc (.cells #[.int .i64 0, .int .i64 0] 27)))
          have HRz := Box.mk ((HR4.out.keeps0 k6).keeps0 ((Keeps.refl (fun _ => False) w6).alloc (.cells #[.int .i64 0, .int .i64 0] 27)))
          have Kz := Box.mk ((K4.out.trans k6).alloc (.cells #[.int .i64 0, .int .i64 0] 27))
          have hqbz := hqw
          clear k6 HQ4 HR4 K4 g6
          go_wp2_with fail
          have hnez := hne
          have hqwz := hqw
          have Hvqz := Hvq
          have Hvwz := Hvw
          obtain ⟨qbz, hqz⟩ : ∃ z, z = qb := ⟨_, rfl⟩
          rw [← hqz] at HQz Hvqz hnez hqwz ⊢
          obtain ⟨wz, hwz⟩ : ∃ z, z = w6.alloc (.cells #[.int .i64 0, .int .i64 0] 27) := ⟨_, rfl⟩
          rw [← hwz] at HQz HRz Kz ⊢
          clear hqz hwz d0 d1 hs6 Hvq Hvw Hvs Hvl hne hqw hqbz
          obtain ⟨lz, hlz⟩ : ∃ z, z = [] := ⟨_, rfl⟩
          rw [← hlz] at HQz HRz
          clear hlz
          obtain ⟨va, vc, rfl⟩ := HRz.out.evs.form
          have hrz := cell_of_heap HRz.out.head 0
          simp only [List.getElem?_toArray, List.getElem?_cons_zero] at hrz
          have hle := HRz.out.len
          have hln := fun (w : World) (h : IsQL w qbz lz) => llen_is h
          have HE := Box.mk HRz.out.evs
          obtain ⟨fl, hfl⟩ : ∃ fl, lz.length = fl := ⟨_, rfl⟩
          rw [hfl] at hrz hle HRz HE Hvqz Hvwz
          simp only [hfl] at hln
          have HLN := Box.mk hln
          clear hln hfl
          go_region_held3 (fun w' => w'.cell? ⟨rb, 0, none⟩ = some (.slice va fl vc))
            (first | exact k7.cell hrz (fun h => h) | go_keep)
            (first
              | (go_at_call 15; refine (lall_is (show IsQL wz.drew qbz lz from HQz.out.drew)).mono ?_; rintro e w7 ⟨u, rfl, ho7, k7⟩)
              | (go_at_call 18; refine (same_refl (IsEvs.of_own ho7) ((HE.out.keeps0 ((Keeps.refl _ _).drew)).keeps0 k7)).mono ?_; rintro e w8 ⟨rfl, zz, rfl⟩)
              | (go_at_call 16; refine (HLN.out _ ((HQz.out.drew.keeps0 k7).keeps0 ((Keeps.refl _ _).drewN zz))).mono ?_; rintro e w9 ⟨rfl, rfl⟩))
          all_goals
            have HQf := Box.mk ((HQz.out.drew.keeps0 k7).keeps0 ((Keeps.refl _ _).drewN zz))
            have HRf := Box.mk ((HRz.out.drew.keeps0 k7).keeps0 ((Keeps.refl _ _).drewN zz))
            have Kf := Box.mk (((Kz.out.drew).trans k7).drewN zz)
            clear ho7 k7 HQz HRz Kz HE HLN hrz
            go_wp2_with fail
            go_roundw
            case rel => exact ⟨j + 1, qbz, _, lz, by omega, by go_num, rfl, HQf, HRf, hnez, Hvqz, hqwz, Hvwz, Kf⟩
            case measure => simp [intOf]; omega
        | cons p l =>
          obtain ⟨px, py⟩ := p
          refine (lpop_is HQa.out).mono ?_
          rintro e w4 ⟨rfl, hq4, k4⟩
          have h4s : wa.heap.size ≤ w4.heap.size := k4.size
          have HQ4 := Box.mk (hq4.keeps0 ((Keeps.refl (fun _ => False) w4).alloc (.cells #[.int .i64 px, .int .i64 py] 27)))
          have HR4 := Box.mk ((HRa.out.keeps k4 (by show ¬ rb = qb; omega) (fun z hz e => Hvq.out (by rw [hz, e]))).keeps0 ((Keeps.refl (fun _ => False) w4).alloc (.cells #[.int .i64 px, .int .i64 py] 27)))
          have K4 := Box.mk ((HKa.out.trans' k4 (by intro i hi h; omega)).alloc (.cells #[.int .i64 px, .int .i64 py] 27))
          clear hq4 k4 HQa HRa HKa hx1 hx2
          go_wp2_with fail
          refine (rpop_is HR4.out).mono ?_
          rintro e w6 ⟨rfl, v', hr6, hvv, k6⟩
          have g6 : w6.heap[w4.heap.size]? = some (.cells #[.int .i64 px, .int .i64 py] 27 (0, 0)) := k6.heap (heap_alloc_new _ _) (by show ¬ w4.heap.size = rb; omega)
          have d0 := cell_of_heap g6 0
          have d1 := cell_of_heap g6 1
          have hs6 : w4.heap.size < w6.heap.size := (Array.getElem?_eq_some_iff.1 g6).1
          have HQz := Box.mk ((HQ4.out.keeps k6 (by show ¬ qb = rb; omega)).keeps0 ((Keeps.refl (fun _ => False) w6).alloc (.cells #[.int .i64 px, .int .i64 py] 27)))
          have HRz := Box.mk (hr6.keeps0 ((Keeps.refl (fun _ => False) w6).alloc (.cells #[.int .i64 px, .int .i64 py] 27)))
          have h4t : w4.heap.size < (w4.alloc (.cells #[.int .i64 px, .int .i64 py] 27)).heap.size := by simp
          have hww := K4.out.size
          have Hvqz : Box (v'.ownBlock ≠ some qb) := ⟨fun h => by have := hvv qb h; omega⟩
          have Hvwz : Box (∀ z, v'.ownBlock = some z → w.heap.size ≤ z) := ⟨fun z h => by have := hvv z h; omega⟩
          have Kz := Box.mk ((K4.out.trans' k6 (by intro i hi h; omega)).alloc (.cells #[.int .i64 px, .int .i64 py] 27))
          have hnx : (px == px) = true := by simp
          have hny : (py == py) = true := by simp
          clear k6 HQ4 HR4 K4 g6 hvv hr6 h4t hww
          go_wp2_with fail
          have hnez := hne
          have hqwz := hqw
          obtain ⟨qbz, hqz⟩ : ∃ z, z = qb := ⟨_, rfl⟩
          rw [← hqz] at HQz Hvqz hnez hqwz ⊢
          obtain ⟨wz, hwz⟩ : ∃ z, z = w6.alloc (.cells #[.int .i64 px, .int .i64 py] 27) := ⟨_, rfl⟩
          rw [← hwz] at HQz HRz Kz ⊢
          clear hqz hwz d0 d1 hs6 Hvq Hvw Hvs Hvl hne hqw hnx hny h4s
          obtain ⟨lz, hlz⟩ : ∃ z, z = l := ⟨_, rfl⟩
          rw [← hlz] at HQz HRz
          clear hlz
          obtain ⟨va, vc, rfl⟩ := HRz.out.evs.form
          have hrz := cell_of_heap HRz.out.head 0
          simp only [List.getElem?_toArray, List.getElem?_cons_zero] at hrz
          have hle := HRz.out.len
          have hln := fun (w : World) (h : IsQL w qbz lz) => llen_is h
          have HE := Box.mk HRz.out.evs
          obtain ⟨fl, hfl⟩ : ∃ fl, lz.length = fl := ⟨_, rfl⟩
          rw [hfl] at hrz hle HRz HE Hvqz Hvwz
          simp only [hfl] at hln
          have HLN := Box.mk hln
          clear hln hfl
          go_region_held3 (fun w' => w'.cell? ⟨rb, 0, none⟩ = some (.slice va fl vc))
            (first | exact k7.cell hrz (fun h => h) | go_keep)
            (first
              | (go_at_call 15; refine (lall_is (show IsQL wz.drew qbz lz from HQz.out.drew)).mono ?_; rintro e w7 ⟨u, rfl, ho7, k7⟩)
              | (go_at_call 18; refine (same_refl (IsEvs.of_own ho7) ((HE.out.keeps0 ((Keeps.refl _ _).drew)).keeps0 k7)).mono ?_; rintro e w8 ⟨rfl, zz, rfl⟩)
              | (go_at_call 16; refine (HLN.out _ ((HQz.out.drew.keeps0 k7).keeps0 ((Keeps.refl _ _).drewN zz))).mono ?_; rintro e w9 ⟨rfl, rfl⟩))
          all_goals
            have HQf := Box.mk ((HQz.out.drew.keeps0 k7).keeps0 ((Keeps.refl _ _).drewN zz))
            have HRf := Box.mk ((HRz.out.drew.keeps0 k7).keeps0 ((Keeps.refl _ _).drewN zz))
            have Kf := Box.mk (((Kz.out.drew).trans k7).drewN zz)
            clear ho7 k7 HQz HRz Kz HE HLN hrz
            go_wp2_with fail
            go_roundw
            case rel => exact ⟨j + 1, qbz, _, lz, by omega, by go_num, rfl, HQf, HRf, hnez, Hvqz, hqwz, Hvwz, Kf⟩
            case measure => simp [intOf]; omega
      by_cases hk3 : kk = 3
      · subst hk3
        have hqa := HQ.out.keeps0 ((Keeps.refl (fun _ => False) wr).alloc (.cells #[.int .i64 3, .int .i64 x, .int .i64 y] 46))
        have hra := HR.out.keeps0 ((Keeps.refl (fun _ => False) wr).alloc (.cells #[.int .i64 3, .int .i64 x, .int .i64 y] 46))
        have hka := K.out.alloc (.cells #[.int .i64 3, .int .i64 x, .int .i64 y] 46)
        have hsa : (wr.alloc (.cells #[.int .i64 3, .int .i64 x, .int .i64 y] 46)).heap.size = wr.heap.size + 1 := by simp
        have hx1 : (wr.alloc (.cells #[.int .i64 3, .int .i64 x, .int .i64 y] 46)).cell? ⟨wr.heap.size, 1, none⟩ = some (.int .i64 x) := by simp
        have hx2 : (wr.alloc (.cells #[.int .i64 3, .int .i64 x, .int .i64 y] 46)).cell? ⟨wr.heap.size, 2, none⟩ = some (.int .i64 y) := by simp
        go_wp2_with fail
        generalize wr.alloc (.cells #[.int .i64 3, .int .i64 x, .int .i64 y] 46) = wa at hqa hra hka hsa hx1 hx2 ⊢
        obtain ⟨s, hs⟩ : ∃ s, wr.heap.size = s := ⟨_, rfl⟩
        rw [hs] at hsa hx1 hx2 hqs hrs hobr Hvl ⊢
        have Hvs : Box (v.ownBlock ≠ some s) := ⟨fun h => by have := Hvl.out s h; omega⟩
        have HQa := Box.mk hqa
        have HRa := Box.mk hra
        have HKa := Box.mk hka
        clear hqa hra hka HQ HR K e0 e1 e2 hs
        obtain ⟨d, hd⟩ : ∃ d : Int, (l.length : Int) - ((l.filter (fun p => p.1 != x)).length : Int) = d := ⟨_, rfl⟩
        have hdr := ldrop_is x (show IsQL wa.drew qb l from HQa.out.drew)
        have hrd := fun (w : World) (h : IsRQ w rb v l) => rdrop_is x h
        simp only [hd] at hdr hrd
        have HDR := Box.mk hdr
        have HRD := Box.mk hrd
        clear hdr hrd hd
        have hdd : (d != d) = false := by simp
        go_region_held3 (fun w' => w'.cell? ⟨s, 1, none⟩ = some (.int .i64 x) ∧ w'.cell? ⟨s, 2, none⟩ = some (.int .i64 y))
          (first | go_keep | exact ⟨(k6.cell (k4.cell hx1 (by show ¬ s = qb; omega)) (by show ¬ s = rb; omega)), (k6.cell (k4.cell hx2 (by show ¬ s = qb; omega)) (by show ¬ s = rb; omega))⟩ | exact ⟨(k4.cell hx1 (by show ¬ s = qb; omega)), (k4.cell hx2 (by show ¬ s = qb; omega))⟩)
          (first
            | (go_at_call 17; refine HDR.out.mono ?_; rintro e w4 ⟨rfl, hq4, k4⟩)
            | (go_at_call 24; refine (HRD.out _ ((show IsRQ wa.drew rb v l from HRa.out.drew).keeps k4 (by show ¬ rb = qb; omega) (fun z hz e => Hvq.out (by rw [hz, e])))).mono ?_; rintro e w6 ⟨rfl, v', hr6, hvv, k6⟩))
        have HQz := Box.mk (hq4.keeps k6 (by show ¬ qb = rb; omega))
        have HRz := Box.mk hr6
        have h4s : wa.heap.size ≤ w4.heap.size := k4.size
        have hww := HKa.out.size
        have Hvqz : Box (v'.ownBlock ≠ some qb) := ⟨fun h => by have := hvv qb h; omega⟩
        have Hvwz : Box (∀ z, v'.ownBlock = some z → w.heap.size ≤ z) := ⟨fun z h => by have := hvv z h; omega⟩
        have Kz := Box.mk ((((HKa.out.drew).trans' k4 (by intro i hi h; omega))).trans' k6 (by intro i hi h; omega))
        have hnez := hne
        have hqwz := hqw
        obtain ⟨qbz, hqz⟩ : ∃ z, z = qb := ⟨_, rfl⟩
        rw [← hqz] at HQz Hvqz hnez hqwz ⊢
        obtain ⟨wz, hwz⟩ : ∃ z, z = w6 := ⟨_, rfl⟩
        rw [← hwz] at HQz HRz Kz ⊢
        clear hqz hwz k4 k6 hq4 hr6 hvv h4s hww hx1 hx2 HDR HRD HQa HRa HKa Hvq Hvw Hvs Hvl hne hqw
        obtain ⟨lz, hlz⟩ : ∃ z, z = l.filter (fun p => p.1 != x) := ⟨_, rfl⟩
        rw [← hlz] at HQz HRz
        clear hlz
        go_wp2_with fail
        obtain ⟨va, vc, rfl⟩ := HRz.out.evs.form
        have hrz := cell_of_heap HRz.out.head 0
        simp only [List.getElem?_toArray, List.getElem?_cons_zero] at hrz
        have hle := HRz.out.len
        have hln := fun (w : World) (h : IsQL w qbz lz) => llen_is h
        have HE := Box.mk HRz.out.evs
        obtain ⟨fl, hfl⟩ : ∃ fl, lz.length = fl := ⟨_, rfl⟩
        rw [hfl] at hrz hle HRz HE Hvqz Hvwz
        simp only [hfl] at hln
        have HLN := Box.mk hln
        clear hln hfl
        go_region_held3 (fun w' => w'.cell? ⟨rb, 0, none⟩ = some (.slice va fl vc))
          (first | exact k7.cell hrz (fun h => h) | go_keep)
          (first
            | (go_at_call 15; refine (lall_is (show IsQL wz.drew qbz lz from HQz.out.drew)).mono ?_; rintro e w7 ⟨u, rfl, ho7, k7⟩)
            | (go_at_call 18; refine (same_refl (IsEvs.of_own ho7) ((HE.out.keeps0 ((Keeps.refl _ _).drew)).keeps0 k7)).mono ?_; rintro e w8 ⟨rfl, zz, rfl⟩)
            | (go_at_call 16; refine (HLN.out _ ((HQz.out.drew.keeps0 k7).keeps0 ((Keeps.refl _ _).drewN zz))).mono ?_; rintro e w9 ⟨rfl, rfl⟩))
        all_goals
          have HQf := Box.mk ((HQz.out.drew.keeps0 k7).keeps0 ((Keeps.refl _ _).drewN zz))
          have HRf := Box.mk ((HRz.out.drew.keeps0 k7).keeps0 ((Keeps.refl _ _).drewN zz))
          have Kf := Box.mk (((Kz.out.drew).trans k7).drewN zz)
          clear ho7 k7 HQz HRz Kz HE HLN hrz
          go_wp2_with fail
          go_roundw
          case rel => exact ⟨j + 1, qbz, _, lz, by omega, by go_num, rfl, HQf, HRf, hnez, Hvqz, hqwz, Hvwz, Kf⟩
          case measure => simp [intOf]; omega
      have hqa := HQ.out.keeps0 ((Keeps.refl (fun _ => False) wr).alloc (.cells #[.int .i64 kk, .int .i64 x, .int .i64 y] 46))
      have hra := HR.out.keeps0 ((Keeps.refl (fun _ => False) wr).alloc (.cells #[.int .i64 kk, .int .i64 x, .int .i64 y] 46))
      have hka := K.out.alloc (.cells #[.int .i64 kk, .int .i64 x, .int .i64 y] 46)
      have hsa : (wr.alloc (.cells #[.int .i64 kk, .int .i64 x, .int .i64 y] 46)).heap.size = wr.heap.size + 1 := by simp
      have hx1 : (wr.alloc (.cells #[.int .i64 kk, .int .i64 x, .int .i64 y] 46)).cell? ⟨wr.heap.size, 1, none⟩ = some (.int .i64 x) := by simp
      have hx2 : (wr.alloc (.cells #[.int .i64 kk, .int .i64 x, .int .i64 y] 46)).cell? ⟨wr.heap.size, 2, none⟩ = some (.int .i64 y) := by simp
      go_wp2_with fail
      generalize wr.alloc (.cells #[.int .i64 kk, .int .i64 x, .int .i64 y] 46) = wa at hqa hra hka hsa hx1 hx2 ⊢
      obtain ⟨s, hs⟩ : ∃ s, wr.heap.size = s := ⟨_, rfl⟩
      rw [hs] at hsa hx1 hx2 hqs hrs hobr Hvl ⊢
      have Hvs : Box (v.ownBlock ≠ some s) := ⟨fun h => by have := Hvl.out s h; omega⟩
      have HQa := Box.mk hqa
      have HRa := Box.mk hra
      have HKa := Box.mk hka
      clear hqa hra hka HQ HR K e0 e1 e2 hs
      refine (lcopy_is HQa.out).mono ?_
      rintro e w4 ⟨rfl, hc4, k4⟩
      obtain ⟨cb, hcb⟩ : ∃ z, wa.heap.size = z := ⟨_, rfl⟩
      rw [hcb] at hc4 hsa ⊢
      have hc4s := hc4.lt
      have HC4 := Box.mk hc4
      have HQ4 := Box.mk (HQa.out.keeps0 k4)
      have HR4 := Box.mk (HRa.out.keeps0 k4)
      have K4 := Box.mk (HKa.out.trans k4)
      have hcw : w.heap.size ≤ cb := by have := HKa.out.size; omega
      have hcs : s < cb := by omega
      clear hc4 k4 HQa HRa HKa hx1 hx2 hcb hsa
      go_wp2_with fail
      refine (lpop_any HQ4.out).mono ?_
      rintro e w5 ⟨p, ok, rfl, -, hq5, k5⟩
      have HC5 := Box.mk (HC4.out.keeps k5 (by show ¬ cb = qb; omega))
      have HQ5 := Box.mk hq5
      have HR5 := Box.mk (HR4.out.keeps k5 (by show ¬ rb = qb; omega) (fun z hz e => Hvq.out (by rw [hz, e])))
      have K5 := Box.mk (K4.out.trans' k5 (by intro i hi h; omega))
      clear hq5 k5 HC4 HQ4 HR4 K4
      go_wp2_with fail
      refine (lpush_any HQ5.out).mono ?_
      rintro e w6 ⟨r, l6, rfl, -, hq6, k6⟩
      have HQz := Box.mk (HC5.out.keeps k6 (by show ¬ cb = qb; omega))
      have HRz := Box.mk (HR5.out.keeps k6 (by show ¬ rb = qb; omega) (fun z hz e => Hvq.out (by rw [hz, e])))
      have Kz := Box.mk (K5.out.trans' k6 (by intro i hi h; omega))
      clear hq6 k6 HC5 HQ5 HR5 K5
      go_wp2_with fail
      have hnez : cb ≠ rb := by omega
      have hqwz := hcw
      have Hvqz : Box (v.ownBlock ≠ some cb) := ⟨fun h => by have := Hvl.out cb h; omega⟩
      have Hvwz := Hvw
      obtain ⟨qbz, hqz⟩ : ∃ z, z = cb := ⟨_, rfl⟩
      rw [← hqz] at HQz Hvqz hnez hqwz ⊢
      obtain ⟨wz, hwz⟩ : ∃ z, z = w6 := ⟨_, rfl⟩
      rw [← hwz] at HQz HRz Kz ⊢
      clear hqz hwz Hvq Hvw Hvs Hvl hne hqw hcw
      obtain ⟨lz, hlz⟩ : ∃ z, z = l := ⟨_, rfl⟩
      rw [← hlz] at HQz HRz
      clear hlz
      obtain ⟨va, vc, rfl⟩ := HRz.out.evs.form
      have hrz := cell_of_heap HRz.out.head 0
      simp only [List.getElem?_toArray, List.getElem?_cons_zero] at hrz
      have hle := HRz.out.len
      have hln := fun (w : World) (h : IsQL w qbz lz) => llen_is h
      have HE := Box.mk HRz.out.evs
      obtain ⟨fl, hfl⟩ : ∃ fl, lz.length = fl := ⟨_, rfl⟩
      rw [hfl] at hrz hle HRz HE Hvqz Hvwz
      simp only [hfl] at hln
      have HLN := Box.mk hln
      clear hln hfl
      go_region_held3 (fun w' => w'.cell? ⟨rb, 0, none⟩ = some (.slice va fl vc))
        (first | exact k7.cell hrz (fun h => h) | go_keep)
        (first
          | (go_at_call 15; refine (lall_is (show IsQL wz.drew qbz lz from HQz.out.drew)).mono ?_; rintro e w7 ⟨u, rfl, ho7, k7⟩)
          | (go_at_call 18; refine (same_refl (IsEvs.of_own ho7) ((HE.out.keeps0 ((Keeps.refl _ _).drew)).keeps0 k7)).mono ?_; rintro e w8 ⟨rfl, zz, rfl⟩)
          | (go_at_call 16; refine (HLN.out _ ((HQz.out.drew.keeps0 k7).keeps0 ((Keeps.refl _ _).drewN zz))).mono ?_; rintro e w9 ⟨rfl, rfl⟩))
      all_goals
        have HQf := Box.mk ((HQz.out.drew.keeps0 k7).keeps0 ((Keeps.refl _ _).drewN zz))
        have HRf := Box.mk ((HRz.out.drew.keeps0 k7).keeps0 ((Keeps.refl _ _).drewN zz))
        have Kf := Box.mk (((Kz.out.drew).trans k7).drewN zz)
        clear ho7 k7 HQz HRz Kz HE HLN hrz
        go_wp2_with fail
        go_roundw
        case rel => exact ⟨j + 1, qbz, _, lz, by omega, by go_num, rfl, HQf, HRf, hnez, Hvqz, hqwz, Hvwz, Kf⟩
        case measure => simp [intOf]; omega
    · go_wp2_with fail
      go_ret
      exact ⟨rfl, K.out.below (Nat.le_refl _) (fun _ h => h.elim)⟩

end Go.Proofs.Ytljmfiegkefpoaa
