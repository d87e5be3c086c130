/- StoreCopies's walk: what is done with a copy is nothing to the store, and the other way round. -/
import Derived.Test.YtlbmknnpglandaaStore3
namespace Go.Proofs.Ytlbmknnpglandaa
set_option linter.unusedVariables false
set_option linter.unusedSimpArgs false
open Go.RowKit

/-- A row of the call's own stays, if what is written lies below its base or elsewhere. -/
theorem Keeps.own {S : Nat → Prop} {w w' : World} (h : Keeps S w w') {base : Nat} {e : TypeId} {size : Nat} {v : Value} {n : Nat} {xs : List Value}
    (hr : w.ownsRow base e size v n xs) (hs : ∀ k, v.ownBlock = some k → ¬ S k) : w'.ownsRow base e size v n xs := by
  obtain ⟨h1, h2⟩ := hr
  refine ⟨h1, ?_⟩
  rcases h2 with h2 | ⟨g', cap, cur, hv, hg, hh, r⟩
  · exact .inl h2
  · subst hv
    exact .inr ⟨_, _, cur, rfl, hg, by rw [h.block _ (Array.getElem?_eq_some_iff.1 hh).1 (hs _ rfl)]; exact hh, r⟩

/-- Set, whatever the place: some word may be another one, and nothing else. -/
theorem set_any (i v : Int) (w : World) (s : SSt) (hs : IsStore w s) :
    Calls Try.prog 12 #[.pointer (some ⟨s.b, 0, none⟩), .int .i64 i, .int .u64 v] w fun e w' => ∃ (r : Value) (ws : List Int) (q : Int), e = .returned r ∧ ws.length = s.ws.length ∧ IsStore w' ⟨s.b, s.g, s.c, ws, q⟩ ∧ Keeps s.foot w w' := by
  by_cases h : s.has i
  · refine (set_at hs h rfl).mono ?_
    rintro e w' ⟨rfl, h1, h2⟩
    exact ⟨_, (s.put i v).ws, (s.put i v).k, rfl, by simp [SSt.put], h1, h2⟩
  · refine (set_no i v w s hs h).mono ?_
    rintro e w' ⟨rfl, rfl⟩
    exact ⟨_, s.ws, s.k, rfl, rfl, hs, Keeps.refl _ _⟩

set_option maxRecDepth 100000 in
set_option maxHeartbeats 4000000 in
theorem StoreCopies_walk (n : Int) (pa : Value) (as_ : List Int) (pb : Value) (bs : List Int) (w : World) (hn : (Lit.int .i64 n).wf = true) (hpa : IsRow .i64 w pa as_) (hpb : IsRow .i64 w pb bs) :
    Calls Try.prog 7 #[.int .i64 n, pa, pb] w fun e w' => e = .returned (.bool true) ∧ Below w.heap.size w w' := by
  clear hn
  have hb := umod_bd n 200 (by omega) (by omega)
  obtain ⟨aa, alen, acap, rfl⟩ := hpa.form
  obtain ⟨hlen, hmax⟩ := hpa.len
  obtain ⟨ba, blen, bcap, rfl⟩ := hpb.form
  obtain ⟨hlen2, hmax2⟩ := hpb.len
  unfold maxLen at hmax hmax2
  have HA := Box.mk hpa
  have HB := Box.mk hpb
  obtain ⟨i0, hi, hz0, hz1, hz2⟩ := info_parts info_u64
  have Hi := Box.mk (And.intro hi (And.intro hz0 (And.intro hz1 hz2)))
  clear hpa hlen hpb hlen2 hi hz0 hz1 hz2
  go_enter Try.func7, Try.ntmps7
  go_wp2_with fail
  generalize wrap64 ((IntKind.u64.wrap n).tmod 200) = m at hb ⊢
  generalize IntKind.u64.wrap n = n1
  generalize n1.tmod 200 = n2
  obtain ⟨m, rfl⟩ := Int.eq_ofNat_of_zero_le hb.1
  obtain ⟨-, hm⟩ := hb
  refine (new_ok m _ (by omega) (by omega)).mono ?_
  rintro e w1 ⟨⟨b, g, c, ws, k⟩, rfl, hs, hws, hk, k1, hb, hg⟩
  simp only at hws hk hb hg
  subst hws hk
  have Hs : Box (IsStore w1 ⟨b, g, c, List.replicate m 0, 0⟩) := ⟨by simpa using hs⟩
  have K1 := Box.mk k1
  clear hs k1
  go_wp2_with fail
  refine (awake03 _).mono ?_
  rintro e w3 ⟨rfl, k3⟩
  have K3 := Box.mk (K1.out.trans k3)
  have Hs3 := Box.mk (Hs.out.keeps k3 (fun h => h) (fun h => h))
  clear k3 K1 Hs
  by_cases hl : 300 < alen
  · go_wp2_with fail
    refine (awake03 _).mono ?_
    rintro e w4 ⟨rfl, k4⟩
    have K4 := Box.mk (K3.out.trans k4)
    clear k4 K3
    go_wp2_with fail
    go_ret
    exact ⟨rfl, K4.out.below (Nat.le_refl _) (fun _ h => h.elim)⟩
  by_cases hl2 : 300 < blen
  · go_wp2_with fail
    refine (awake03 _).mono ?_
    rintro e w4 ⟨rfl, k4⟩
    have K4 := Box.mk (K3.out.trans k4)
    clear k4 K3
    go_wp2_with fail
    go_ret
    exact ⟨rfl, K4.out.below (Nat.le_refl _) (fun _ h => h.elim)⟩
  go_wp2_with fail
  go_loopw [53] (fun i wr => ∃ (k : Nat) (ws : List Int) (q : Int), k ≤ alen ∧ i = .int .i64 k ∧ Box (ws.length = m) ∧ Box (IsStore wr ⟨b, g, c, ws, q⟩) ∧ Box (Keeps (fun _ => False) w wr)) (fun i _ => alen - (intOf i).toNat)
  case atStart => exact ⟨0, _, _, Nat.zero_le _, rfl, ⟨by simp⟩, Hs3, K3⟩
  case round =>
    clear Hs3 K3
    obtain ⟨k, ws, q, hk, rfl, Hl, Hs, K⟩ := hrel
    by_cases hlt : k < alen
    · obtain ⟨pb, po, rfl, hpb, hcell⟩ := HA.out.cell hlt
      have hcell' := K.out.cell hcell (fun h => h)
      clear hcell
      generalize as_.getD k 0 = at_ at hcell'
      go_wp2_with fail
      refine (set_any _ _ _ ⟨b, g, c, ws, q⟩ Hs.out).mono ?_
      rintro e w4 ⟨r4, ws4, q4, rfl, hl4, hs4, k4⟩
      have Hs4 := Box.mk hs4
      have Hl4 : Box (ws4.length = m) := ⟨hl4.trans Hl.out⟩
      have K4 := Box.mk (K.out.trans' k4 (by intro i hi h; simp only [SSt.foot] at h; omega))
      clear hs4 k4 hl4 Hs Hl K
      go_wp2_with fail
      go_roundw
      case rel => exact ⟨k + 1, _, _, by omega, by go_num, Hl4, Hs4, K4⟩
      case measure => simp [intOf]; omega
    · go_wp2_with fail
      clear hlt hk
      have hlt := Hs.out.lt
      simp only at hlt
      obtain ⟨hltb, hltg⟩ := hlt
      obtain ⟨B, hB⟩ : ∃ B, B = wr.heap.size := ⟨_, rfl⟩
      rw [← hB] at hltb hltg
      have hBle : B ≤ wr.heap.size := by omega
      have hwB : w.heap.size ≤ B := by have := K.out.size; omega
      clear hB
      have Hown : Box (wr.ownsRow B 22 1 (.slice none 0 0) 0 ((ws.take 0).map (Value.int .u64))) := ⟨World.ownsRow_nil _ _ _ _⟩
      go_loopw [11, 66] (fun v i wr => ∃ (j : Nat) (q : Int), j ≤ m ∧ i = .int .i64 j ∧ Box (IsStore wr ⟨b, g, c, ws, q⟩) ∧ Box (wr.ownsRow B 22 1 v j ((ws.take j).map (Value.int .u64))) ∧ B ≤ wr.heap.size ∧ Box (Keeps (fun _ => False) w wr)) (fun _ i _ => m - (intOf i).toNat)
      case atStart => exact ⟨0, _, Nat.zero_le _, rfl, Hs, Hown, hBle, K⟩
      case round =>
        clear Hs K Hown hBle
        obtain ⟨j, q, hj, rfl, Hs, Hown, hBle, K⟩ := hrel
        by_cases hlt : j < m
        · go_wp2_with fail
          refine (get_at (s := ⟨b, g, c, ws, q⟩) Hs.out (by simp only [SSt.has, Hl.out]; omega) rfl rfl).mono ?_
          rintro e w5 ⟨rfl, hs5, k5⟩
          have Hs5 := Box.mk hs5
          have K5 := Box.mk (K.out.trans' k5 (by intro i hi h; simp only [SSt.foot] at h; omega))
          have Hown5 := Box.mk (k5.own Hown.out (by intro k hk h; have := (Hown.out.lt k hk).1; simp only [SSt.foot] at h; omega))
          have hB5 : B ≤ w5.heap.size := by have := k5.size; omega
          clear hs5 k5 Hs K Hown
          have hx : (⟨b, g, c, ws, q⟩ : SSt).at_ (j : Int) = ws.getD j 0 := rfl
          have Hx := Box.mk hx
          clear hx
          generalize (⟨b, g, c, ws, q⟩ : SSt).at_ (j : Int) = x at Hx ⊢
          have Htk : Box ((ws.map (Value.int .u64)).take j ++ [.int .u64 x] = (ws.take (j + 1)).map (Value.int .u64)) := ⟨by
            rw [← List.map_take]
            have hjl : j < ws.length := by rw [Hl.out]; exact hlt
            rw [List.take_succ_eq_append_getElem hjl, List.map_append, Hx.out]
            simp [List.getD, hjl]⟩
          go_wp2_with (at_builtin; go_loud (refine wpList_append_own _ rfl _ _ 41 rfl B 22 i0 (.int .u64 0) 1 8 Try.underlying41 Hi.out.1 Hi.out.2.1 Hi.out.2.2.1 Hi.out.2.2.2 rfl (by decide) u11 j _ rfl (Hown5.out.alloc _) ⟨w5.heap.size, 0, none⟩ 1 1 [.int .u64 x] rfl rfl ?c1 ?c2 ?c3 ?c4 ?c5 ?c6))
          case c1 => intro j u hj; match j, hj with | 0, hj => simp at hj; subst hj; simp [Addr.add]
          case c2 => intro u hu; simp at hu; subst hu; rfl
          case c3 => unfold maxLen; omega
          case c4 => omega
          case c5 => simp; omega
          case c6 =>
            intro v' w6 hown6 hgrow _
            have Hown6 : Box (w6.ownsRow B 22 1 v' (j + 1) ((ws.take (j + 1)).map (Value.int .u64))) := ⟨Htk.out ▸ hown6⟩
            have k6 : Keeps (fun k => B ≤ k) w5 w6 := ((Keeps.refl _ w5).alloc _).grown hgrow (fun k hk _ => (Hown5.out.lt k hk).1)
            have Hs6 := Box.mk (Hs5.out.keeps k6 (by simp only [SSt.touched]; omega) (by simp only [SSt.touched]; omega))
            have K6 : Box (Keeps (fun _ => False) w w6) := ⟨K5.out.trans' k6 (by intro i hi h; omega)⟩
            have hB6 : B ≤ w6.heap.size := by have := k6.size; omega
            clear hown6 hgrow k6 Hs5 K5 Hown5
            go_wp2_with fail
            go_roundw
            case rel => exact ⟨j + 1, _, by omega, by go_num, Hs6, Hown6, hB6, K6⟩
            case measure => simp [intOf]; omega
        · obtain rfl : j = m := by omega
          clear hj
          go_wp2_with fail
          clear hlt
          refine (copy_is _ ⟨b, g, c, ws, q⟩ Hs.out).mono ?_
          rintro e w5 ⟨⟨tb, tg, tc, tws, tq⟩, rfl, ht5, hws, hq, k5, htb, htg⟩
          simp only at hws hq htb htg
          have Htl : Box (tws.length = j) := ⟨by rw [hws]; exact Hl.out⟩
          clear hws hq
          have Ht5 := Box.mk ht5
          have Hs5 := Box.mk (Hs.out.keeps k5 (fun h => h) (fun h => h))
          have K5 := Box.mk (K.out.trans k5)
          have Hown5 := Box.mk (k5.own Hown.out (fun _ _ h => h))
          obtain ⟨C, hC⟩ : ∃ C, C = wr.heap.size := ⟨_, rfl⟩
          rw [← hC] at htb htg hBle
          have Hvlt : Box (∀ k, u11.ownBlock = some k → k < C) := ⟨fun k hk => by have := (Hown.out.lt k hk).2; omega⟩
          clear ht5 Hs k5 K Hown hC
          go_wp2_with fail
          go_loopw [84] (fun i wr => ∃ (k : Nat) (tws : List Int) (tq : Int), k ≤ blen ∧ i = .int .i64 k ∧ Box (tws.length = j) ∧ Box (IsStore wr ⟨tb, tg, tc, tws, tq⟩) ∧ Box (IsStore wr ⟨b, g, c, ws, q⟩) ∧ Box (wr.ownsRow B 22 1 u11 j ((ws.take j).map (Value.int .u64))) ∧ Box (Keeps (fun _ => False) w wr)) (fun i _ => blen - (intOf i).toNat)
          case atStart => exact ⟨0, _, _, Nat.zero_le _, rfl, Htl, Ht5, Hs5, Hown5, K5⟩
          case round =>
            clear Htl Ht5 Hs5 Hown5 K5
            obtain ⟨k, tws, tq, hk, rfl, Htl, Ht, Hs, Hown, K⟩ := hrel
            by_cases hlt : k < blen
            · obtain ⟨pb, po, rfl, hpb, hcell⟩ := HB.out.cell hlt
              have hcell' := K.out.cell hcell (fun h => h)
              clear hcell
              generalize bs.getD k 0 = at_ at hcell'
              go_wp2_with fail
              refine (set_any _ _ _ ⟨tb, tg, tc, tws, tq⟩ Ht.out).mono ?_
              rintro e w6 ⟨r6, ws6, q6, rfl, hl6, hs6, k6⟩
              have Ht6 := Box.mk hs6
              have Hs6 := Box.mk (Hs.out.keeps k6 (by simp only [SSt.foot]; omega) (by simp only [SSt.foot]; omega))
              have Hl6 : Box (ws6.length = j) := ⟨hl6.trans Htl.out⟩
              have K6 := Box.mk (K.out.trans' k6 (by intro i hi h; simp only [SSt.foot] at h; omega))
              have Hown6 := Box.mk (k6.own Hown.out (by intro k hk h; have := Hvlt.out k hk; simp only [SSt.foot] at h; omega))
              clear hs6 k6 hl6 Hs Htl K Ht Hown
              go_wp2_with fail
              go_roundw
              case rel => exact ⟨k + 1, _, _, by omega, by go_num, Hl6, Ht6, Hs6, Hown6, K6⟩
              case measure => simp [intOf]; omega
            · go_wp2_with fail
              clear hlt hk
              go_loopw [93] (fun i wr => ∃ (k : Nat) (q : Int), k ≤ j ∧ i = .int .i64 k ∧ Box (IsStore wr ⟨tb, tg, tc, tws, tq⟩) ∧ Box (IsStore wr ⟨b, g, c, ws, q⟩) ∧ Box (wr.ownsRow B 22 1 u11 j ((ws.take j).map (Value.int .u64))) ∧ Box (Keeps (fun _ => False) w wr)) (fun i _ => j - (intOf i).toNat)
              case atStart => exact ⟨0, _, Nat.zero_le _, rfl, Ht, Hs, Hown, K⟩
              case round =>
                clear Ht Hs Hown K
                obtain ⟨k, q, hk, rfl, Ht, Hs, Hown, K⟩ := hrel
                by_cases hlt : k < j
                · obtain ⟨vg, vc, rfl⟩ : ∃ vg vc, u11 = .slice (some ⟨vg, 0, none⟩) j vc := by
                    rcases Hown.out.2 with ⟨_, h⟩ | ⟨g', cap, cur, h, _⟩
                    · omega
                    · exact ⟨g', cap, h⟩
                  have hvb := Hvlt.out vg rfl
                  have hvB := (Hown.out.lt vg rfl).1
                  go_wp2_with fail
                  refine (get_at (s := ⟨b, g, c, ws, q⟩) Hs.out (by simp only [SSt.has, Hl.out]; omega) rfl rfl).mono ?_
                  rintro e w6 ⟨rfl, hs6, k6⟩
                  have Hs6 := Box.mk hs6
                  have Ht6 := Box.mk (Ht.out.keeps k6 (by simp only [SSt.foot]; omega) (by simp only [SSt.foot]; omega))
                  have K6 := Box.mk (K.out.trans' k6 (by intro i hi h; simp only [SSt.foot] at h; omega))
                  have Hown6 := Box.mk (k6.own Hown.out (by intro k hk h; simp only [Value.ownBlock, Option.some.injEq] at hk; subst hk; simp only [SSt.foot] at h; omega))
                  have hx : (⟨b, g, c, ws, q⟩ : SSt).at_ (k : Int) = ws.getD k 0 := rfl
                  have hcv : w6.cell? ⟨vg, k, none⟩ = some (.int .u64 ((⟨b, g, c, ws, q⟩ : SSt).at_ (k : Int))) := by
                    rw [Hown6.out.cellAt k (by omega), hx]
                    have hkl : k < ws.length := by rw [Hl.out]; exact hlt
                    simp [List.getElem?_take, hlt, List.getD, hkl]
                  clear hx
                  generalize (⟨b, g, c, ws, q⟩ : SSt).at_ (k : Int) = x at hcv ⊢
                  clear hs6 k6 Hs K Ht Hown
                  go_wp2_with fail
                  go_roundw
                  case rel => exact ⟨k + 1, _, by omega, by go_num, Ht6, Hs6, Hown6, K6⟩
                  case measure => simp [intOf]; omega
                · go_wp2_with fail
                  clear hlt hk
                  have hsz := size_is _ _ Ht.out
                  simp only [Htl.out] at hsz
                  refine hsz.mono ?_
                  clear hsz
                  rintro e w7 ⟨rfl, rfl⟩
                  go_wp2_with fail
                  go_ret
                  exact ⟨rfl, K.out.below (Nat.le_refl _) (fun _ h => h.elim)⟩

end Go.Proofs.Ytlbmknnpglandaa
