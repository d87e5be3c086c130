/- ScriptBack's walk: acts that can be written are read as they were, and what stands behind them as it is by itself. -/
import Derived.Test.YtljmfiegkefpoaaWScriptPrints
import Derived.Test.YtljmfiegkefpoaaScript17
namespace Go.Proofs.Ytljmfiegkefpoaa
set_option linter.unusedVariables false
set_option linter.unusedSimpArgs false
open Go.RowKit

theorem cutTo_le {s : ByteArray} (h : s.size ≤ 16384) : cutTo s = s := by
  unfold cutTo
  rw [show min s.size 16384 = s.size by omega]
  simp
theorem print_zero {l : List ActI} (h : printE l = 0) : ∃ b, encAll l = some b ∧ b.size ≤ 16384 ∧ printS l = b := by
  unfold printE printS at *
  cases hb : encAll l with
  | none => rw [hb] at h; cases h
  | some b =>
    rw [hb] at h
    simp only at h ⊢
    split at h
    · cases h
    · rename_i h2
      exact ⟨b, rfl, by omega, by rw [if_neg h2]⟩
theorem print_other {l : List ActI} (h : ¬ printE l = 0) : printS l = ⟨#[]⟩ := by
  unfold printE printS at *
  cases hb : encAll l with
  | none => rfl
  | some b =>
    rw [hb] at h
    simp only at h ⊢
    split
    · rfl
    · rename_i h2
      rw [if_neg h2] at h
      exact absurd rfl h
theorem acells_append (a b : List ActI) : acells (a ++ b) = acells a ++ acells b := by simp [acells]
theorem acts_back0 {l : List ActI} {b : ByteArray} (h : encAll l = some b) : (acts b).map Act3.raw = l := by
  have := acts_back ⟨#[]⟩ h
  have e : b ++ (⟨#[]⟩ : ByteArray) = b := by apply ByteArray.ext; simp
  rw [e] at this
  rw [this]
  have : acts ⟨#[]⟩ = [] := by rfl
  rw [this]
  simp

set_option maxRecDepth 100000 in
set_option maxHeartbeats 4000000 in
theorem ScriptBack_walk (u : Value) (more : ByteArray) (w : World) (hu : Reads Try.prog w 53 u) (hmore : more.size ≤ 140737488351232) :
    Calls Try.prog 9 #[u, .string more] w fun e w' => e = .returned (.bool true) ∧ Below w.heap.size w w' := by
  obtain ⟨l, hu, ht, hsp⟩ := acts_of_reads hu
  obtain ⟨i0, hi0, hz0, hz1, hz2⟩ := info_parts info_act
  have Hi := Box.mk (And.intro hi0 (And.intro hz0 (And.intro hz1 hz2)))
  clear hi0 hz0 hz1 hz2
  have HU := Box.mk hu
  have HT := Box.mk ht
  have HS := Box.mk hsp
  clear hu ht hsp
  go_enter Try.func9, Try.ntmps9
  go_wp2_with fail
  refine (awake22 _).mono ?_
  rintro e w1 ⟨rfl, k1⟩
  have K1 := Box.mk k1
  have HU1 := Box.mk (HU.out.keeps0 k1)
  clear k1
  go_wp2_with fail
  refine (great_is HU1.out HT.out).mono ?_
  rintro e w2 ⟨⟨gr, rfl, hgr⟩, k2⟩
  have K2 := Box.mk (K1.out.trans k2)
  have HU2 := Box.mk (HU1.out.keeps0 k2)
  clear k2 K1 HU1
  cases gr with
  | true =>
    clear hgr
    go_wp2_with fail
    refine (awake22 _).mono ?_
    rintro e w3 ⟨rfl, k3⟩
    have K3 := Box.mk (K2.out.trans k3)
    clear k3 K2
    go_wp2_with fail
    go_ret
    exact ⟨rfl, K3.out.below (Nat.le_refl _) (fun _ h => h.elim)⟩
  | false =>
    obtain ⟨hl, hts⟩ := hgr rfl
    have HL := Box.mk hl
    clear hgr hts
    by_cases hbig : 2000 < more.size
    · have hbig2 : (2000 : Int) < (more.size : Int) := by omega
      go_wp2_with fail
      refine (awake22 _).mono ?_
      rintro e w3 ⟨rfl, k3⟩
      have K3 := Box.mk (K2.out.trans k3)
      clear k3 K2
      go_wp2_with fail
      go_ret
      exact ⟨rfl, K3.out.below (Nat.le_refl _) (fun _ h => h.elim)⟩
    · have hbig2 : ¬ (2000 : Int) < (more.size : Int) := by omega
      have Hemp := Box.mk (own_empty w2)
      have K3 := Box.mk (K2.out.alloc (.cells #[] 72))
      have HU3 := Box.mk (HU2.out.keeps0 ((Keeps.refl (fun _ => False) w2).alloc (.cells #[] 72)))
      rcases HS.out with ⟨rfl, rfl⟩ | ⟨ad, n, c, rfl, rfl⟩
      · go_wp2_with (at_builtin; refine wpList_append_own_none rfl _ _ 53 rfl w2.heap.size 72 i0 3 Try.underlying53 Hi.out.1 (.slice (some ⟨w2.heap.size, 0, none⟩) 0 0) 0 [] rfl Hemp.out rfl ?c1)
        have H4 : Box (IsActs (w2.alloc (.cells #[] 72)) (.slice (some ⟨w2.heap.size, 0, none⟩) 0 0) []) := ⟨IsActs.of_own (l := []) Hemp.out⟩
        have K4 := K3
        have HU4 := HU3
        clear Hemp K3 HU3 HU2 K2
        generalize w2.alloc (.cells #[] 72) = w4 at *
        go_wp2_with fail
        refine (print_is H4.out HL.out HT.out).mono ?_
        rintro e w5 ⟨rfl, k5⟩
        have K5 := Box.mk (K4.out.trans k5)
        have HU5 := Box.mk (HU4.out.keeps0 k5)
        clear k5 K4 HU4 H4
        by_cases hpe : printE ([] : List ActI) = 0
        · obtain ⟨b, hb1, hb2, hb3⟩ := print_zero hpe
          rw [hpe, hb3, show errV 0 = .nilIface from rfl]
          have Hb := Box.mk hb1
          clear hpe hb1 hb3
          go_wp2_with fail
          refine (read_is b w5 (by omega)).mono ?_
          rintro e w6 ⟨vr, rfl, h6, k6⟩
          rw [cutTo_le hb2] at h6
          have h6' := IsActs.of_read h6
          rw [acts_back0 Hb.out] at h6'
          have H6 := Box.mk h6'
          have K6 := Box.mk (K5.out.trans k6)
          have HU6 := Box.mk (HU5.out.keeps0 k6)
          clear h6 h6' k6 K5 HU5
          go_wp2_with fail
          refine (same22_is _ _ _ _ _ H6.out HU6.out).mono ?_
          rintro e w7 ⟨rfl, q, rfl⟩
          simp only [decide_true]
          have K7 := Box.mk (K6.out.drewN q)
          have HU7 := Box.mk (HU6.out.keeps0 ((Keeps.refl (fun _ => False) w6).drewN q))
          clear H6 K6 HU6
          generalize w6.drewN q = w7 at *
          by_cases hlong : 16384 < b.size + more.size
          · have hlong2 : (16384 : Int) < (b.size : Int) + (more.size : Int) := by omega
            go_wp2_with fail
            refine (read_is b w7 (by omega)).mono ?_
            rintro e w8 ⟨vr8, rfl, h8, k8⟩
            rw [cutTo_le hb2] at h8
            have h8' := IsActs.of_read h8
            rw [acts_back0 Hb.out] at h8'
            have H8 := Box.mk h8'
            have K8 := Box.mk (K7.out.trans k8)
            have HU8 := Box.mk (HU7.out.keeps0 k8)
            clear h8 h8' k8 K7 HU7
            go_wp2_with fail
            refine (same22_is _ _ _ _ _ H8.out HU8.out).mono ?_
            rintro e w9 ⟨rfl, q, rfl⟩
            simp only [decide_true]
            go_wp2_with fail
            go_ret
            exact ⟨rfl, (K8.out.drewN q).below (Nat.le_refl _) (fun _ h => h.elim)⟩
          · have hlong2 : ¬ (16384 : Int) < (b.size : Int) + (more.size : Int) := by omega
            have hsm : (b ++ more).size ≤ 16384 := by rw [ByteArray.size_append]; omega
            go_wp2_with fail
            refine (read_is (b ++ more) w7 (by omega)).mono ?_
            rintro e w8 ⟨vr8, rfl, h8, k8⟩
            rw [cutTo_le hsm] at h8
            have h8' := IsActs.of_read h8
            rw [acts_back more Hb.out] at h8'
            have H8 := Box.mk h8'
            have K8 := Box.mk (K7.out.trans k8)
            have HU8 := Box.mk (HU7.out.keeps0 k8)
            clear h8 h8' k8 K7 HU7 hsm
            have Hemp8 := Box.mk (own_empty w8)
            have k9a := (Keeps.refl (fun _ => False) w8).alloc (.cells #[] 72)
            go_wp2_with (at_builtin; refine wpList_append_own_none rfl _ _ 53 rfl w8.heap.size 72 i0 3 Try.underlying53 Hi.out.1 (.slice (some ⟨w8.heap.size, 0, none⟩) 0 0) 0 [] rfl Hemp8.out rfl ?g1)
            have Own9 : Box ((w8.alloc (.cells #[] 72)).ownsRow w8.heap.size 72 3 (.slice (some ⟨w8.heap.size, 0, none⟩) 0 0) ([] : List ActI).length (acells [])) := ⟨Hemp8.out⟩
            have KB9 := Box.mk (k9a.mono (S' := fun i => w8.heap.size ≤ i) (fun _ _ h => h.elim))
            clear k9a Hemp8 HU8
            generalize w8.alloc (.cells #[] 72) = w9 at *
            obtain ⟨v9, hv9⟩ : ∃ v9, Value.slice (some ⟨w8.heap.size, 0, none⟩) 0 0 = v9 := ⟨_, rfl⟩
            rw [hv9] at Own9 ⊢
            clear hv9

            have Own9' := Own9.out
            go_wp2_with fail
            refine (read_is more w9 (by omega)).mono ?_
            rintro e w10 ⟨vm, rfl, h10, k10⟩
            rw [cutTo_le (by omega)] at h10
            have Own10 := Box.mk (k10.own Own9.out (fun _ _ h => h))
            have KB10 := Box.mk (KB9.out.trans' k10 (fun i hi h => h.elim))
            have K10 := Box.mk (K8.out.trans' KB10.out (fun i hi h => by have := K8.out.size; omega))
            have hal := acts_length (r := more)
            have h10l := h10.1
            have h10c := h10
            clear k10 Own9 Own9' KB9
            rcases h10.2 with ⟨rfl, h0⟩ | ⟨g, cap, cur, rfl, -⟩
            · have hnil : acts more = [] := List.eq_nil_of_length_eq_zero h0
              rw [hnil, List.map_nil, List.append_nil] at H8
              clear h10 h10c h10l hal h0 hnil
              go_wp2_with (at_builtin; refine wpList_append_own_none rfl _ _ 53 rfl w8.heap.size 72 i0 3 Try.underlying53 Hi.out.1 v9 ([] : List ActI).length (acells ([] : List ActI)) rfl Own10.out rfl ?e1)
              have H10 := Box.mk (H8.out.keepsNew KB10.out (fun i h => h))
              have H11 : Box (IsActs w10 v9 ([] : List ActI)) := ⟨IsActs.of_own Own10.out⟩
              clear H8 Own10 KB10 K8
              go_wp2_with fail
              refine (same22_is _ _ _ _ _ H10.out H11.out).mono ?_
              rintro e w12 ⟨rfl, q, rfl⟩
              simp only [decide_true]
              go_wp2_with fail
              go_ret
              exact ⟨rfl, (K10.out.drewN q).below (Nat.le_refl _) (fun _ h => h.elim)⟩
            · have hsz := KB10.out.size
              have Hc := Box.mk (h10c.cells (g := g) rfl)
              have Hone : Box (∀ u ∈ actCells (acts more), u.oneCell' = true) := ⟨by rw [← acells_raw]; exact acells_one _⟩
              obtain ⟨ms, hms⟩ : ∃ ms, (acts more).length = ms := ⟨_, rfl⟩
              have Hms := Box.mk hms
              rw [hms] at hal h10l ⊢
              have Hal := Box.mk hal
              clear h10 h10c hms
              go_wp2_with (at_builtin; refine wpList_append_own _ rfl _ _ 53 rfl w8.heap.size 72 i0 _ 3 32 Try.underlying53 Hi.out.1 Hi.out.2.1 Hi.out.2.2.1 Hi.out.2.2.2 rfl (by decide) v9 ([] : List ActI).length (acells ([] : List ActI)) rfl Own10.out ⟨g, 0, none⟩ ms cap (actCells (acts more)) rfl h10l ?f1 ?f2 ?f3 ?f4 ?f5 ?f6)
              case f1 => exact Hc.out
              case f2 => exact Hone.out
              case f3 => have := HL.out; unfold maxLen; omega
              case f4 => have := HL.out; omega
              case f5 => omega
              case f6 =>
                intro v11 w11 hown11 hgr11 _
                have H11 : Box (IsActs w11 v11 (([] : List ActI) ++ (acts more).map Act3.raw)) := ⟨IsActs.of_own (base := w8.heap.size) (by rw [List.length_append, List.length_map, acells_append, acells_raw, Hms.out]; first | exact hown11 | (rw [List.length_nil, Nat.zero_add]; exact hown11))⟩
                have k11 : Keeps (fun z => v9.ownBlock = some z) w10 w11 := (Keeps.refl (fun z => v9.ownBlock = some z) w10).grown hgr11 (fun k hk _ => hk)
                have KB11 := KB10.out.trans' k11 (fun i hi h => (Own10.out.lt _ h).1)
                have H12 := Box.mk (H8.out.keepsNew KB11 (fun i h => h))
                have K11 := Box.mk (K8.out.trans' KB11 (fun i hi h => by have := K8.out.size; omega))
                clear hown11 hgr11 k11 KB11 H8 Own10 KB10 K8 K10
                go_wp2_with fail
                refine (same22_is _ _ _ _ _ H12.out H11.out).mono ?_
                rintro e w12 ⟨rfl, q, rfl⟩
                simp only [decide_true]
                go_wp2_with fail
                go_ret
                exact ⟨rfl, (K11.out.drewN q).below (Nat.le_refl _) (fun _ h => h.elim)⟩
        · rw [print_other hpe]
          have hpc : printE ([] : List ActI) = 2 ∨ printE ([] : List ActI) = 14 := by have := print_cases ([] : List ActI); omega
          clear hpe
          rcases hpc with h | h
          · rw [h, show errV 2 = .iface 40 (.int .i64 2) from rfl]
            clear h
            go_wp2_with fail
            go_ret
            exact ⟨rfl, K5.out.below (Nat.le_refl _) (fun _ h => h.elim)⟩
          · rw [h, show errV 14 = .iface 40 (.int .i64 14) from rfl]
            clear h
            go_wp2_with fail
            go_ret
            exact ⟨rfl, K5.out.below (Nat.le_refl _) (fun _ h => h.elim)⟩
      · go_wp2_with (at_builtin; refine wpList_append_own _ rfl _ _ 53 rfl w2.heap.size 72 i0 _ 3 32 Try.underlying53 Hi.out.1 Hi.out.2.1 Hi.out.2.2.1 Hi.out.2.2.2 rfl (by decide) (.slice (some ⟨w2.heap.size, 0, none⟩) 0 0) 0 [] rfl Hemp.out ad l.length c (acells l) rfl (by rw [acells_length]) ?d1 ?d2 ?d3 ?d4 ?d5 ?d6)
        case d1 => exact HU3.out.news
        case d2 => exact acells_one l
        case d3 => unfold maxLen; omega
        case d4 => omega
        case d5 => simp
        case d6 =>
          intro v4 w4 hown4 hgr4 _
          have H4 : Box (IsActs w4 v4 l) := ⟨IsActs.of_own (l := l) hown4⟩
          have k4 : Keeps (fun z => z = w2.heap.size) w2 w4 := ((Keeps.refl (fun z => z = w2.heap.size) w2).alloc (.cells #[] 72)).grown hgr4 (fun k hk _ => by simpa [Value.ownBlock] using hk.symm)
          have K4 := Box.mk (K2.out.trans' k4 (by intro i hi h; have := K2.out.size; omega))
          have HU4 := Box.mk (HU2.out.keepsNew k4 (fun i h => by omega))
          clear hown4 hgr4 k4 Hemp K3 HU3 HU2 K2
          go_wp2_with fail
          refine (print_is H4.out HL.out HT.out).mono ?_
          rintro e w5 ⟨rfl, k5⟩
          have K5 := Box.mk (K4.out.trans k5)
          have HU5 := Box.mk (HU4.out.keeps0 k5)
          clear k5 K4 HU4 H4
          by_cases hpe : printE l = 0
          · obtain ⟨b, hb1, hb2, hb3⟩ := print_zero hpe
            rw [hpe, hb3, show errV 0 = .nilIface from rfl]
            have Hb := Box.mk hb1
            clear hpe hb1 hb3
            go_wp2_with fail
            refine (read_is b w5 (by omega)).mono ?_
            rintro e w6 ⟨vr, rfl, h6, k6⟩
            rw [cutTo_le hb2] at h6
            have h6' := IsActs.of_read h6
            rw [acts_back0 Hb.out] at h6'
            have H6 := Box.mk h6'
            have K6 := Box.mk (K5.out.trans k6)
            have HU6 := Box.mk (HU5.out.keeps0 k6)
            clear h6 h6' k6 K5 HU5
            go_wp2_with fail
            refine (same22_is _ _ _ _ _ H6.out HU6.out).mono ?_
            rintro e w7 ⟨rfl, q, rfl⟩
            simp only [decide_true]
            have K7 := Box.mk (K6.out.drewN q)
            have HU7 := Box.mk (HU6.out.keeps0 ((Keeps.refl (fun _ => False) w6).drewN q))
            clear H6 K6 HU6
            generalize w6.drewN q = w7 at *
            by_cases hlong : 16384 < b.size + more.size
            · have hlong2 : (16384 : Int) < (b.size : Int) + (more.size : Int) := by omega
              go_wp2_with fail
              refine (read_is b w7 (by omega)).mono ?_
              rintro e w8 ⟨vr8, rfl, h8, k8⟩
              rw [cutTo_le hb2] at h8
              have h8' := IsActs.of_read h8
              rw [acts_back0 Hb.out] at h8'
              have H8 := Box.mk h8'
              have K8 := Box.mk (K7.out.trans k8)
              have HU8 := Box.mk (HU7.out.keeps0 k8)
              clear h8 h8' k8 K7 HU7
              go_wp2_with fail
              refine (same22_is _ _ _ _ _ H8.out HU8.out).mono ?_
              rintro e w9 ⟨rfl, q, rfl⟩
              simp only [decide_true]
              go_wp2_with fail
              go_ret
              exact ⟨rfl, (K8.out.drewN q).below (Nat.le_refl _) (fun _ h => h.elim)⟩
            · have hlong2 : ¬ (16384 : Int) < (b.size : Int) + (more.size : Int) := by omega
              have hsm : (b ++ more).size ≤ 16384 := by rw [ByteArray.size_append]; omega
              go_wp2_with fail
              refine (read_is (b ++ more) w7 (by omega)).mono ?_
              rintro e w8 ⟨vr8, rfl, h8, k8⟩
              rw [cutTo_le hsm] at h8
              have h8' := IsActs.of_read h8
              rw [acts_back more Hb.out] at h8'
              have H8 := Box.mk h8'
              have K8 := Box.mk (K7.out.trans k8)
              have HU8 := Box.mk (HU7.out.keeps0 k8)
              clear h8 h8' k8 K7 HU7 hsm
              have Hemp8 := Box.mk (own_empty w8)
              have k9a := (Keeps.refl (fun _ => False) w8).alloc (.cells #[] 72)
              have HU9 := Box.mk (HU8.out.keeps0 k9a)
              go_wp2_with (at_builtin; refine wpList_append_own _ rfl _ _ 53 rfl w8.heap.size 72 i0 _ 3 32 Try.underlying53 Hi.out.1 Hi.out.2.1 Hi.out.2.2.1 Hi.out.2.2.2 rfl (by decide) (.slice (some ⟨w8.heap.size, 0, none⟩) 0 0) 0 [] rfl Hemp8.out ad l.length c (acells l) rfl (by rw [acells_length]) ?h1 ?h2 ?h3 ?h4 ?h5 ?h6)
              case h1 => exact HU9.out.news
              case h2 => exact acells_one l
              case h3 => unfold maxLen; omega
              case h4 => omega
              case h5 => simp
              case h6 =>
                intro v9 w9 hown9 hgr9 _
                have Own9 : Box (w9.ownsRow w8.heap.size 72 3 v9 l.length (acells l)) := ⟨hown9⟩
                have k9 : Keeps (fun z => z = w8.heap.size) w8 w9 := ((Keeps.refl (fun z => z = w8.heap.size) w8).alloc (.cells #[] 72)).grown hgr9 (fun k hk _ => by simpa [Value.ownBlock] using hk.symm)
                have KB9 := Box.mk (k9.mono (S' := fun i => w8.heap.size ≤ i) (fun _ _ h => by omega))
                clear hown9 hgr9 k9 k9a Hemp8 HU8 HU9
                have Own9' := Own9.out
                go_wp2_with fail
                refine (read_is more w9 (by omega)).mono ?_
                rintro e w10 ⟨vm, rfl, h10, k10⟩
                rw [cutTo_le (by omega)] at h10
                have Own10 := Box.mk (k10.own Own9.out (fun _ _ h => h))
                have KB10 := Box.mk (KB9.out.trans' k10 (fun i hi h => h.elim))
                have K10 := Box.mk (K8.out.trans' KB10.out (fun i hi h => by have := K8.out.size; omega))
                have hal := acts_length (r := more)
                have h10l := h10.1
                have h10c := h10
                clear k10 Own9 Own9' KB9
                rcases h10.2 with ⟨rfl, h0⟩ | ⟨g, cap, cur, rfl, -⟩
                · have hnil : acts more = [] := List.eq_nil_of_length_eq_zero h0
                  rw [hnil, List.map_nil, List.append_nil] at H8
                  clear h10 h10c h10l hal h0 hnil
                  go_wp2_with (at_builtin; refine wpList_append_own_none rfl _ _ 53 rfl w8.heap.size 72 i0 3 Try.underlying53 Hi.out.1 v9 l.length (acells l) rfl Own10.out rfl ?p1)
                  have H10 := Box.mk (H8.out.keepsNew KB10.out (fun i h => h))
                  have H11 : Box (IsActs w10 v9 l) := ⟨IsActs.of_own Own10.out⟩
                  clear H8 Own10 KB10 K8
                  go_wp2_with fail
                  refine (same22_is _ _ _ _ _ H10.out H11.out).mono ?_
                  rintro e w12 ⟨rfl, q, rfl⟩
                  simp only [decide_true]
                  go_wp2_with fail
                  go_ret
                  exact ⟨rfl, (K10.out.drewN q).below (Nat.le_refl _) (fun _ h => h.elim)⟩
                · have hsz := KB10.out.size
                  have Hc := Box.mk (h10c.cells (g := g) rfl)
                  have Hone : Box (∀ u ∈ actCells (acts more), u.oneCell' = true) := ⟨by rw [← acells_raw]; exact acells_one _⟩
                  obtain ⟨ms, hms⟩ : ∃ ms, (acts more).length = ms := ⟨_, rfl⟩
                  have Hms := Box.mk hms
                  rw [hms] at hal h10l ⊢
                  have Hal := Box.mk hal
                  clear h10 h10c hms
                  go_wp2_with (at_builtin; refine wpList_append_own _ rfl _ _ 53 rfl w8.heap.size 72 i0 _ 3 32 Try.underlying53 Hi.out.1 Hi.out.2.1 Hi.out.2.2.1 Hi.out.2.2.2 rfl (by decide) v9 l.length (acells l) rfl Own10.out ⟨g, 0, none⟩ ms cap (actCells (acts more)) rfl h10l ?r1 ?r2 ?r3 ?r4 ?r5 ?r6)
                  case r1 => exact Hc.out
                  case r2 => exact Hone.out
                  case r3 => have := HL.out; unfold maxLen; omega
                  case r4 => have := HL.out; omega
                  case r5 => omega
                  case r6 =>
                    intro v11 w11 hown11 hgr11 _
                    have H11 : Box (IsActs w11 v11 (l ++ (acts more).map Act3.raw)) := ⟨IsActs.of_own (base := w8.heap.size) (by rw [List.length_append, List.length_map, acells_append, acells_raw, Hms.out]; first | exact hown11 | (rw [List.length_nil, Nat.zero_add]; exact hown11))⟩
                    have k11 : Keeps (fun z => v9.ownBlock = some z) w10 w11 := (Keeps.refl (fun z => v9.ownBlock = some z) w10).grown hgr11 (fun k hk _ => hk)
                    have KB11 := KB10.out.trans' k11 (fun i hi h => (Own10.out.lt _ h).1)
                    have H12 := Box.mk (H8.out.keepsNew KB11 (fun i h => h))
                    have K11 := Box.mk (K8.out.trans' KB11 (fun i hi h => by have := K8.out.size; omega))
                    clear hown11 hgr11 k11 KB11 H8 Own10 KB10 K8 K10
                    go_wp2_with fail
                    refine (same22_is _ _ _ _ _ H12.out H11.out).mono ?_
                    rintro e w12 ⟨rfl, q, rfl⟩
                    simp only [decide_true]
                    go_wp2_with fail
                    go_ret
                    exact ⟨rfl, (K11.out.drewN q).below (Nat.le_refl _) (fun _ h => h.elim)⟩
          · rw [print_other hpe]
            have hpc : printE l = 2 ∨ printE l = 14 := by have := print_cases l; omega
            clear hpe
            rcases hpc with h | h
            · rw [h, show errV 2 = .iface 40 (.int .i64 2) from rfl]
              clear h
              go_wp2_with fail
              go_ret
              exact ⟨rfl, K5.out.below (Nat.le_refl _) (fun _ h => h.elim)⟩
            · rw [h, show errV 14 = .iface 40 (.int .i64 14) from rfl]
              clear h
              go_wp2_with fail
              go_ret
              exact ⟨rfl, K5.out.below (Nat.le_refl _) (fun _ h => h.elim)⟩

end Go.Proofs.Ytljmfiegkefpoaa
