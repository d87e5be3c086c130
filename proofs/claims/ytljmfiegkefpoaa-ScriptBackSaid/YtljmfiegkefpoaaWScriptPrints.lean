/- ScriptPrints' walk: any acts have the bytes that the document says, or are refused. -/
import Derived.Test.YtljmfiegkefpoaaScript12
import Derived.Test.YtljmfiegkefpoaaScript13
import Derived.Test.YtljmfiegkefpoaaScript14
import Derived.Test.YtljmfiegkefpoaaScript16
import Derived.Laws.AppendOwnNone
namespace Go.Proofs.Ytljmfiegkefpoaa
set_option linter.unusedVariables false
set_option linter.unusedSimpArgs false
open Go.RowKit

theorem IsActs.news {w : World} {ad : Addr} {n c : Nat} {l : List ActI} (h : IsActs w (.slice (some ad) n c) l) : ∀ j u, (acells l)[j]? = some u → w.cell? (ad.add j) = some u := by
  intro j u hj
  have hlt : j < l.length * 3 := by rw [← acells_length]; exact (List.getElem?_eq_some_iff.1 hj).1
  obtain ⟨i, r, rfl, hr⟩ : ∃ i r, j = i * 3 + r ∧ r < 3 := ⟨j / 3, j % 3, by omega, by omega⟩
  obtain ⟨b, o, hb, -, h0, h1, h2⟩ := h.cells _ _ _ rfl i (by omega)
  injection hb with hb
  subst hb
  obtain ⟨a0, a1, a2⟩ := acells_at l i (by omega)
  rw [Addr.add_lit]
  match r, hr with
  | 0, _ => rw [Nat.add_zero] at hj ⊢; rw [a0] at hj; rw [← hj]; exact h0
  | 1, _ => rw [a1] at hj; rw [← hj, ← Nat.add_assoc]; exact h1
  | 2, _ => rw [a2] at hj; rw [← hj, ← Nat.add_assoc]; exact h2
theorem acells_one (l : List ActI) : ∀ u ∈ acells l, u.oneCell' = true := by
  intro u hu
  simp only [acells, List.mem_flatMap] at hu
  obtain ⟨p, -, hp⟩ := hu
  simp at hp
  rcases hp with rfl | rfl | rfl <;> rfl
theorem print_cases (l : List ActI) : printE l = 0 ∨ printE l = 2 ∨ printE l = 14 := by
  unfold printE
  cases encAll l with
  | none => simp
  | some b => simp only; split <;> simp

/-- A slice of acts: none, or somewhere. -/
theorem own_empty (w : World) : (w.alloc (.cells #[] 72)).ownsRow w.heap.size 72 3 (.slice (some ⟨w.heap.size, 0, none⟩) 0 0) 0 [] :=
  World.ownsRow_lit w #[] 0 (Nat.le_refl _) (Nat.zero_le _) rfl

set_option maxRecDepth 100000 in
set_option maxHeartbeats 2000000 in
theorem ScriptPrints_walk (u : Value) (w : World) (hu : Reads Try.prog w 53 u) :
    Calls Try.prog 11 #[u] w fun e w' => e = .returned (.bool true) ∧ Below w.heap.size w w' := by
  obtain ⟨l, hu, ht, hsp⟩ := acts_of_reads hu
  obtain ⟨i0, hi0, hz0, hz1, hz2⟩ := info_parts info_act
  have Hi := Box.mk (And.intro hi0 (And.intro hz0 (And.intro hz1 hz2)))
  clear hi0 hz0 hz1 hz2
  have HU := Box.mk hu
  have HT := Box.mk ht
  have HS := Box.mk hsp
  clear hu ht hsp
  go_enter Try.func11, Try.ntmps11
  go_wp2_with fail
  refine (awake22 _).mono ?_
  rintro e w1 ⟨rfl, k1⟩
  have K1 := Box.mk k1
  have HU1 := Box.mk (HU.out.keeps0 k1)
  clear k1
  go_wp2_with fail
  refine (great_is HU1.out HT.out).mono ?_
  rintro e w2 ⟨⟨gr, rfl, hgr⟩, k2⟩
  have K2 := Box.mk (K1.out.trans k2)
  have HU2 := Box.mk (HU1.out.keeps0 k2)
  clear k2 K1 HU1
  cases gr with
  | true =>
    clear hgr
    go_wp2_with fail
    refine (awake22 _).mono ?_
    rintro e w3 ⟨rfl, k3⟩
    have K3 := Box.mk (K2.out.trans k3)
    clear k3 K2
    go_wp2_with fail
    go_ret
    exact ⟨rfl, K3.out.below (Nat.le_refl _) (fun _ h => h.elim)⟩
  | false =>
    obtain ⟨hl, hts⟩ := hgr rfl
    have HL := Box.mk hl
    clear hgr hts
    have Hemp := Box.mk (own_empty w2)
    have K3 := Box.mk (K2.out.alloc (.cells #[] 72))
    have HU3 := Box.mk (HU2.out.keeps0 ((Keeps.refl (fun _ => False) w2).alloc (.cells #[] 72)))
    rcases HS.out with ⟨rfl, rfl⟩ | ⟨ad, n, c, rfl, rfl⟩
    · go_wp2_with (at_builtin; refine wpList_append_own_none rfl _ _ 53 rfl w2.heap.size 72 i0 3 Try.underlying53 Hi.out.1 (.slice (some ⟨w2.heap.size, 0, none⟩) 0 0) 0 [] rfl Hemp.out rfl ?c1)
      have H4 : Box (IsActs (w2.alloc (.cells #[] 72)) (.slice (some ⟨w2.heap.size, 0, none⟩) 0 0) []) := ⟨IsActs.of_own (l := []) Hemp.out⟩
      have K4 := K3
      have HU4 := HU3
      clear Hemp K3 HU3 HU2 K2
      generalize w2.alloc (.cells #[] 72) = w4 at *
      go_wp2_with fail
      refine (print_is H4.out HL.out HT.out).mono ?_
      rintro e w5 ⟨rfl, k5⟩
      have K5 := Box.mk (K4.out.trans k5)
      have HU5 := Box.mk (HU4.out.keeps0 k5)
      clear k5 K4 HU4 H4
      go_wp2_with fail
      refine (print22_is HU5.out HL.out HT.out).mono ?_
      rintro e w6 ⟨rfl, k6⟩
      have K6 := Box.mk (K5.out.trans k6)
      have hpc := print_cases []
      clear k6 K5 HU5
      generalize printS [] = ps at *
      generalize printE [] = pe at *
      rcases hpc with rfl | rfl | rfl
      · rw [show errV 0 = .nilIface from rfl]
        go_wp2_with fail
        go_ret
        exact ⟨rfl, K6.out.below (Nat.le_refl _) (fun _ h => h.elim)⟩
      · rw [show errV 2 = .iface 40 (.int .i64 2) from rfl]
        go_wp2_with fail
        refine (is_kind 2 2 _).mono ?_
        rintro e w7 ⟨rfl, rfl⟩
        go_wp2_with fail
        go_ret
        exact ⟨rfl, K6.out.below (Nat.le_refl _) (fun _ h => h.elim)⟩
      · rw [show errV 14 = .iface 40 (.int .i64 14) from rfl]
        go_wp2_with fail
        refine (is_kind 14 14 _).mono ?_
        rintro e w7 ⟨rfl, rfl⟩
        go_wp2_with fail
        go_ret
        exact ⟨rfl, K6.out.below (Nat.le_refl _) (fun _ h => h.elim)⟩
    · go_wp2_with (at_builtin; refine wpList_append_own _ rfl _ _ 53 rfl w2.heap.size 72 i0 _ 3 32 Try.underlying53 Hi.out.1 Hi.out.2.1 Hi.out.2.2.1 Hi.out.2.2.2 rfl (by decide) (.slice (some ⟨w2.heap.size, 0, none⟩) 0 0) 0 [] rfl Hemp.out ad l.length c (acells l) rfl (by rw [acells_length]) ?d1 ?d2 ?d3 ?d4 ?d5 ?d6)
      case d1 => exact HU3.out.news
      case d2 => exact acells_one l
      case d3 => unfold maxLen; omega
      case d4 => omega
      case d5 => simp
      case d6 =>
        intro v4 w4 hown4 hgr4 _
        have H4 : Box (IsActs w4 v4 l) := ⟨IsActs.of_own (l := l) hown4⟩
        have k4 : Keeps (fun z => z = w2.heap.size) w2 w4 := ((Keeps.refl (fun z => z = w2.heap.size) w2).alloc (.cells #[] 72)).grown hgr4 (fun k hk _ => by simpa [Value.ownBlock] using hk.symm)
        have K4 := Box.mk (K2.out.trans' k4 (by intro i hi h; have := K2.out.size; omega))
        have HU4 := Box.mk (HU2.out.keepsNew k4 (fun i h => by omega))
        clear hown4 hgr4 k4 Hemp K3 HU3 HU2 K2
        go_wp2_with fail
        refine (print_is H4.out HL.out HT.out).mono ?_
        rintro e w5 ⟨rfl, k5⟩
        have K5 := Box.mk (K4.out.trans k5)
        have HU5 := Box.mk (HU4.out.keeps0 k5)
        clear k5 K4 HU4 H4
        go_wp2_with fail
        refine (print22_is HU5.out HL.out HT.out).mono ?_
        rintro e w6 ⟨rfl, k6⟩
        have K6 := Box.mk (K5.out.trans k6)
        have hpc := print_cases l
        clear k6 K5 HU5
        generalize printS l = ps at *
        generalize printE l = pe at *
        rcases hpc with rfl | rfl | rfl
        · rw [show errV 0 = .nilIface from rfl]
          go_wp2_with fail
          go_ret
          exact ⟨rfl, K6.out.below (Nat.le_refl _) (fun _ h => h.elim)⟩
        · rw [show errV 2 = .iface 40 (.int .i64 2) from rfl]
          go_wp2_with fail
          refine (is_kind 2 2 _).mono ?_
          rintro e w7 ⟨rfl, rfl⟩
          go_wp2_with fail
          go_ret
          exact ⟨rfl, K6.out.below (Nat.le_refl _) (fun _ h => h.elim)⟩
        · rw [show errV 14 = .iface 40 (.int .i64 14) from rfl]
          go_wp2_with fail
          refine (is_kind 14 14 _).mono ?_
          rintro e w7 ⟨rfl, rfl⟩
          go_wp2_with fail
          go_ret
          exact ⟨rfl, K6.out.below (Nat.le_refl _) (fun _ h => h.elim)⟩

end Go.Proofs.Ytljmfiegkefpoaa
