/- ScriptCuts' walk: of a script that is cut off anywhere the acts are the first ones. -/
import Derived.Test.YtljmfiegkefpoaaScript14
import Derived.Test.YtljmfiegkefpoaaScript15
namespace Go.Proofs.Ytljmfiegkefpoaa
set_option linter.unusedVariables false
set_option linter.unusedSimpArgs false
open Go.RowKit

set_option maxRecDepth 100000 in
set_option maxHeartbeats 1000000 in
theorem ScriptCuts_walk (s : ByteArray) (cut : Int) (w : World) (hs : s.size ≤ 140737488351232) (hc : (Lit.int .i64 cut).wf = true) :
    Calls Try.prog 10 #[.string s, .int .i64 cut] w fun e w' => e = .returned (.bool true) ∧ Below w.heap.size w w' := by
  clear hc
  go_enter Try.func10, Try.ntmps10
  go_wp2_with fail
  refine (awake22 _).mono ?_
  rintro e w1 ⟨rfl, k1⟩
  have K1 := Box.mk k1
  clear k1
  by_cases hb : 16384 < s.size
  · have hb2 : (16384 : Int) < (s.size : Int) := by omega
    go_wp2_with fail
    refine (awake22 _).mono ?_
    rintro e w2 ⟨rfl, k2⟩
    have K2 := Box.mk (K1.out.trans k2)
    clear k2 K1
    go_wp2_with fail
    go_ret
    exact ⟨rfl, K2.out.below (Nat.le_refl _) (fun _ h => h.elim)⟩
  · have hb2 : ¬ (16384 : Int) < (s.size : Int) := by omega
    have hct : cutTo s = s := by unfold cutTo; rw [show min s.size 16384 = s.size by omega]; simp
    go_wp2_with fail
    refine (read_is s w1 hs).mono ?_
    rintro e w2 ⟨v, rfl, h2, k2⟩
    rw [hct] at h2
    have H2 := Box.mk (IsActs.of_read h2)
    have K2 := Box.mk (K1.out.trans k2)
    clear h2 k2 K1 hct
    obtain ⟨d, hd⟩ : ∃ d : Nat, wrap64 ((IntKind.u64.wrap cut).tmod ((s.size : Int) + 1)) = (d : Int) := ⟨(wrap64 ((IntKind.u64.wrap cut).tmod ((s.size : Int) + 1))).toNat, by have := umod_bd cut ((s.size : Int) + 1) (by omega) (by omega); omega⟩
    have hds : d ≤ s.size := by have := umod_bd cut ((s.size : Int) + 1) (by omega) (by omega); omega
    go_wp2_with fail
    refine (read_is (s.extract 0 d) w2 (by simp; omega)).mono ?_
    rintro e w3 ⟨v', rfl, h3, k3⟩
    have hct : cutTo (s.extract 0 d) = s.extract 0 d := by
      unfold cutTo
      rw [cut_size s d hds, show min d 16384 = d by omega, ByteArray.extract_extract]
      congr 1
      omega
    rw [hct] at h3
    obtain ⟨tl, htl⟩ := acts_cut s d hds
    have H3 := Box.mk (IsActs.of_read h3)
    have H2' := Box.mk (H2.out.keeps0 k3)
    rw [htl, List.map_append] at H2'
    have K3 := Box.mk (K2.out.trans k3)
    clear h3 k3 K2 H2 htl hct hd
    generalize (acts (s.extract 0 d)).map Act3.raw = m at *
    generalize tl.map Act3.raw = tl' at *
    obtain ⟨a1, c1, hv1, hc1, hc2⟩ := H3.out.form
    obtain ⟨a2, c2, hv2, hc3, hc4⟩ := H2'.out.form
    subst hv1 hv2
    have H4 := Box.mk (H2'.out.take m.length (by simp))
    rw [List.take_left' rfl] at H4
    have hml := H3.out.len
    simp only [List.length_append] at hc3 ⊢
    obtain ⟨n, hn⟩ : ∃ n, m.length = n := ⟨_, rfl⟩
    obtain ⟨t, ht⟩ : ∃ t, tl'.length = t := ⟨_, rfl⟩
    rw [hn] at H4 hc1 hc3 hml ⊢
    rw [ht] at hc3 ⊢
    have H5 : Box (IsActs w3 (.slice a1 n c1) m) := ⟨by rw [← hn]; exact H3.out⟩
    clear H3 H2' hn ht
    simp only [maxLen] at hc2 hc4
    have hnt : (n : Int) ≤ ((n + t : Nat) : Int) := by omega
    go_wp2_with fail
    refine (same22_is _ _ _ _ _ H5.out H4.out).mono ?_
    rintro e w4 ⟨rfl, q, rfl⟩
    simp only [decide_true]
    go_wp2_with fail
    go_ret
    exact ⟨rfl, (K3.out.drewN q).below (Nat.le_refl _) (fun _ h => h.elim)⟩

end Go.Proofs.Ytljmfiegkefpoaa
