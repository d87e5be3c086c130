/- ScriptReads' walk: any bytes are the acts that the document says. -/
import Derived.Test.YtljmfiegkefpoaaScript6
import Derived.Test.YtljmfiegkefpoaaScript14
namespace Go.Proofs.Ytljmfiegkefpoaa
set_option linter.unusedVariables false
set_option linter.unusedSimpArgs false
open Go.RowKit

set_option maxRecDepth 100000 in
set_option maxHeartbeats 1000000 in
theorem ScriptReads_walk (s : ByteArray) (w : World) (hs : s.size ≤ 140737488351232) :
    Calls Try.prog 8 #[.string s] w fun e w' => e = .returned (.bool true) ∧ Below w.heap.size w w' := by
  go_enter Try.func8, Try.ntmps8
  go_wp2_with fail
  refine (awake22 _).mono ?_
  rintro e w1 ⟨rfl, k1⟩
  have K1 := Box.mk k1
  clear k1
  by_cases hb : 32768 < s.size
  · have hb2 : (32768 : Int) < (s.size : Int) := by omega
    go_wp2_with fail
    go_ret
    exact ⟨rfl, K1.out.below (Nat.le_refl _) (fun _ h => h.elim)⟩
  · have hb2 : ¬ (32768 : Int) < (s.size : Int) := by omega
    go_wp2_with fail
    refine (read_is s w1 hs).mono ?_
    rintro e w2 ⟨v, rfl, h2, k2⟩
    have H2 := Box.mk (IsActs.of_read h2)
    have K2 := Box.mk (K1.out.trans k2)
    clear h2 k2 K1
    go_wp2_with fail
    refine (read22_is s w2 hs).mono ?_
    rintro e w3 ⟨v', rfl, h3, k3⟩
    have H3 := Box.mk (IsActs.of_read h3)
    have H2' := Box.mk (H2.out.keeps0 k3)
    have K3 := Box.mk (K2.out.trans k3)
    clear h3 k3 K2 H2
    go_wp2_with fail
    refine (same22_is _ _ _ _ _ H2'.out H3.out).mono ?_
    rintro e w4 ⟨rfl, q, rfl⟩
    simp only [decide_true]
    go_wp2_with fail
    go_ret
    exact ⟨rfl, (K3.out.drewN q).below (Nat.le_refl _) (fun _ h => h.elim)⟩

end Go.Proofs.Ytljmfiegkefpoaa
