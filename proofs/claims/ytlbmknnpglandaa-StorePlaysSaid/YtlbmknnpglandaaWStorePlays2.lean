/- StorePlays's walk, all cases: stores that are not made, and scripts that are not played. -/
import Derived.Test.YtlbmknnpglandaaWStorePlays
namespace Go.Proofs.Ytlbmknnpglandaa
set_option linter.unusedVariables false
set_option linter.unusedSimpArgs false
open Go.RowKit

set_option maxRecDepth 100000 in
set_option maxHeartbeats 4000000 in
theorem StorePlays_walk (n : Int) (p : Value) (w : World) (hn : (Lit.int .i64 n).wf = true) (hp : Reads Try.prog w 38 p) :
    Calls Try.prog 5 #[.int .i64 n, p] w fun e w' => e = .returned (.bool true) ∧ Below w.heap.size w w' := by
  clear hn
  obtain ⟨a, len, cap, K, I, W, rfl, hl, ho⟩ := ops_of_reads hp
  unfold maxLen at hl
  clear hp
  by_cases hA : 16384 < n ∧ n ≤ 1048576
  · obtain ⟨h1, h2⟩ := hA
    clear ho
    go_enter Try.func5, Try.ntmps5
    go_wp2_with fail
    refine (awake03 _).mono ?_
    rintro e w3 ⟨rfl, k3⟩
    have K3 := Box.mk k3
    clear k3
    go_wp2_with fail
    go_ret
    exact ⟨rfl, K3.out.below (Nat.le_refl _) (fun _ h => h.elim)⟩
  · by_cases hB : 500 < len
    · have hA' : (decide (16384 < n) && decide (n ≤ 1048576)) = false := by simp; omega
      clear ho
      by_cases h1 : 16384 < n
      · have h2 : 1048576 < n := by omega
        clear hA hA'
        go_enter Try.func5, Try.ntmps5
        go_wp2_with fail
        refine (awake03 _).mono ?_
        rintro e w3 ⟨rfl, k3⟩
        have K3 := Box.mk k3
        clear k3
        go_wp2_with fail
        go_ret
        exact ⟨rfl, K3.out.below (Nat.le_refl _) (fun _ h => h.elim)⟩
      · clear hA hA'
        go_enter Try.func5, Try.ntmps5
        go_wp2_with fail
        refine (awake03 _).mono ?_
        rintro e w3 ⟨rfl, k3⟩
        have K3 := Box.mk k3
        clear k3
        go_wp2_with fail
        go_ret
        exact ⟨rfl, K3.out.below (Nat.le_refl _) (fun _ h => h.elim)⟩
    · by_cases hC : 0 ≤ n ∧ n ≤ 16384
      · exact StorePlays_main n a len cap K I W w (by omega) hC.1 hC.2 ho
      · clear ho
        by_cases h0 : n < 0
        · clear hA hC
          go_enter Try.func5, Try.ntmps5
          go_wp2_with fail
          refine (new_bad _ _ (.inl h0)).mono ?_
          rintro e w2 ⟨rfl, rfl⟩
          go_wp2_with fail
          refine (awake03 _).mono ?_
          rintro e w3 ⟨rfl, k3⟩
          have K3 := Box.mk k3
          clear k3
          go_wp2_with fail
          refine (kind03_err 2 (by omega) _).mono ?_
          rintro e w4 ⟨rfl, k4⟩
          have K4 := Box.mk (K3.out.trans k4)
          clear k4
          go_wp2_with fail
          go_ret
          exact ⟨rfl, K4.out.below (Nat.le_refl _) (fun _ h => h.elim)⟩
        · have h1 : 1048576 < n := by omega
          clear hA hC
          go_enter Try.func5, Try.ntmps5
          go_wp2_with fail
          refine (new_bad _ _ (.inr h1)).mono ?_
          rintro e w2 ⟨rfl, rfl⟩
          go_wp2_with fail
          refine (awake03 _).mono ?_
          rintro e w3 ⟨rfl, k3⟩
          have K3 := Box.mk k3
          clear k3
          go_wp2_with fail
          refine (kind03_err 2 (by omega) _).mono ?_
          rintro e w4 ⟨rfl, k4⟩
          have K4 := Box.mk (K3.out.trans k4)
          clear k4
          go_wp2_with fail
          go_ret
          exact ⟨rfl, K4.out.below (Nat.le_refl _) (fun _ h => h.elim)⟩

end Go.Proofs.Ytlbmknnpglandaa
