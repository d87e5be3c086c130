/- Law 22's great, walked. -/
import Derived.Test.YtljmfiegkefpoaaScript11
namespace Go.Proofs.Ytljmfiegkefpoaa
set_option linter.unusedVariables false
set_option linter.unusedSimpArgs false
open Go.RowKit

/-- What great answers. -/
structure GreatSaid (l : List ActI) (w : World) (e : Ending) (w' : World) : Prop where
  said : ∃ gr, e = .returned (.bool gr) ∧ (gr = false → l.length ≤ 8192 ∧ ∀ a ∈ l, a.2.2.size ≤ 32768)
  keeps : Keeps (fun _ => False) w w'

set_option maxRecDepth 100000 in
set_option maxHeartbeats 4000000 in
theorem great_is {l : List ActI} {u : Value} {w : World} (hu : IsActs w u l) (ht : ∀ a ∈ l, a.2.2.size ≤ 9223372036854775807) :
    Calls Try.prog 30 #[u] w fun e w' => GreatSaid l w e w' := by
  obtain ⟨a, cp, rfl, -⟩ := hu.form
  have hl := hu.len
  have HU := Box.mk hu
  have HT := Box.mk ht
  clear hu ht
  obtain ⟨n, hn⟩ : ∃ n, l.length = n := ⟨_, rfl⟩
  have Hn := Box.mk hn
  rw [hn] at hl ⊢
  clear hn
  go_enter Try.func30, Try.ntmps30
  go_wp2_with fail
  have HK := Box.mk (Keeps.refl (fun _ => False) w)
  go_loopw [3, 8] (fun v i wr => ∃ (k s : Nat), k ≤ n ∧ v = .int .i64 s ∧ i = .int .i64 k ∧ 4 * k ≤ s ∧ s ≤ 32768 ∧ Box (∀ j, j < k → (l.getD j noAct).2.2.size ≤ s) ∧ Box (Keeps (fun _ => False) w wr)) (fun _ i _ => n - (intOf i).toNat)
  case atStart => exact ⟨0, 0, Nat.zero_le _, rfl, rfl, by omega, by omega, ⟨fun j hj => by omega⟩, HK⟩
  case round =>
    clear HK
    obtain ⟨k, s, hk, rfl, rfl, hks, hs, HE, K⟩ := hrel
    by_cases hkn : k < n
    · obtain ⟨ub, uo, rfl, hub, u0, u1, u2⟩ := (HU.out.keeps0 K.out).cells _ _ _ rfl k (by rw [Hn.out]; exact hkn)
      have hk0 : (0 : Int) ≤ (k : Int) := by omega
      have hk1 : (k : Int) < (n : Int) := by omega
      have htk := HT.out _ (mem_getD (l := l) (k := k) (by rw [Hn.out]; exact hkn))
      generalize hx : l.getD k noAct = x at *
      obtain ⟨xk, xn, xt⟩ := x
      simp only at u0 u1 u2 htk
      have Hx := Box.mk hx
      clear hx
      obtain ⟨z, hz⟩ : ∃ z, xt.size = z := ⟨_, rfl⟩
      have Hz := Box.mk hz
      rw [hz] at htk
      have K1 := Box.mk (K.out.alloc (.cells #[.int .i64 xk, .int .i64 xn, .string xt] 72))
      clear K
      by_cases hbig : 1048576 < z
      · have hbig2 : (1048576 : Int) < (z : Int) := by omega
        have hbig5 : (32768 : Int) < (s : Int) + 1048580 := by omega
        go_wp2_with fail
        go_ret
        exact ⟨⟨true, rfl, fun h => by cases h⟩, K1.out⟩
      · have hbig2 : ¬ (1048576 : Int) < (z : Int) := by omega
        by_cases hbig3 : 32768 < s + (4 + z)
        · have hbig4 : (32768 : Int) < (s : Int) + (4 + (z : Int)) := by omega
          go_wp2_with fail
          go_ret
          exact ⟨⟨true, rfl, fun h => by cases h⟩, K1.out⟩
        · have hbig4 : ¬ (32768 : Int) < (s : Int) + (4 + (z : Int)) := by omega
          have HE2 : Box (∀ j, j < k + 1 → (l.getD j noAct).2.2.size ≤ s + (4 + z)) := ⟨fun j hj => by
            rcases Nat.lt_or_ge j k with h | h
            · have := HE.out j h; omega
            · rw [show j = k by omega, Hx.out]; show xt.size ≤ _; rw [Hz.out]; omega⟩
          clear HE
          go_wp2_with fail
          go_roundw
          case rel => exact ⟨k + 1, s + (4 + z), by omega, by go_num, by go_num, by omega, by omega, HE2, K1⟩
          case measure => simp [intOf]; omega
    · go_wp2_with fail
      go_ret
      refine ⟨⟨false, rfl, fun _ => ⟨by rw [Hn.out]; omega, fun a ha => ?_⟩⟩, K.out⟩
      obtain ⟨i, hi, rfl⟩ := List.getElem_of_mem ha
      have h := HE.out i (by rw [Hn.out] at hi; omega)
      simp [List.getD, hi] at h
      omega

end Go.Proofs.Ytljmfiegkefpoaa
