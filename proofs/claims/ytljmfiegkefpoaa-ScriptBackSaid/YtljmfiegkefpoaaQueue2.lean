/- The queue's Pop, Copy by contracts. -/
import Derived.Test.YtljmfiegkefpoaaQueue
namespace Go.Proofs.Ytljmfiegkefpoaa
set_option linter.unusedVariables false
set_option linter.unusedSimpArgs false
open Go.RowKit

theorem pop_nil (w : World) : Calls Try.prog 19 #[.pointer none] w fun e w' => e = .returned (.tuple #[.agg #[.int .i64 0, .int .i64 0], .bool false]) ∧ Keeps (fun _ => False) w w' := by
  have hk := Box.mk ((Keeps.refl (fun _ => False) w).alloc (.cells #[.int .i64 0, .int .i64 0] 27))
  go_enter Try.func19, Try.ntmps19
  go_wp2
  exact bodyPost_ret (v := .tuple #[.agg #[.int .i64 0, .int .i64 0], .bool false]) (by simp [results, Try.results19, go_sem]) rfl ⟨rfl, hk.out⟩

theorem pop_none (b : Nat) (L : List Int) (w : World) (hq : IsQ w b L) (hn : L.getD 33 0 = 0) : Calls Try.prog 19 #[.pointer (some ⟨b, 0, none⟩)] w fun e w' => e = .returned (.tuple #[.agg #[.int .i64 0, .int .i64 0], .bool false]) ∧ Keeps (fun _ => False) w w' := by
  have hk := Box.mk ((Keeps.refl (fun _ => False) w).alloc (.cells #[.int .i64 0, .int .i64 0] 27))
  have h := hq.cell (j := 33) (by omega)
  have hlt := hq.lt
  rw [hn] at h
  clear hq hn
  go_enter Try.func19, Try.ntmps19
  go_wp2
  exact bodyPost_ret (v := .tuple #[.agg #[.int .i64 0, .int .i64 0], .bool false]) (by simp [results, Try.results19, go_sem]) rfl ⟨rfl, hk.out⟩

/-- The queue behind a pop. -/
def qpop (L : List Int) : List Int := (L.set 32 ((L.getD 32 0 + 1) % 16)).set 33 (L.getD 33 0 - 1)

set_option maxHeartbeats 1000000 in
theorem pop_is (b : Nat) (L : List Int) (w : World) (hq : IsQ w b L) (hn : 0 < L.getD 33 0) :
    Calls Try.prog 19 #[.pointer (some ⟨b, 0, none⟩)] w fun e w' => e = .returned (.tuple #[.agg #[.int .i64 (L.getD (qpos L 0) 0), .int .i64 (L.getD (qpos L 0 + 1) 0)], .bool true]) ∧ IsQ w' b (qpop L) ∧ Keeps (fun j => j = b) w w' := by
  have HQ := Box.mk hq
  have hlt := hq.lt
  obtain ⟨N, hN⟩ : ∃ N, L.getD 33 0 = N := ⟨_, rfl⟩
  have n1 := hq.n1
  have f0 := hq.f0
  have f1 := hq.f1
  obtain ⟨F, hF⟩ : ∃ F : Nat, L.getD 32 0 = (F : Int) := ⟨(L.getD 32 0).toNat, by omega⟩
  rw [hN] at hn n1
  rw [hF] at f0 f1
  have hN1 := hq.cell (j := 33) (by omega)
  have hF1 := hq.cell (j := 32) (by omega)
  rw [hN] at hN1
  rw [hF] at hF1
  have hc0 := hq.cell (j := F * 2) (by omega)
  have hc1 := hq.cell (j := F * 2 + 1) (by omega)
  have HP : Box (qpos L 0 = F * 2) := ⟨by unfold qpos; rw [hF]; omega⟩
  rw [HP.out]
  generalize L.getD (F * 2) 0 = o0 at hc0 ⊢
  generalize L.getD (F * 2 + 1) 0 = o1 at hc1 ⊢
  have z2 := hq.frozen 32
  have z3 := hq.frozen 33
  have HN := Box.mk hN
  have HF := Box.mk hF
  clear hq hN hF
  go_enter Try.func19, Try.ntmps19
  go_wp2_with fail
  go_region
  have hA := fun (w : World) (h : w.cell? ⟨b, 32, none⟩ = some (.int .i64 F)) => at_is b 1 F w h f0 f1 (by omega) (by omega)
  have hf1 : (0 : Int) ≤ ((F : Int) + 1) % 16 := by omega
  have hf2 : ((F : Int) + 1) % 16 < 16 := by omega
  have HA := Box.mk hA
  clear hA
  obtain ⟨F1, hF1'⟩ : ∃ F1, ((F : Int) + 1) % 16 = F1 := ⟨_, rfl⟩
  rw [hF1'] at hf1 hf2 HA
  have HF1 := Box.mk hF1'
  clear hF1'
  have hne : w.heap.size ≠ b := by omega
  have hne1 : w.heap.size + 1 ≠ b := by omega
  go_wp2_with fail
  refine (HA.out _ (by go_simp)).mono ?_
  rintro e w' ⟨rfl, rfl⟩
  go_wp2
  refine bodyPost_ret (v := .tuple #[.agg #[.int .i64 o0, .int .i64 o1], .bool true]) (by simp [results, Try.results19, go_sem]) rfl ⟨rfl, ?_, ?_⟩
  · have h2 : IsQ ((w.setCell ⟨b, 32, none⟩ (.int .i64 F1)).setCell ⟨b, 33, none⟩ (.int .i64 (N - 1))) b (qpop L) := by
      have := (HQ.out.setF F1 hf1 hf2).setN (N - 1) (by omega) (by omega)
      unfold qpop
      rw [HN.out, HF.out, HF1.out]
      exact this
    refine IsQ.keeps h2 (S := fun _ => False) ?_ (fun h => h)
    repeat first | exact Keeps.refl _ _ | refine Keeps.alloc ?_ _ | refine Keeps.drew ?_
  · repeat first | exact Keeps.refl _ _ | refine Keeps.alloc ?_ _ | refine Keeps.drew ?_ | refine Keeps.setCell ?_ (by intro _; exact rfl) _

end Go.Proofs.Ytljmfiegkefpoaa
