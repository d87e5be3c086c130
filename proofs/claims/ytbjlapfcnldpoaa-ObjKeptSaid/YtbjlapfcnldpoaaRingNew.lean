/- A new store, with its words. -/
import Derived.Test.YtbjlapfcnldpoaaRing3
import Derived.Test.YtbjlapfcnldpoaaStoreNew
namespace Go.Proofs.Ytbjlapfcnldpoaa
set_option linter.unusedVariables false
set_option linter.unusedSimpArgs false
open Go.RowKit

theorem rnew_is (n : Nat) (w : World) (h : n ≤ 1048576) :
    Calls Try.prog 56 #[.int .i64 n] w fun e w' => ∃ b g, e = .returned (.tuple #[.pointer (some ⟨b, 0, none⟩), .nilIface]) ∧ IsW w' b g (List.replicate n 0) ∧ Keeps (fun _ => False) w w' ∧ w.heap.size ≤ b ∧ w.heap.size ≤ g := by
  refine (new_ok n w (by omega) (by omega)).mono ?_
  rintro e w' ⟨s, rfl, h1, h2, h3, h4, h5, h6⟩
  refine ⟨s.b, s.g, rfl, ⟨s.c, s.k, ?_⟩, h4, h5, h6⟩
  obtain ⟨b, g, c, ws, k⟩ := s
  simp only at h1 h2 ⊢
  rw [List.map_replicate]
  rw [Int.toNat_natCast] at h2
  subst h2
  exact h1
theorem Keeps.ring {w w1 w2 : World} {b g : Nat} (K : Keeps (fun _ => False) w w1) (k : Keeps (foot b g) w1 w2) (hb : w.heap.size ≤ b) (hg : w.heap.size ≤ g) : Keeps (fun _ => False) w w2 :=
  K.trans' k (fun i hi h => by unfold foot at h; omega)

end Go.Proofs.Ytbjlapfcnldpoaa
