/- The store's reads and writes, as what becomes of the store. -/
import Derived.Test.YtbjlapfcnldpoaaStore
namespace Go.Proofs.Ytbjlapfcnldpoaa
set_option linter.unusedVariables false
set_option linter.unusedSimpArgs false
open Go.RowKit

theorem get_at {i x : Int} {w : World} {s t : SSt} (hs : IsStore w s) (h : s.has i) (hx : s.at_ i = x) (ht : s.touched = t) :
    Calls Try.prog 79 #[.pointer (some ⟨s.b, 0, none⟩), .int .i64 i] w fun e w' => e = .returned (.tuple #[.int .u64 x, .nilIface]) ∧ IsStore w' t ∧ Keeps s.foot w w' := by
  subst hx ht
  refine (get_yes i w s hs h).mono ?_
  rintro e w' ⟨rfl, rfl⟩
  exact ⟨rfl, touched_is hs, (Keeps.refl _ w).setCell (fun _ => .inl rfl) _⟩

theorem set_at {i v : Int} {w : World} {s t : SSt} (hs : IsStore w s) (h : s.has i) (ht : s.put i v = t) :
    Calls Try.prog 73 #[.pointer (some ⟨s.b, 0, none⟩), .int .i64 i, .int .u64 v] w fun e w' => e = .returned .nilIface ∧ IsStore w' t ∧ Keeps s.foot w w' := by
  subst ht
  refine (set_yes i v w s hs h).mono ?_
  rintro e w' ⟨rfl, rfl⟩
  exact ⟨rfl, put_is hs h v, ((Keeps.refl _ w).setCell (fun _ => .inl rfl) _).setCell (fun _ => .inr rfl) _⟩

end Go.Proofs.Ytbjlapfcnldpoaa
