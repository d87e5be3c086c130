/- The script's Read. -/
import Derived.Test.YtljmfiegkefpoaaScript2
import Derived.Test.YtljmfiegkefpoaaWQueueDrops
namespace Go.Proofs.Ytljmfiegkefpoaa
set_option linter.unusedVariables false
set_option linter.unusedSimpArgs false
open Go.RowKit

/-- The acts of r. -/
def readAll : Nat → ByteArray → List Act3
  | 0, _ => []
  | f + 1, r => match actOf r with
    | none => []
    | some (a, c) => a :: readAll f (r.extract c r.size)

theorem actOf_len {r : ByteArray} {a : Act3} {c : Nat} (h : actOf r = some (a, c)) : 1 ≤ c ∧ c ≤ r.size := by
  unfold actOf at h
  repeat' split at h
  all_goals first
    | (simp at h; done)
    | (simp at h; obtain ⟨-, rfl⟩ := h; omega)

theorem readAll_fuel {f g : Nat} {r : ByteArray} (hf : r.size ≤ f) (hg : r.size ≤ g) : readAll f r = readAll g r := by
  induction f generalizing g r with
  | zero =>
    have h0 : actOf r = none := by unfold actOf; rw [if_pos (by omega)]
    cases g with
    | zero => rfl
    | succ g => simp [readAll, h0]
  | succ f ih =>
    cases g with
    | zero =>
      have h0 : actOf r = none := by unfold actOf; rw [if_pos (by omega)]
      simp [readAll, h0]
    | succ g =>
      simp only [readAll]
      cases h : actOf r with
      | none => rfl
      | some x =>
        obtain ⟨a, c⟩ := x
        have := actOf_len h
        simp only
        congr 1
        exact ih (by simp; omega) (by simp; omega)

def acts (r : ByteArray) : List Act3 := readAll r.size r

theorem acts_none {r : ByteArray} (h : actOf r = none) : acts r = [] := by
  unfold acts
  cases r.size with
  | zero => rfl
  | succ f => simp [readAll, h]
theorem acts_some {r : ByteArray} {a : Act3} {c : Nat} (h : actOf r = some (a, c)) : acts r = a :: acts (r.extract c r.size) := by
  have hl := actOf_len h
  unfold acts
  obtain ⟨f, hf⟩ : ∃ f, r.size = f + 1 := ⟨r.size - 1, by omega⟩
  rw [show readAll r.size r = readAll (f + 1) r by rw [hf]]
  simp only [readAll, h]
  congr 1
  exact readAll_fuel (by simp; omega) (Nat.le_refl _)

def actCells (l : List Act3) : List Value := l.flatMap (fun a => [.int .i64 a.k, .int .i64 a.n, .string a.t])
theorem actCells_snoc (l : List Act3) (a : Act3) : actCells (l ++ [a]) = actCells l ++ [.int .i64 a.k, .int .i64 a.n, .string a.t] := by simp [actCells]

theorem info_act : (Try.prog.info? 72).map (fun i => (i.zero, i.size, i.bytes)) = some (some (.agg #[.int .i64 0, .int .i64 0, .string ⟨#[]⟩]), 3, 32) := by kernel_rfl

theorem acts_length {r : ByteArray} : (acts r).length ≤ r.size := by
  unfold acts
  suffices h : ∀ f (r : ByteArray), (readAll f r).length ≤ f from h _ _
  intro f
  induction f with
  | zero => intro r; simp [readAll]
  | succ f ih =>
    intro r
    simp only [readAll]
    cases h : actOf r with
    | none => simp
    | some x => simp; exact ih _

end Go.Proofs.Ytljmfiegkefpoaa
