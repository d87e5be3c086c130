/- Where registers name nothing, three increments leave all cells free. No program in sight. -/
import Derived.Test.YtbjlapfcnldpoaaTSet
namespace Go.Proofs.Ytbjlapfcnldpoaa
set_option linter.unusedVariables false
set_option linter.unusedSimpArgs false
open Go.RowKit

/-- No grey cell. -/
def NG (L : Nat → Nat → List Nat) : Prop := ∀ v, colOf L v ≠ 3
theorem NG.lists {s : TH} {L : Nat → Nat → List Nat} {d : Nat → Nat → Nat} (hR : Rep s L d) (h : NG L) : ∀ c, c < 4 → L c 3 = [] := by
  intro c hc
  cases hL : L c 3 with
  | nil => rfl
  | cons u M => exact absurd (col_mem hR.rl hc (by omega) (show u ∈ L c 3 by rw [hL]; simp)) (h u)

theorem stepA {s : TH} {L : Nat → Nat → List Nat} (h : St s L) (hm : s.marking = false) (hg : NG L) (hn : NC s.roots) :
    ∃ s' L', tstep s = some s' ∧ St s' L' ∧ Kept s s' ∧ s'.marking = true ∧ NG L' ∧ ∀ v, colOf L' v = flipc (colOf L) v := by
  obtain ⟨s', L', e1, h1, h2, h3, -, -, h4, h5⟩ := flip_ok h hm
  have hng : NG L' := h5 hn
  refine ⟨s', L', ?_, h1, h2, h3, hng, fun v => ?_⟩
  · unfold tstep; rw [if_neg (by rw [hm]; simp)]; exact e1
  · have k := h4.keep v
    by_cases e : flipc (colOf L) v = 2
    · rcases k.2 e with e2 | e2
      · rw [e2, e]
      · exact absurd e2 (hng v)
    · exact k.1 e
theorem stepB {s : TH} {L : Nat → Nat → List Nat} (h : St s L) (hm : s.marking = true) (hg : NG L) (hcy : s.cycles < 1000000) :
    ∃ s' L', tstep s = some s' ∧ St s' L' ∧ Kept s s' ∧ s'.marking = false ∧ NG L' ∧ ∀ v, colOf L' v = endc (colOf L) v := by
  have hR := h.rep
  have hcnt0 : ∀ c l, c < 4 → l < 4 → lget s c l = (L c l).length := fun c l hc hl => by have := hR.cnt c l hc hl; simpa [d0] using this
  have hl := hg.lists hR
  have hz : ∀ c, c < 4 → lget s c 3 = 0 := fun c hc => by rw [hcnt0 c 3 hc (by omega), hl c hc]; rfl
  obtain ⟨s', e1, h1, h2, h3, h4⟩ := end_ok h hl hcy
  refine ⟨s', _, ?_, h1, h2, h3, fun v e => ?_, fun v => by rw [h4]⟩
  · unfold tstep
    rw [if_pos hm]
    show (tscan s).bind _ = some s'
    have : tscan s = some none := by
      unfold tscan
      rw [if_neg (by rw [hz 0 (by omega)]; simp), if_neg (by rw [hz 1 (by omega)]; simp), if_neg (by rw [hz 2 (by omega)]; simp), if_neg (by rw [hz 3 (by omega)]; simp)]
    rw [this]
    show (tlook s).bind _ = some s'
    have : tlook s = some none := by unfold tlook; rw [if_pos hR.wait]
    rw [this]
    exact e1
  · rw [h4] at e
    unfold endc at e
    split at e
    · omega
    · exact hg v e
theorem three_ok {s : TH} {L : Nat → Nat → List Nat} (h : St s L) (hg : NG L) (hn : NC s.roots) (hcy : s.cycles + 3 ≤ 1000000) :
    ∃ s' L', tincr 3 s = some s' ∧ St s' L' ∧ s'.count = s.count ∧ s'.roots = s.roots ∧ s'.k = s.k ∧ s'.cycles ≤ s.cycles + 3 ∧ ∀ v, colOf L' v = 0 := by
  have fin : ∀ {a b c : TH} {LA LB LC : Nat → Nat → List Nat}, tstep s = some a → tstep a = some b → tstep b = some c → Kept s a → Kept a b → Kept b c → St c LC → (∀ v, colOf LC v = 0) →
      ∃ s' L', tincr 3 s = some s' ∧ St s' L' ∧ s'.count = s.count ∧ s'.roots = s.roots ∧ s'.k = s.k ∧ s'.cycles ≤ s.cycles + 3 ∧ ∀ v, colOf L' v = 0 := by
    intro a b c LA LB LC e1 e2 e3 k1 k2 k3 h3 hz
    refine ⟨c, LC, ?_, h3, by rw [k3.count, k2.count, k1.count], by rw [k3.roots, k2.roots, k1.roots], by rw [k3.k, k2.k, k1.k], by have := k1.cyc; have := k2.cyc; have := k3.cyc; omega, hz⟩
    simp only [tincr]
    rw [e1, Option.bind_some, e2, Option.bind_some, e3, Option.bind_some]
  have le := colOf_le L
  by_cases hm : s.marking = true
  · obtain ⟨a, LA, e1, h1, k1, m1, g1, c1⟩ := stepB h hm hg (by omega)
    obtain ⟨b, LB, e2, h2, k2, m2, g2, c2⟩ := stepA h1 m1 g1 (by rw [k1.roots]; exact hn)
    obtain ⟨c, LC, e3, h3, k3, m3, g3, c3⟩ := stepB h2 m2 g2 (by have := k1.cyc; have := k2.cyc; omega)
    refine fin (LA := LA) (LB := LB) e1 e2 e3 k1 k2 k3 h3 (fun v => ?_)
    rw [c3 v]
    have a1 := c1 v
    have a2 := c2 v
    have a3 := hg v
    have a4 := le v
    unfold endc at a1 ⊢
    unfold flipc at a2
    split at a1 <;> split at a2 <;> split <;> omega
  · have hm' : s.marking = false := by simpa using hm
    obtain ⟨a, LA, e1, h1, k1, m1, g1, c1⟩ := stepA h hm' hg hn
    obtain ⟨b, LB, e2, h2, k2, m2, g2, c2⟩ := stepB h1 m1 g1 (by have := k1.cyc; omega)
    obtain ⟨c, LC, e3, h3, k3, m3, g3, c3⟩ := stepA h2 m2 g2 (by rw [k2.roots, k1.roots]; exact hn)
    refine fin (LA := LA) (LB := LB) e1 e2 e3 k1 k2 k3 h3 (fun v => ?_)
    rw [c3 v]
    have a1 := c1 v
    have a2 := c2 v
    have a3 := hg v
    have a4 := le v
    unfold flipc at a1 ⊢
    unfold endc at a2
    split at a1 <;> split at a2 <;> split <;> omega
theorem all_free {s : TH} {L : Nat → Nat → List Nat} (h : St s L) (hz : ∀ v, colOf L v = 0) {c : Nat} (hc : c < 4) : lget s c 0 = s.count.getD c 0 := by
  have hR := h.rep
  have e : ∀ l, 1 ≤ l → l < 4 → L c l = [] := by
    intro l h1 hl
    cases hL : L c l with
    | nil => rfl
    | cons u M =>
      have := col_mem hR.rl hc hl (show u ∈ L c l by rw [hL]; simp)
      rw [hz u] at this
      omega
  have h1 := hR.tot c hc
  have h2 := hR.cnt c 0 hc (by omega)
  rw [e 1 (by omega) (by omega), e 2 (by omega) (by omega), e 3 (by omega) (by omega)] at h1
  simp only [d0, Nat.add_zero, List.length_nil] at h1 h2
  omega

end Go.Proofs.Ytbjlapfcnldpoaa
