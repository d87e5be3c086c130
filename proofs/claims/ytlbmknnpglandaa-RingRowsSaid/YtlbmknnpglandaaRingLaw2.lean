/- Members that are alone; rows of members put in one by one. No program in sight. -/
import Derived.Test.YtlbmknnpglandaaRingLaw
namespace Go.Proofs.Ytlbmknnpglandaa
set_option linter.unusedVariables false
set_option linter.unusedSimpArgs false
open Go.RowKit

def Lone (W : List Nat) (u : Nat) : Prop := wat W (u + 1) = u ∧ wat W (u + 2) = u
/-- i members from s on, the last put in first. -/
def dn (s : Nat) : Nat → List Nat
  | 0 => []
  | i + 1 => 3 * (s + i) :: dn s i

theorem dn_mem {s i u : Nat} (h : u ∈ dn s i) : ∃ j, s ≤ j ∧ j < s + i ∧ u = 3 * j := by
  induction i with
  | zero => cases h
  | succ i ih =>
    rcases List.mem_cons.1 h with rfl | h
    · exact ⟨s + i, by omega, by omega, rfl⟩
    · obtain ⟨j, h1, h2, h3⟩ := ih h
      exact ⟨j, h1, by omega, h3⟩
theorem mem_dn {s i j : Nat} (h1 : s ≤ j) (h2 : j < s + i) : 3 * j ∈ dn s i := by
  induction i with
  | zero => omega
  | succ i ih =>
    rcases Nat.lt_or_ge j (s + i) with h | h
    · exact List.mem_cons_of_mem _ (ih h)
    · rw [show j = s + i by omega]; simp [dn]
theorem dn_length (s i : Nat) : (dn s i).length = i := by
  induction i with
  | zero => rfl
  | succ i ih => simp [dn, ih]

theorem lone_ring {W : List Nat} {u : Nat} (h : Lone W u) (hn : Node W u) : Ring W u [] :=
  ⟨trivial, ⟨h.2, h.1⟩, by simp, fun x hx => by simp at hx; subst hx; exact hn⟩
theorem ring_lone {W : List Nat} {u : Nat} (h : Ring W u []) : Lone W u := ⟨h.back.2, h.back.1⟩

theorem lone_init {W : List Nat} {p u : Nat} (hp : Node W p) (hu : u % 3 = 0) (h : u = p ∨ Lone W u) : Lone (setAll W [(p, 1, p), (p, 2, p)]) u := by
  unfold Lone
  rw [init_A hp hu, init_B hp hu]
  by_cases e : u = p
  · rw [if_pos e, if_pos e]; exact ⟨e.symm, e.symm⟩
  · rw [if_neg e, if_neg e]
    exact h.resolve_left e
theorem lone_insert {W : List Nat} {p q u : Nat} {L : List Nat} (hr : Ring W p L) (hq : Node W q) (hu : Node W u) (h : Lone W u) (h1 : u ∉ p :: L) (h2 : u ≠ q) :
    Lone (setAll W [(q, 1, p), (q, 2, wat W (p + 2)), (p, 2, q), (wat W (p + 2), 1, q)]) u :=
  ring_lone (insert_other hr hq (lone_ring h hu) (fun x hx => by simp at hx; subst hx; exact ⟨h1, h2⟩))

/-- A member behind another one: who stands where. -/
theorem insert_seen {W : List Nat} {h k q : Nat} {L : List Nat} (hr : Ring W h L) (hk : k ∈ h :: L) (hq : Node W q) (hn : q ∉ h :: L) :
    wat (setAll W [(q, 1, k), (q, 2, wat W (k + 2)), (k, 2, q), (wat W (k + 2), 1, q)]) (k + 2) = q ∧
    wat (setAll W [(q, 1, k), (q, 2, wat W (k + 2)), (k, 2, q), (wat W (k + 2), 1, q)]) (q + 2) = wat W (k + 2) ∧
    wat (setAll W [(q, 1, k), (q, 2, wat W (k + 2)), (k, 2, q), (wat W (k + 2), 1, q)]) (wat W (k + 2) + 1) = q ∧
    wat (setAll W [(q, 1, k), (q, 2, wat W (k + 2)), (k, 2, q), (wat W (k + 2), 1, q)]) (q + 1) = k := by
  have hx := ring_next hr hk
  generalize wat W (k + 2) = x at *
  have nk := hr.node k hk
  have nx := hr.node x hx
  have h1 : k ≠ q := ne_mem hk hn
  have h2 : x ≠ q := ne_mem hx hn
  refine ⟨?_, ?_, ?_, ?_⟩
  · rw [ins_B nk hq nx nk.1, if_pos rfl]
  · rw [ins_B nk hq nx hq.1, if_neg (Ne.symm h1), if_pos rfl]
  · rw [ins_A nk hq nx nx.1, if_pos rfl]
  · rw [ins_A nk hq nx hq.1, if_neg (Ne.symm h2), if_pos rfl]

end Go.Proofs.Ytlbmknnpglandaa
