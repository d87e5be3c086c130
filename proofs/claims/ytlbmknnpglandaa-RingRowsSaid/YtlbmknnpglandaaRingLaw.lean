/- Rings of links: what joins, puts in and takes out do to them. No program in sight. -/
import Derived.Test.YtlbmknnpglandaaRing2
namespace Go.Proofs.Ytlbmknnpglandaa
set_option linter.unusedVariables false
set_option linter.unusedSimpArgs false
open Go.RowKit

theorem wat_set (W : List Nat) (p x q : Nat) (hp : p < W.length) : wat (W.set p x) q = if q = p then x else wat W q := by
  unfold wat
  simp only [List.getD_eq_getElem?_getD]
  by_cases h : q = p
  · subst h
    rw [List.getElem?_set_self hp, if_pos rfl]
    rfl
  · rw [List.getElem?_set_ne (by omega), if_neg h]

theorem ne_mem {a b : Nat} {L : List Nat} (ha : a ∈ L) (hb : b ∉ L) : a ≠ b := by
  intro e
  subst e
  exact hb ha

/-- u is a place of a member: three words. -/
def Node (W : List Nat) (u : Nat) : Prop := u % 3 = 0 ∧ u + 2 < W.length

theorem ins_B {W : List Nat} {p q x u : Nat} (hp : Node W p) (hq : Node W q) (hx : Node W x) (hu : u % 3 = 0) :
    wat (setAll W [(q, 1, p), (q, 2, x), (p, 2, q), (x, 1, q)]) (u + 2) = if u = p then q else if u = q then x else wat W (u + 2) := by
  obtain ⟨hp1, hp2⟩ := hp
  obtain ⟨hq1, hq2⟩ := hq
  obtain ⟨hx1, hx2⟩ := hx
  simp only [setAll, List.foldl_cons, List.foldl_nil]
  rw [wat_set _ _ _ _ (by simp; omega), wat_set _ _ _ _ (by simp; omega), wat_set _ _ _ _ (by simp; omega), wat_set _ _ _ _ (by omega)]
  rw [if_neg (show ¬ u + 2 = x + 1 by omega), if_neg (show ¬ u + 2 = q + 1 by omega)]
  have e1 : (u + 2 = p + 2) = (u = p) := by apply propext; omega
  have e2 : (u + 2 = q + 2) = (u = q) := by apply propext; omega
  simp only [e1, e2]
theorem ins_A {W : List Nat} {p q x u : Nat} (hp : Node W p) (hq : Node W q) (hx : Node W x) (hu : u % 3 = 0) :
    wat (setAll W [(q, 1, p), (q, 2, x), (p, 2, q), (x, 1, q)]) (u + 1) = if u = x then q else if u = q then p else wat W (u + 1) := by
  obtain ⟨hp1, hp2⟩ := hp
  obtain ⟨hq1, hq2⟩ := hq
  obtain ⟨hx1, hx2⟩ := hx
  simp only [setAll, List.foldl_cons, List.foldl_nil]
  rw [wat_set _ _ _ _ (by simp; omega), wat_set _ _ _ _ (by simp; omega), wat_set _ _ _ _ (by simp; omega), wat_set _ _ _ _ (by omega)]
  rw [if_neg (show ¬ u + 1 = p + 2 by omega), if_neg (show ¬ u + 1 = q + 2 by omega)]
  have e1 : (u + 1 = x + 1) = (u = x) := by apply propext; omega
  have e2 : (u + 1 = q + 1) = (u = q) := by apply propext; omega
  simp only [e1, e2]
theorem rem_B {W : List Nat} {q a x u : Nat} (ha : Node W a) (hq : Node W q) (hx : Node W x) (hu : u % 3 = 0) :
    wat (setAll W [(a, 2, x), (x, 1, a), (q, 1, q), (q, 2, q)]) (u + 2) = if u = q then q else if u = a then x else wat W (u + 2) := by
  obtain ⟨ha1, ha2⟩ := ha
  obtain ⟨hq1, hq2⟩ := hq
  obtain ⟨hx1, hx2⟩ := hx
  simp only [setAll, List.foldl_cons, List.foldl_nil]
  rw [wat_set _ _ _ _ (by simp; omega), wat_set _ _ _ _ (by simp; omega), wat_set _ _ _ _ (by simp; omega), wat_set _ _ _ _ (by omega)]
  rw [if_neg (show ¬ u + 2 = x + 1 by omega), if_neg (show ¬ u + 2 = q + 1 by omega)]
  have e1 : (u + 2 = a + 2) = (u = a) := by apply propext; omega
  have e2 : (u + 2 = q + 2) = (u = q) := by apply propext; omega
  simp only [e1, e2]
theorem rem_A {W : List Nat} {q a x u : Nat} (ha : Node W a) (hq : Node W q) (hx : Node W x) (hu : u % 3 = 0) :
    wat (setAll W [(a, 2, x), (x, 1, a), (q, 1, q), (q, 2, q)]) (u + 1) = if u = q then q else if u = x then a else wat W (u + 1) := by
  obtain ⟨ha1, ha2⟩ := ha
  obtain ⟨hq1, hq2⟩ := hq
  obtain ⟨hx1, hx2⟩ := hx
  simp only [setAll, List.foldl_cons, List.foldl_nil]
  rw [wat_set _ _ _ _ (by simp; omega), wat_set _ _ _ _ (by simp; omega), wat_set _ _ _ _ (by simp; omega), wat_set _ _ _ _ (by omega)]
  rw [if_neg (show ¬ u + 1 = a + 2 by omega), if_neg (show ¬ u + 1 = q + 2 by omega)]
  have e1 : (u + 1 = x + 1) = (u = x) := by apply propext; omega
  have e2 : (u + 1 = q + 1) = (u = q) := by apply propext; omega
  simp only [e1, e2]
theorem join_B {W : List Nat} {p q f l z u : Nat} (hp : Node W p) (hq : Node W q) (hf : Node W f) (hl : Node W l) (hz : Node W z) (hu : u % 3 = 0) :
    wat (setAll W [(z, 2, f), (f, 1, z), (l, 2, p), (p, 1, l), (q, 1, q), (q, 2, q)]) (u + 2) = if u = q then q else if u = l then p else if u = z then f else wat W (u + 2) := by
  obtain ⟨hp1, hp2⟩ := hp
  obtain ⟨hq1, hq2⟩ := hq
  obtain ⟨hf1, hf2⟩ := hf
  obtain ⟨hl1, hl2⟩ := hl
  obtain ⟨hz1, hz2⟩ := hz
  simp only [setAll, List.foldl_cons, List.foldl_nil]
  rw [wat_set _ _ _ _ (by simp; omega), wat_set _ _ _ _ (by simp; omega), wat_set _ _ _ _ (by simp; omega), wat_set _ _ _ _ (by simp; omega), wat_set _ _ _ _ (by simp; omega), wat_set _ _ _ _ (by omega)]
  rw [if_neg (show ¬ u + 2 = p + 1 by omega), if_neg (show ¬ u + 2 = q + 1 by omega), if_neg (show ¬ u + 2 = f + 1 by omega)]
  have e1 : (u + 2 = l + 2) = (u = l) := by apply propext; omega
  have e2 : (u + 2 = q + 2) = (u = q) := by apply propext; omega
  have e3 : (u + 2 = z + 2) = (u = z) := by apply propext; omega
  simp only [e1, e2, e3]
theorem join_A {W : List Nat} {p q f l z u : Nat} (hp : Node W p) (hq : Node W q) (hf : Node W f) (hl : Node W l) (hz : Node W z) (hu : u % 3 = 0) :
    wat (setAll W [(z, 2, f), (f, 1, z), (l, 2, p), (p, 1, l), (q, 1, q), (q, 2, q)]) (u + 1) = if u = q then q else if u = p then l else if u = f then z else wat W (u + 1) := by
  obtain ⟨hp1, hp2⟩ := hp
  obtain ⟨hq1, hq2⟩ := hq
  obtain ⟨hf1, hf2⟩ := hf
  obtain ⟨hl1, hl2⟩ := hl
  obtain ⟨hz1, hz2⟩ := hz
  simp only [setAll, List.foldl_cons, List.foldl_nil]
  rw [wat_set _ _ _ _ (by simp; omega), wat_set _ _ _ _ (by simp; omega), wat_set _ _ _ _ (by simp; omega), wat_set _ _ _ _ (by simp; omega), wat_set _ _ _ _ (by simp; omega), wat_set _ _ _ _ (by omega)]
  rw [if_neg (show ¬ u + 1 = q + 2 by omega), if_neg (show ¬ u + 1 = l + 2 by omega), if_neg (show ¬ u + 1 = z + 2 by omega)]
  have e1 : (u + 1 = p + 1) = (u = p) := by apply propext; omega
  have e2 : (u + 1 = q + 1) = (u = q) := by apply propext; omega
  have e3 : (u + 1 = f + 1) = (u = f) := by apply propext; omega
  simp only [e1, e2, e3]
theorem init_B {W : List Nat} {p u : Nat} (hp : Node W p) (hu : u % 3 = 0) : wat (setAll W [(p, 1, p), (p, 2, p)]) (u + 2) = if u = p then p else wat W (u + 2) := by
  obtain ⟨hp1, hp2⟩ := hp
  simp only [setAll, List.foldl_cons, List.foldl_nil]
  rw [wat_set _ _ _ _ (by simp; omega), wat_set _ _ _ _ (by omega)]
  rw [if_neg (show ¬ u + 2 = p + 1 by omega)]
  have e1 : (u + 2 = p + 2) = (u = p) := by apply propext; omega
  simp only [e1]
theorem init_A {W : List Nat} {p u : Nat} (hp : Node W p) (hu : u % 3 = 0) : wat (setAll W [(p, 1, p), (p, 2, p)]) (u + 1) = if u = p then p else wat W (u + 1) := by
  obtain ⟨hp1, hp2⟩ := hp
  simp only [setAll, List.foldl_cons, List.foldl_nil]
  rw [wat_set _ _ _ _ (by simp; omega), wat_set _ _ _ _ (by omega)]
  rw [if_neg (show ¬ u + 1 = p + 2 by omega)]
  have e1 : (u + 1 = p + 1) = (u = p) := by apply propext; omega
  simp only [e1]

/-- y stands behind x. -/
def Link (W : List Nat) (x y : Nat) : Prop := wat W (x + 2) = y ∧ wat W (y + 1) = x
/-- L stand behind x, one behind the other. -/
def Path (W : List Nat) : Nat → List Nat → Prop
  | _, [] => True
  | x, y :: L => Link W x y ∧ Path W y L
/-- The last of x :: L. -/
def lastOf : Nat → List Nat → Nat
  | x, [] => x
  | _, y :: L => lastOf y L
/-- L stand in the ring behind h. -/
structure Ring (W : List Nat) (h : Nat) (L : List Nat) : Prop where
  path : Path W h L
  back : Link W (lastOf h L) h
  nodup : (h :: L).Nodup
  node : ∀ u ∈ h :: L, Node W u

theorem lastOf_mem (x : Nat) (L : List Nat) : lastOf x L ∈ x :: L := by
  induction L generalizing x with
  | nil => simp [lastOf]
  | cons y L ih => simp only [lastOf]; exact List.mem_cons_of_mem _ (ih y)
theorem lastOf_append (x y : Nat) (L M : List Nat) : lastOf x (L ++ y :: M) = lastOf y M := by
  induction L generalizing x with
  | nil => rfl
  | cons z L ih => exact ih z
theorem Path_append (W : List Nat) (x y : Nat) (L M : List Nat) : Path W x (L ++ y :: M) ↔ Path W x L ∧ Link W (lastOf x L) y ∧ Path W y M := by
  induction L generalizing x with
  | nil => simp [Path, lastOf]
  | cons z L ih => simp only [List.cons_append, Path, lastOf, ih z, and_assoc]
/-- Words that a path reads. -/
theorem Path.frame {W W' : List Nat} {x : Nat} {L : List Nat} (h : Path W x L) (hn : (x :: L).Nodup) (hB : ∀ u ∈ x :: L, u ≠ lastOf x L → wat W' (u + 2) = wat W (u + 2)) (hA : ∀ u ∈ L, wat W' (u + 1) = wat W (u + 1)) : Path W' x L := by
  induction L generalizing x with
  | nil => trivial
  | cons y L ih =>
    obtain ⟨h1, h2⟩ := h
    have hxl : x ≠ lastOf x (y :: L) := by
      have := lastOf_mem y L
      intro e
      rw [show lastOf x (y :: L) = lastOf y L from rfl] at e
      rw [← e] at this
      exact (List.nodup_cons.1 hn).1 this
    refine ⟨⟨by rw [hB x (by simp) hxl]; exact h1.1, by rw [hA y (by simp)]; exact h1.2⟩, ih h2 (List.nodup_cons.1 hn).2 (fun u hu hul => hB u (List.mem_cons_of_mem _ hu) hul) (fun u hu => hA u (List.mem_cons_of_mem _ hu))⟩

theorem Ring.frame {W W' : List Nat} {h : Nat} {L : List Nat} (hr : Ring W h L) (hl : W'.length = W.length) (hB : ∀ u ∈ h :: L, wat W' (u + 2) = wat W (u + 2)) (hA : ∀ u ∈ h :: L, wat W' (u + 1) = wat W (u + 1)) : Ring W' h L := by
  refine ⟨hr.path.frame hr.nodup (fun u hu _ => hB u hu) (fun u hu => hA u (List.mem_cons_of_mem _ hu)), ⟨?_, ?_⟩, hr.nodup, fun u hu => ?_⟩
  · rw [hB _ (lastOf_mem h L)]; exact hr.back.1
  · rw [hA h (by simp)]; exact hr.back.2
  · have := hr.node u hu
    exact ⟨this.1, by rw [hl]; exact this.2⟩

/-- The one behind x, of x :: L, in the ring of h. -/
theorem ring_links {W : List Nat} {h : Nat} {L : List Nat} (hr : Ring W h L) (k : Nat) (hk : k ≤ L.length) :
    Link W ((h :: L).getD k 0) (L.getD k h) := by
  have key : ∀ (x : Nat) (L : List Nat), Path W x L → Link W (lastOf x L) h → ∀ k, k ≤ L.length → Link W ((x :: L).getD k 0) (L.getD k h) := by
    intro x L
    induction L generalizing x with
    | nil =>
      intro _ hb k hk
      obtain rfl : k = 0 := by simpa using hk
      simpa [lastOf] using hb
    | cons y L ih =>
      intro hp hb k hk
      cases k with
      | zero => simpa using hp.1
      | succ k => simpa using ih y hp.2 hb k (by simpa using hk)
  exact key h L hr.path hr.back k hk
theorem ring_next {W : List Nat} {h k : Nat} {L : List Nat} (hr : Ring W h L) (hk : k ∈ h :: L) : wat W (k + 2) ∈ h :: L := by
  obtain ⟨i, hi, rfl⟩ := List.getElem_of_mem hk
  have hl := ring_links hr i (by simpa using Nat.le_of_lt_succ hi)
  rw [show (h :: L).getD i 0 = (h :: L)[i] by rw [List.getD_eq_getElem?_getD, List.getElem?_eq_getElem hi]; rfl] at hl
  rw [hl.1]
  by_cases h2 : i < L.length
  · rw [show L.getD i h = L[i] by simp [List.getD, h2]]; exact List.mem_cons_of_mem _ (List.getElem_mem h2)
  · rw [show L.getD i h = h by simp [List.getD, List.getElem?_eq_none (by omega : L.length ≤ i)]]; simp
theorem ring_prev {W : List Nat} {h : Nat} {L : List Nat} (hr : Ring W h L) : wat W (h + 1) = lastOf h L := hr.back.2

/-- q is put behind the head p. -/
theorem ring_insert {W : List Nat} {p q : Nat} {L : List Nat} (hr : Ring W p L) (hq : Node W q) (hn : q ∉ p :: L) :
    Ring (setAll W [(q, 1, p), (q, 2, wat W (p + 2)), (p, 2, q), (wat W (p + 2), 1, q)]) p (q :: L) := by
  obtain ⟨x, hx⟩ : ∃ x, wat W (p + 2) = x := ⟨_, rfl⟩
  have hxm : x ∈ p :: L := by rw [← hx]; exact ring_next hr (by simp)
  rw [hx]
  have np := hr.node p (by simp)
  have nx := hr.node x hxm
  have hqx : q ≠ x := fun e => hn (e ▸ hxm)
  have hqp : q ≠ p := fun e => hn (by simp [e])
  have B := fun u (hu : u % 3 = 0) => ins_B np hq nx hu
  have A := fun u (hu : u % 3 = 0) => ins_A np hq nx hu
  have hnd : (p :: q :: L).Nodup := by
    have h1 := List.nodup_cons.1 hr.nodup
    simp only [List.nodup_cons, List.mem_cons, not_or] at hn ⊢
    exact ⟨⟨fun e => hqp e.symm, h1.1⟩, hn.2, h1.2⟩
  have hnode : ∀ u ∈ p :: q :: L, Node (setAll W [(q, 1, p), (q, 2, x), (p, 2, q), (x, 1, q)]) u := by
    intro u hu
    have : Node W u := by
      simp only [List.mem_cons] at hu
      rcases hu with rfl | rfl | hu
      · exact np
      · exact hq
      · exact hr.node u (by simp [hu])
    exact ⟨this.1, by rw [setAll_length]; exact this.2⟩
  have l1 : Link (setAll W [(q, 1, p), (q, 2, x), (p, 2, q), (x, 1, q)]) p q := by
    refine ⟨?_, ?_⟩
    · rw [B p np.1, if_pos rfl]
    · rw [A q hq.1, if_neg hqx, if_pos rfl]
  have l2 : Link (setAll W [(q, 1, p), (q, 2, x), (p, 2, q), (x, 1, q)]) q x := by
    refine ⟨?_, ?_⟩
    · rw [B q hq.1, if_neg hqp, if_pos rfl]
    · rw [A x nx.1, if_pos rfl]
  cases L with
  | nil =>
    have : x = p := by simpa using hxm
    subst this
    exact ⟨⟨l1, trivial⟩, l2, hnd, hnode⟩
  | cons y M =>
    have hxy : x = y := by rw [← hx]; exact hr.path.1.1
    subst hxy
    have hnm : (x :: M).Nodup := (List.nodup_cons.1 hr.nodup).2
    have hpm : p ∉ x :: M := (List.nodup_cons.1 hr.nodup).1
    refine ⟨⟨l1, l2, hr.path.2.frame hnm (fun u hu _ => ?_) (fun u hu => ?_)⟩, ⟨?_, ?_⟩, hnd, hnode⟩
    · have := hr.node u (List.mem_cons_of_mem _ hu)
      rw [B u this.1, if_neg (ne_mem hu hpm), if_neg (fun e => hn (by rw [← e]; exact List.mem_cons_of_mem _ hu))]
    · have := hr.node u (List.mem_cons_of_mem _ (List.mem_cons_of_mem _ hu))
      rw [A u this.1, if_neg (ne_mem hu (List.nodup_cons.1 hnm).1), if_neg (fun e => hn (by rw [← e]; simp [hu]))]
    · have hlm := lastOf_mem x M
      have hll : lastOf p (q :: x :: M) = lastOf x M := rfl
      rw [hll]
      have := hr.node (lastOf x M) (List.mem_cons_of_mem _ hlm)
      rw [B _ this.1, if_neg (ne_mem hlm hpm), if_neg (fun e => hn (by rw [← e]; exact List.mem_cons_of_mem _ hlm))]
      exact hr.back.1
    · have hll : lastOf p (q :: x :: M) = lastOf p (x :: M) := rfl
      rw [hll, A p np.1, if_neg (fun e => hpm (by simp [e])), if_neg (fun e => hqp e.symm)]
      exact hr.back.2
/-- What is done to one ring is nothing to another one. -/
theorem insert_other {W : List Nat} {p q h : Nat} {L M : List Nat} (hr : Ring W p L) (hq : Node W q) (ho : Ring W h M) (hd : ∀ u ∈ h :: M, u ∉ p :: L ∧ u ≠ q) :
    Ring (setAll W [(q, 1, p), (q, 2, wat W (p + 2)), (p, 2, q), (wat W (p + 2), 1, q)]) h M := by
  have hxm : wat W (p + 2) ∈ p :: L := ring_next hr (by simp)
  have np := hr.node p (by simp)
  have nx := hr.node _ hxm
  refine ho.frame (setAll_length _ _) (fun u hu => ?_) (fun u hu => ?_)
  · obtain ⟨h1, h2⟩ := hd u hu
    rw [ins_B np hq nx (ho.node u hu).1, if_neg (fun e => h1 (by simp [e])), if_neg h2]
  · obtain ⟨h1, h2⟩ := hd u hu
    rw [ins_A np hq nx (ho.node u hu).1, if_neg (fun e => h1 (by rw [e]; exact hxm)), if_neg h2]

end Go.Proofs.Ytlbmknnpglandaa
