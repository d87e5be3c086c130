/- Rings of links between places that lie three words apart. No program in sight. -/
import Derived.Test.YtbjlapfcnldpoaaTRootsP
namespace Go.Proofs.Ytbjlapfcnldpoaa
set_option linter.unusedVariables false
set_option linter.unusedSimpArgs false
open Go.RowKit

/-- Places that lie three words apart. -/
class Sep (P : Nat → Prop) : Prop where
  sep : ∀ {u v : Nat}, P u → P v → u = v ∨ u + 3 ≤ v ∨ v + 3 ≤ u
variable {P : Nat → Prop}

theorem wat_set (W : List Nat) (p x q : Nat) (hp : p < W.length) : wat (W.set p x) q = if q = p then x else wat W q := by
  unfold wat
  simp only [List.getD_eq_getElem?_getD]
  by_cases h : q = p
  · subst h
    rw [List.getElem?_set_self hp, if_pos rfl]
    rfl
  · rw [List.getElem?_set_ne (by omega), if_neg h]

theorem ne_mem {a b : Nat} {L : List Nat} (ha : a ∈ L) (hb : b ∉ L) : a ≠ b := by
  intro e
  subst e
  exact hb ha

/-- u is a place of a member: three words. -/
def Node (P : Nat → Prop) (W : List Nat) (u : Nat) : Prop := P u ∧ u + 2 < W.length

theorem ins_B [Sep P] {W : List Nat} {p q x u : Nat} (hp : Node P W p) (hq : Node P W q) (hx : Node P W x) (hu : P u) :
    wat (setAll W [(q, 1, p), (q, 2, x), (p, 2, q), (x, 1, q)]) (u + 2) = if u = p then q else if u = q then x else wat W (u + 2) := by
  obtain ⟨hp1, hp2⟩ := hp
  obtain ⟨hq1, hq2⟩ := hq
  obtain ⟨hx1, hx2⟩ := hx
  have sp := Sep.sep hu hp1
  have sq := Sep.sep hu hq1
  have sx := Sep.sep hu hx1
  simp only [setAll, List.foldl_cons, List.foldl_nil]
  rw [wat_set _ _ _ _ (by simp; omega), wat_set _ _ _ _ (by simp; omega), wat_set _ _ _ _ (by simp; omega), wat_set _ _ _ _ (by omega)]
  rw [if_neg (show ¬ u + 2 = x + 1 by omega), if_neg (show ¬ u + 2 = q + 1 by omega)]
  have e1 : (u + 2 = p + 2) = (u = p) := by apply propext; omega
  have e2 : (u + 2 = q + 2) = (u = q) := by apply propext; omega
  simp only [e1, e2]
theorem ins_A [Sep P] {W : List Nat} {p q x u : Nat} (hp : Node P W p) (hq : Node P W q) (hx : Node P W x) (hu : P u) :
    wat (setAll W [(q, 1, p), (q, 2, x), (p, 2, q), (x, 1, q)]) (u + 1) = if u = x then q else if u = q then p else wat W (u + 1) := by
  obtain ⟨hp1, hp2⟩ := hp
  obtain ⟨hq1, hq2⟩ := hq
  obtain ⟨hx1, hx2⟩ := hx
  have sp := Sep.sep hu hp1
  have sq := Sep.sep hu hq1
  have sx := Sep.sep hu hx1
  simp only [setAll, List.foldl_cons, List.foldl_nil]
  rw [wat_set _ _ _ _ (by simp; omega), wat_set _ _ _ _ (by simp; omega), wat_set _ _ _ _ (by simp; omega), wat_set _ _ _ _ (by omega)]
  rw [if_neg (show ¬ u + 1 = p + 2 by omega), if_neg (show ¬ u + 1 = q + 2 by omega)]
  have e1 : (u + 1 = x + 1) = (u = x) := by apply propext; omega
  have e2 : (u + 1 = q + 1) = (u = q) := by apply propext; omega
  simp only [e1, e2]
theorem rem_B [Sep P] {W : List Nat} {q a x u : Nat} (ha : Node P W a) (hq : Node P W q) (hx : Node P W x) (hu : P u) :
    wat (setAll W [(a, 2, x), (x, 1, a), (q, 1, q), (q, 2, q)]) (u + 2) = if u = q then q else if u = a then x else wat W (u + 2) := by
  obtain ⟨ha1, ha2⟩ := ha
  obtain ⟨hq1, hq2⟩ := hq
  obtain ⟨hx1, hx2⟩ := hx
  have sa := Sep.sep hu ha1
  have sq := Sep.sep hu hq1
  have sx := Sep.sep hu hx1
  simp only [setAll, List.foldl_cons, List.foldl_nil]
  rw [wat_set _ _ _ _ (by simp; omega), wat_set _ _ _ _ (by simp; omega), wat_set _ _ _ _ (by simp; omega), wat_set _ _ _ _ (by omega)]
  rw [if_neg (show ¬ u + 2 = x + 1 by omega), if_neg (show ¬ u + 2 = q + 1 by omega)]
  have e1 : (u + 2 = a + 2) = (u = a) := by apply propext; omega
  have e2 : (u + 2 = q + 2) = (u = q) := by apply propext; omega
  simp only [e1, e2]
theorem rem_A [Sep P] {W : List Nat} {q a x u : Nat} (ha : Node P W a) (hq : Node P W q) (hx : Node P W x) (hu : P u) :
    wat (setAll W [(a, 2, x), (x, 1, a), (q, 1, q), (q, 2, q)]) (u + 1) = if u = q then q else if u = x then a else wat W (u + 1) := by
  obtain ⟨ha1, ha2⟩ := ha
  obtain ⟨hq1, hq2⟩ := hq
  obtain ⟨hx1, hx2⟩ := hx
  have sa := Sep.sep hu ha1
  have sq := Sep.sep hu hq1
  have sx := Sep.sep hu hx1
  simp only [setAll, List.foldl_cons, List.foldl_nil]
  rw [wat_set _ _ _ _ (by simp; omega), wat_set _ _ _ _ (by simp; omega), wat_set _ _ _ _ (by simp; omega), wat_set _ _ _ _ (by omega)]
  rw [if_neg (show ¬ u + 1 = a + 2 by omega), if_neg (show ¬ u + 1 = q + 2 by omega)]
  have e1 : (u + 1 = x + 1) = (u = x) := by apply propext; omega
  have e2 : (u + 1 = q + 1) = (u = q) := by apply propext; omega
  simp only [e1, e2]
theorem join_B [Sep P] {W : List Nat} {p q f l z u : Nat} (hp : Node P W p) (hq : Node P W q) (hf : Node P W f) (hl : Node P W l) (hz : Node P W z) (hu : P u) :
    wat (setAll W [(z, 2, f), (f, 1, z), (l, 2, p), (p, 1, l), (q, 1, q), (q, 2, q)]) (u + 2) = if u = q then q else if u = l then p else if u = z then f else wat W (u + 2) := by
  obtain ⟨hp1, hp2⟩ := hp
  obtain ⟨hq1, hq2⟩ := hq
  obtain ⟨hf1, hf2⟩ := hf
  obtain ⟨hl1, hl2⟩ := hl
  obtain ⟨hz1, hz2⟩ := hz
  have sp := Sep.sep hu hp1
  have sq := Sep.sep hu hq1
  have sf := Sep.sep hu hf1
  have sl := Sep.sep hu hl1
  have sz := Sep.sep hu hz1
  simp only [setAll, List.foldl_cons, List.foldl_nil]
  rw [wat_set _ _ _ _ (by simp; omega), wat_set _ _ _ _ (by simp; omega), wat_set _ _ _ _ (by simp; omega), wat_set _ _ _ _ (by simp; omega), wat_set _ _ _ _ (by simp; omega), wat_set _ _ _ _ (by omega)]
  rw [if_neg (show ¬ u + 2 = p + 1 by omega), if_neg (show ¬ u + 2 = q + 1 by omega), if_neg (show ¬ u + 2 = f + 1 by omega)]
  have e1 : (u + 2 = l + 2) = (u = l) := by apply propext; omega
  have e2 : (u + 2 = q + 2) = (u = q) := by apply propext; omega
  have e3 : (u + 2 = z + 2) = (u = z) := by apply propext; omega
  simp only [e1, e2, e3]
theorem join_A [Sep P] {W : List Nat} {p q f l z u : Nat} (hp : Node P W p) (hq : Node P W q) (hf : Node P W f) (hl : Node P W l) (hz : Node P W z) (hu : P u) :
    wat (setAll W [(z, 2, f), (f, 1, z), (l, 2, p), (p, 1, l), (q, 1, q), (q, 2, q)]) (u + 1) = if u = q then q else if u = p then l else if u = f then z else wat W (u + 1) := by
  obtain ⟨hp1, hp2⟩ := hp
  obtain ⟨hq1, hq2⟩ := hq
  obtain ⟨hf1, hf2⟩ := hf
  obtain ⟨hl1, hl2⟩ := hl
  obtain ⟨hz1, hz2⟩ := hz
  have sp := Sep.sep hu hp1
  have sq := Sep.sep hu hq1
  have sf := Sep.sep hu hf1
  have sl := Sep.sep hu hl1
  have sz := Sep.sep hu hz1
  simp only [setAll, List.foldl_cons, List.foldl_nil]
  rw [wat_set _ _ _ _ (by simp; omega), wat_set _ _ _ _ (by simp; omega), wat_set _ _ _ _ (by simp; omega), wat_set _ _ _ _ (by simp; omega), wat_set _ _ _ _ (by simp; omega), wat_set _ _ _ _ (by omega)]
  rw [if_neg (show ¬ u + 1 = q + 2 by omega), if_neg (show ¬ u + 1 = l + 2 by omega), if_neg (show ¬ u + 1 = z + 2 by omega)]
  have e1 : (u + 1 = p + 1) = (u = p) := by apply propext; omega
  have e2 : (u + 1 = q + 1) = (u = q) := by apply propext; omega
  have e3 : (u + 1 = f + 1) = (u = f) := by apply propext; omega
  simp only [e1, e2, e3]
theorem init_B [Sep P] {W : List Nat} {p u : Nat} (hp : Node P W p) (hu : P u) : wat (setAll W [(p, 1, p), (p, 2, p)]) (u + 2) = if u = p then p else wat W (u + 2) := by
  obtain ⟨hp1, hp2⟩ := hp
  have sp := Sep.sep hu hp1
  simp only [setAll, List.foldl_cons, List.foldl_nil]
  rw [wat_set _ _ _ _ (by simp; omega), wat_set _ _ _ _ (by omega)]
  rw [if_neg (show ¬ u + 2 = p + 1 by omega)]
  have e1 : (u + 2 = p + 2) = (u = p) := by apply propext; omega
  simp only [e1]
theorem init_A [Sep P] {W : List Nat} {p u : Nat} (hp : Node P W p) (hu : P u) : wat (setAll W [(p, 1, p), (p, 2, p)]) (u + 1) = if u = p then p else wat W (u + 1) := by
  obtain ⟨hp1, hp2⟩ := hp
  have sp := Sep.sep hu hp1
  simp only [setAll, List.foldl_cons, List.foldl_nil]
  rw [wat_set _ _ _ _ (by simp; omega), wat_set _ _ _ _ (by omega)]
  rw [if_neg (show ¬ u + 1 = p + 2 by omega)]
  have e1 : (u + 1 = p + 1) = (u = p) := by apply propext; omega
  simp only [e1]

/-- y stands behind x. -/
def Link (W : List Nat) (x y : Nat) : Prop := wat W (x + 2) = y ∧ wat W (y + 1) = x
/-- L stand behind x, one behind the other. -/
def Path (W : List Nat) : Nat → List Nat → Prop
  | _, [] => True
  | x, y :: L => Link W x y ∧ Path W y L
/-- The last of x :: L. -/
def lastOf : Nat → List Nat → Nat
  | x, [] => x
  | _, y :: L => lastOf y L
/-- L stand in the ring behind h. -/
structure Ring (P : Nat → Prop) (W : List Nat) (h : Nat) (L : List Nat) : Prop where
  path : Path W h L
  back : Link W (lastOf h L) h
  nodup : (h :: L).Nodup
  node : ∀ u ∈ h :: L, Node P W u

theorem lastOf_mem (x : Nat) (L : List Nat) : lastOf x L ∈ x :: L := by
  induction L generalizing x with
  | nil => simp [lastOf]
  | cons y L ih => simp only [lastOf]; exact List.mem_cons_of_mem _ (ih y)
theorem lastOf_append (x y : Nat) (L M : List Nat) : lastOf x (L ++ y :: M) = lastOf y M := by
  induction L generalizing x with
  | nil => rfl
  | cons z L ih => exact ih z
theorem Path_append (W : List Nat) (x y : Nat) (L M : List Nat) : Path W x (L ++ y :: M) ↔ Path W x L ∧ Link W (lastOf x L) y ∧ Path W y M := by
  induction L generalizing x with
  | nil => simp [Path, lastOf]
  | cons z L ih => simp only [List.cons_append, Path, lastOf, ih z, and_assoc]
/-- Words that a path reads. -/
theorem Path.frame {W W' : List Nat} {x : Nat} {L : List Nat} (h : Path W x L) (hn : (x :: L).Nodup) (hB : ∀ u ∈ x :: L, u ≠ lastOf x L → wat W' (u + 2) = wat W (u + 2)) (hA : ∀ u ∈ L, wat W' (u + 1) = wat W (u + 1)) : Path W' x L := by
  induction L generalizing x with
  | nil => trivial
  | cons y L ih =>
    obtain ⟨h1, h2⟩ := h
    have hxl : x ≠ lastOf x (y :: L) := by
      have := lastOf_mem y L
      intro e
      rw [show lastOf x (y :: L) = lastOf y L from rfl] at e
      rw [← e] at this
      exact (List.nodup_cons.1 hn).1 this
    refine ⟨⟨by rw [hB x (by simp) hxl]; exact h1.1, by rw [hA y (by simp)]; exact h1.2⟩, ih h2 (List.nodup_cons.1 hn).2 (fun u hu hul => hB u (List.mem_cons_of_mem _ hu) hul) (fun u hu => hA u (List.mem_cons_of_mem _ hu))⟩

theorem Ring.frame {W W' : List Nat} {h : Nat} {L : List Nat} (hr : Ring P W h L) (hl : W'.length = W.length) (hB : ∀ u ∈ h :: L, wat W' (u + 2) = wat W (u + 2)) (hA : ∀ u ∈ h :: L, wat W' (u + 1) = wat W (u + 1)) : Ring P W' h L := by
  refine ⟨hr.path.frame hr.nodup (fun u hu _ => hB u hu) (fun u hu => hA u (List.mem_cons_of_mem _ hu)), ⟨?_, ?_⟩, hr.nodup, fun u hu => ?_⟩
  · rw [hB _ (lastOf_mem h L)]; exact hr.back.1
  · rw [hA h (by simp)]; exact hr.back.2
  · have := hr.node u hu
    exact ⟨this.1, by rw [hl]; exact this.2⟩

/-- The one behind x, of x :: L, in the ring of h. -/
theorem ring_links {W : List Nat} {h : Nat} {L : List Nat} (hr : Ring P W h L) (k : Nat) (hk : k ≤ L.length) :
    Link W ((h :: L).getD k 0) (L.getD k h) := by
  have key : ∀ (x : Nat) (L : List Nat), Path W x L → Link W (lastOf x L) h → ∀ k, k ≤ L.length → Link W ((x :: L).getD k 0) (L.getD k h) := by
    intro x L
    induction L generalizing x with
    | nil =>
      intro _ hb k hk
      obtain rfl : k = 0 := by simpa using hk
      simpa [lastOf] using hb
    | cons y L ih =>
      intro hp hb k hk
      cases k with
      | zero => simpa using hp.1
      | succ k => simpa using ih y hp.2 hb k (by simpa using hk)
  exact key h L hr.path hr.back k hk
theorem ring_next {W : List Nat} {h k : Nat} {L : List Nat} (hr : Ring P W h L) (hk : k ∈ h :: L) : wat W (k + 2) ∈ h :: L := by
  obtain ⟨i, hi, rfl⟩ := List.getElem_of_mem hk
  have hl := ring_links hr i (by simpa using Nat.le_of_lt_succ hi)
  rw [show (h :: L).getD i 0 = (h :: L)[i] by rw [List.getD_eq_getElem?_getD, List.getElem?_eq_getElem hi]; rfl] at hl
  rw [hl.1]
  by_cases h2 : i < L.length
  · rw [show L.getD i h = L[i] by simp [List.getD, h2]]; exact List.mem_cons_of_mem _ (List.getElem_mem h2)
  · rw [show L.getD i h = h by simp [List.getD, List.getElem?_eq_none (by omega : L.length ≤ i)]]; simp
theorem ring_prev {W : List Nat} {h : Nat} {L : List Nat} (hr : Ring P W h L) : wat W (h + 1) = lastOf h L := hr.back.2

/-- q is put behind the head p. -/
theorem ring_insert [Sep P] {W : List Nat} {p q : Nat} {L : List Nat} (hr : Ring P W p L) (hq : Node P W q) (hn : q ∉ p :: L) :
    Ring P (setAll W [(q, 1, p), (q, 2, wat W (p + 2)), (p, 2, q), (wat W (p + 2), 1, q)]) p (q :: L) := by
  obtain ⟨x, hx⟩ : ∃ x, wat W (p + 2) = x := ⟨_, rfl⟩
  have hxm : x ∈ p :: L := by rw [← hx]; exact ring_next hr (by simp)
  rw [hx]
  have np := hr.node p (by simp)
  have nx := hr.node x hxm
  have hqx : q ≠ x := fun e => hn (e ▸ hxm)
  have hqp : q ≠ p := fun e => hn (by simp [e])
  have B := fun u (hu : P u) => ins_B np hq nx hu
  have A := fun u (hu : P u) => ins_A np hq nx hu
  have hnd : (p :: q :: L).Nodup := by
    have h1 := List.nodup_cons.1 hr.nodup
    simp only [List.nodup_cons, List.mem_cons, not_or] at hn ⊢
    exact ⟨⟨fun e => hqp e.symm, h1.1⟩, hn.2, h1.2⟩
  have hnode : ∀ u ∈ p :: q :: L, Node P (setAll W [(q, 1, p), (q, 2, x), (p, 2, q), (x, 1, q)]) u := by
    intro u hu
    have : Node P W u := by
      simp only [List.mem_cons] at hu
      rcases hu with rfl | rfl | hu
      · exact np
      · exact hq
      · exact hr.node u (by simp [hu])
    exact ⟨this.1, by rw [setAll_length]; exact this.2⟩
  have l1 : Link (setAll W [(q, 1, p), (q, 2, x), (p, 2, q), (x, 1, q)]) p q := by
    refine ⟨?_, ?_⟩
    · rw [B p np.1, if_pos rfl]
    · rw [A q hq.1, if_neg hqx, if_pos rfl]
  have l2 : Link (setAll W [(q, 1, p), (q, 2, x), (p, 2, q), (x, 1, q)]) q x := by
    refine ⟨?_, ?_⟩
    · rw [B q hq.1, if_neg hqp, if_pos rfl]
    · rw [A x nx.1, if_pos rfl]
  cases L with
  | nil =>
    have : x = p := by simpa using hxm
    subst this
    exact ⟨⟨l1, trivial⟩, l2, hnd, hnode⟩
  | cons y M =>
    have hxy : x = y := by rw [← hx]; exact hr.path.1.1
    subst hxy
    have hnm : (x :: M).Nodup := (List.nodup_cons.1 hr.nodup).2
    have hpm : p ∉ x :: M := (List.nodup_cons.1 hr.nodup).1
    refine ⟨⟨l1, l2, hr.path.2.frame hnm (fun u hu _ => ?_) (fun u hu => ?_)⟩, ⟨?_, ?_⟩, hnd, hnode⟩
    · have := hr.node u (List.mem_cons_of_mem _ hu)
      rw [B u this.1, if_neg (ne_mem hu hpm), if_neg (fun e => hn (by rw [← e]; exact List.mem_cons_of_mem _ hu))]
    · have := hr.node u (List.mem_cons_of_mem _ (List.mem_cons_of_mem _ hu))
      rw [A u this.1, if_neg (ne_mem hu (List.nodup_cons.1 hnm).1), if_neg (fun e => hn (by rw [← e]; simp [hu]))]
    · have hlm := lastOf_mem x M
      have hll : lastOf p (q :: x :: M) = lastOf x M := rfl
      rw [hll]
      have := hr.node (lastOf x M) (List.mem_cons_of_mem _ hlm)
      rw [B _ this.1, if_neg (ne_mem hlm hpm), if_neg (fun e => hn (by rw [← e]; exact List.mem_cons_of_mem _ hlm))]
      exact hr.back.1
    · have hll : lastOf p (q :: x :: M) = lastOf p (x :: M) := rfl
      rw [hll, A p np.1, if_neg (fun e => hpm (by simp [e])), if_neg (fun e => hqp e.symm)]
      exact hr.back.2
/-- What is done to one ring is nothing to another one. -/
theorem insert_other [Sep P] {W : List Nat} {p q h : Nat} {L M : List Nat} (hr : Ring P W p L) (hq : Node P W q) (ho : Ring P W h M) (hd : ∀ u ∈ h :: M, u ∉ p :: L ∧ u ≠ q) :
    Ring P (setAll W [(q, 1, p), (q, 2, wat W (p + 2)), (p, 2, q), (wat W (p + 2), 1, q)]) h M := by
  have hxm : wat W (p + 2) ∈ p :: L := ring_next hr (by simp)
  have np := hr.node p (by simp)
  have nx := hr.node _ hxm
  refine ho.frame (setAll_length _ _) (fun u hu => ?_) (fun u hu => ?_)
  · obtain ⟨h1, h2⟩ := hd u hu
    rw [ins_B np hq nx (ho.node u hu).1, if_neg (fun e => h1 (by simp [e])), if_neg h2]
  · obtain ⟨h1, h2⟩ := hd u hu
    rw [ins_A np hq nx (ho.node u hu).1, if_neg (fun e => h1 (by rw [e]; exact hxm)), if_neg h2]

def Lone (W : List Nat) (u : Nat) : Prop := wat W (u + 1) = u ∧ wat W (u + 2) = u
theorem lone_ring {W : List Nat} {u : Nat} (h : Lone W u) (hn : Node P W u) : Ring P W u [] :=
  ⟨trivial, ⟨h.2, h.1⟩, by simp, fun x hx => by simp at hx; subst hx; exact hn⟩
theorem ring_lone {W : List Nat} {u : Nat} (h : Ring P W u []) : Lone W u := ⟨h.back.2, h.back.1⟩

theorem ring_mod {W : List Nat} {h : Nat} {L : List Nat} (hr : Ring P W h L) {u : Nat} (hu : u ∈ h :: L) : P u := (hr.node u hu).1

/-- The ring of q, that has members, is put into p's, behind p's last. -/
theorem ring_join [Sep P] {W : List Nat} {p q f : Nat} {L M : List Nat} (hp : Ring P W p L) (hq : Ring P W q (f :: M)) (hd : ∀ u ∈ p :: L, u ∉ q :: f :: M) :
    Ring P (setAll W [(lastOf p L, 2, f), (f, 1, lastOf p L), (lastOf f M, 2, p), (p, 1, lastOf f M), (q, 1, q), (q, 2, q)]) p (L ++ f :: M) ∧
    Lone (setAll W [(lastOf p L, 2, f), (f, 1, lastOf p L), (lastOf f M, 2, p), (p, 1, lastOf f M), (q, 1, q), (q, 2, q)]) q := by
  have hzm := lastOf_mem p L
  have hlm0 := lastOf_mem f M
  have hlm : lastOf f M ∈ q :: f :: M := List.mem_cons_of_mem _ hlm0
  obtain ⟨z, hz⟩ : ∃ z, lastOf p L = z := ⟨_, rfl⟩
  obtain ⟨l, hl⟩ : ∃ l, lastOf f M = l := ⟨_, rfl⟩
  rw [hz] at hzm
  rw [hl] at hlm hlm0
  rw [hz, hl]
  have np := hp.node p (by simp)
  have nz := hp.node z hzm
  have nq := hq.node q (by simp)
  have nf := hq.node f (by simp)
  have nl := hq.node l hlm
  have B := fun u (hu : P u) => join_B np nq nf nl nz hu
  have A := fun u (hu : P u) => join_A np nq nf nl nz hu
  have hpq : p ≠ q := fun e => hd p (by simp) (by simp [e])
  have hpf : p ≠ f := fun e => hd p (by simp) (by simp [e])
  have hzq : z ≠ q := fun e => hd z hzm (by simp [e])
  have hzf : z ≠ f := fun e => hd z hzm (by simp [e])
  have hzl : z ≠ l := fun e => hd z hzm (by rw [e]; exact hlm)
  have hqn := List.nodup_cons.1 hq.nodup
  have hfn := List.nodup_cons.1 hqn.2
  have hqf : q ≠ f := fun e => hqn.1 (by simp [e])
  have hql : q ≠ l := fun e => hqn.1 (by rw [e]; exact hlm0)
  have hpn := List.nodup_cons.1 hp.nodup
  refine ⟨⟨?_, ?_, ?_, ?_⟩, ?_⟩
  · rw [Path_append, hz]
    refine ⟨hp.path.frame hp.nodup (fun u hu hne => ?_) (fun u hu => ?_), ⟨?_, ?_⟩, hq.path.2.frame hqn.2 (fun u hu hne => ?_) (fun u hu => ?_)⟩
    · rw [hz] at hne
      have h1 : u ≠ q := fun e => hd u hu (by simp [e])
      have h2 : u ≠ l := fun e => hd u hu (by rw [e]; exact hlm)
      rw [B u (ring_mod hp hu), if_neg h1, if_neg h2, if_neg hne]
    · have hu' : u ∈ p :: L := List.mem_cons_of_mem _ hu
      have h1 : u ≠ q := fun e => hd u hu' (by simp [e])
      have h2 : u ≠ f := fun e => hd u hu' (by simp [e])
      rw [A u (ring_mod hp hu'), if_neg h1, if_neg (ne_mem hu hpn.1), if_neg h2]
    · rw [B z nz.1, if_neg hzq, if_neg hzl, if_pos rfl]
    · rw [A f nf.1, if_neg (Ne.symm hqf), if_neg (Ne.symm hpf), if_pos rfl]
    · rw [hl] at hne
      have hu' : u ∈ q :: f :: M := List.mem_cons_of_mem _ hu
      have h1 : u ≠ z := fun e => hd z hzm (by rw [← e]; exact hu')
      rw [B u (ring_mod hq hu'), if_neg (ne_mem hu hqn.1), if_neg hne, if_neg h1]
    · have hu1 : u ∈ f :: M := List.mem_cons_of_mem _ hu
      have hu' : u ∈ q :: f :: M := List.mem_cons_of_mem _ hu1
      have h1 : u ≠ p := fun e => hd p (by simp) (by rw [← e]; exact hu')
      rw [A u (ring_mod hq hu'), if_neg (ne_mem hu1 hqn.1), if_neg h1, if_neg (ne_mem hu hfn.1)]
  · rw [lastOf_append, hl]
    refine ⟨?_, ?_⟩
    · rw [B l nl.1, if_neg (Ne.symm hql), if_pos rfl]
    · rw [A p np.1, if_neg hpq, if_pos rfl]
  · rw [List.nodup_cons, List.nodup_append]
    refine ⟨?_, hpn.2, hqn.2, ?_⟩
    · intro h
      rcases List.mem_append.1 h with h | h
      · exact hpn.1 h
      · exact hd p (by simp) (List.mem_cons_of_mem _ h)
    · intro a ha b hb e
      subst e
      exact hd a (List.mem_cons_of_mem _ ha) (List.mem_cons_of_mem _ hb)
  · intro u hu
    have : Node P W u := by
      rcases List.mem_cons.1 hu with rfl | hu
      · exact np
      · rcases List.mem_append.1 hu with h | h
        · exact hp.node u (List.mem_cons_of_mem _ h)
        · exact hq.node u (List.mem_cons_of_mem _ h)
    exact ⟨this.1, by rw [setAll_length]; exact this.2⟩
  · refine ⟨?_, ?_⟩
    · rw [A q nq.1, if_pos rfl]
    · rw [B q nq.1, if_pos rfl]
theorem join_other [Sep P] {W : List Nat} {p q f h : Nat} {L M N : List Nat} (hp : Ring P W p L) (hq : Ring P W q (f :: M)) (ho : Ring P W h N) (hd : ∀ u ∈ h :: N, u ∉ p :: L ∧ u ∉ q :: f :: M) :
    Ring P (setAll W [(lastOf p L, 2, f), (f, 1, lastOf p L), (lastOf f M, 2, p), (p, 1, lastOf f M), (q, 1, q), (q, 2, q)]) h N := by
  have hzm := lastOf_mem p L
  have hlm : lastOf f M ∈ q :: f :: M := List.mem_cons_of_mem _ (lastOf_mem f M)
  have np := hp.node p (by simp)
  have nz := hp.node _ hzm
  have nq := hq.node q (by simp)
  have nf := hq.node f (by simp)
  have nl := hq.node _ hlm
  refine ho.frame (setAll_length _ _) (fun u hu => ?_) (fun u hu => ?_)
  · obtain ⟨h1, h2⟩ := hd u hu
    rw [join_B np nq nf nl nz (ring_mod ho hu), if_neg (fun e => h2 (by simp [e])), if_neg (fun e => h2 (by rw [e]; exact hlm)), if_neg (fun e => h1 (by rw [e]; exact hzm))]
  · obtain ⟨h1, h2⟩ := hd u hu
    rw [join_A np nq nf nl nz (ring_mod ho hu), if_neg (fun e => h2 (by simp [e])), if_neg (fun e => h1 (by simp [e])), if_neg (fun e => h2 (by simp [e]))]

/-- Who stands ahead of q and behind it. -/
def headOr (h : Nat) : List Nat → Nat
  | [] => h
  | x :: _ => x
theorem ring_around {W : List Nat} {h q : Nat} {L M : List Nat} (hr : Ring P W h (L ++ q :: M)) : wat W (q + 1) = lastOf h L ∧ wat W (q + 2) = headOr h M := by
  obtain ⟨h1, h2, h3⟩ := (Path_append W h q L M).1 hr.path
  refine ⟨h2.2, ?_⟩
  cases M with
  | nil =>
    have := hr.back.1
    rw [lastOf_append] at this
    exact this
  | cons x M => exact h3.1.1

/-- q is taken out of its ring. -/
theorem ring_remove [Sep P] {W : List Nat} {h q : Nat} {L M : List Nat} (hr : Ring P W h (L ++ q :: M)) :
    Ring P (setAll W [(lastOf h L, 2, headOr h M), (headOr h M, 1, lastOf h L), (q, 1, q), (q, 2, q)]) h (L ++ M) ∧
    Lone (setAll W [(lastOf h L, 2, headOr h M), (headOr h M, 1, lastOf h L), (q, 1, q), (q, 2, q)]) q := by
  obtain ⟨h1, h2, h3⟩ := (Path_append W h q L M).1 hr.path
  have hnd := List.nodup_cons.1 hr.nodup
  have hnd2 := List.nodup_append.1 hnd.2
  have hqM := List.nodup_cons.1 hnd2.2.1
  have ham := lastOf_mem h L
  obtain ⟨a, ha⟩ : ∃ a, lastOf h L = a := ⟨_, rfl⟩
  rw [ha] at ham ⊢
  have haW : a ∈ h :: (L ++ q :: M) := by
    rcases List.mem_cons.1 ham with h | h
    · simp [h]
    · exact List.mem_cons_of_mem _ (List.mem_append_left _ h)
  have hqW : q ∈ h :: (L ++ q :: M) := by simp
  have hxm : headOr h M ∈ h :: M := by cases M <;> simp [headOr]
  have hxW : headOr h M ∈ h :: (L ++ q :: M) := by
    rcases List.mem_cons.1 hxm with h | h
    · simp [h]
    · exact List.mem_cons_of_mem _ (List.mem_append_right _ (List.mem_cons_of_mem _ h))
  have nh := hr.node h (by simp)
  have na := hr.node a haW
  have nq := hr.node q hqW
  have nx := hr.node _ hxW
  have hhq : h ≠ q := fun e => hnd.1 (by simp [e])
  have hLq : ∀ u ∈ L, u ≠ q := fun u hu => hnd2.2.2 u hu q (by simp)
  have hLM : ∀ u ∈ L, ∀ v ∈ M, u ≠ v := fun u hu v hv => hnd2.2.2 u hu v (List.mem_cons_of_mem _ hv)
  have hhL : h ∉ L := fun e => hnd.1 (List.mem_append_left _ e)
  have hhM : h ∉ M := fun e => hnd.1 (List.mem_append_right _ (List.mem_cons_of_mem _ e))
  have haq : a ≠ q := by
    rcases List.mem_cons.1 ham with h | h
    · rw [h]; exact hhq
    · exact hLq a h
  have B := fun u (hu : P u) => rem_B na nq nx hu
  have A := fun u (hu : P u) => rem_A na nq nx hu
  have hnodL : (h :: L).Nodup := List.nodup_cons.2 ⟨hhL, hnd2.1⟩
  have nodes : ∀ u, u ∈ h :: (L ++ M) → Node P W u := by
    intro u hu
    apply hr.node
    simp only [List.mem_cons, List.mem_append] at hu ⊢
    rcases hu with h | h | h
    · exact Or.inl h
    · exact Or.inr (Or.inl h)
    · exact Or.inr (Or.inr (Or.inr h))
  have hnodA : (h :: (L ++ M)).Nodup := by
    rw [List.nodup_cons, List.nodup_append]
    refine ⟨fun e => ?_, hnd2.1, hqM.2, fun u hu v hv => hLM u hu v hv⟩
    rcases List.mem_append.1 e with e | e
    · exact hhL e
    · exact hhM e
  have hlone : Lone (setAll W [(a, 2, headOr h M), (headOr h M, 1, a), (q, 1, q), (q, 2, q)]) q := by
    refine ⟨?_, ?_⟩
    · rw [A q nq.1, if_pos rfl]
    · rw [B q nq.1, if_pos rfl]
  have hpL : Path (setAll W [(a, 2, headOr h M), (headOr h M, 1, a), (q, 1, q), (q, 2, q)]) h L := by
    refine h1.frame hnodL (fun u hu hne => ?_) (fun u hu => ?_)
    · rw [ha] at hne
      have hm : P u := (nodes u (by rcases List.mem_cons.1 hu with e | e; simp [e]; simp [e])).1
      have huq : u ≠ q := by
        rcases List.mem_cons.1 hu with e | e
        · rw [e]; exact hhq
        · exact hLq u e
      rw [B u hm, if_neg huq, if_neg hne]
    · have hm : P u := (nodes u (by simp [hu])).1
      have hux : u ≠ headOr h M := by
        intro e
        rcases List.mem_cons.1 hxm with e2 | e2
        · exact hhL (by rw [← e2, ← e]; exact hu)
        · exact hLM u hu _ e2 e
      rw [A u hm, if_neg (hLq u hu), if_neg hux]
  refine ⟨?_, hlone⟩
  cases M with
  | nil =>
    simp only [headOr, List.append_nil] at *
    have A := fun u (hu : P u) => rem_A na nq nx hu
    have B := fun u (hu : P u) => rem_B na nq nx hu
    refine ⟨hpL, ?_, hnodL, fun u hu => ?_⟩
    · rw [ha]
      refine ⟨?_, ?_⟩
      · rw [B a na.1, if_neg haq, if_pos rfl]
      · rw [A h nh.1, if_neg hhq]; simp
    · have := nodes u hu
      exact ⟨this.1, by rw [setAll_length]; exact this.2⟩
  | cons x M =>
    simp only [headOr] at *
    have A := fun u (hu : P u) => rem_A na nq nx hu
    have B := fun u (hu : P u) => rem_B na nq nx hu
    have hqx : x ≠ q := fun e => hqM.1 (by simp [e])
    have hax : a ≠ x := by
      rcases List.mem_cons.1 ham with e | e
      · rw [e]; exact fun e2 => hhM (by simp [e2])
      · exact hLM a e x (by simp)
    have hxn := List.nodup_cons.1 hqM.2
    refine ⟨?_, ?_, hnodA, fun u hu => ?_⟩
    · rw [Path_append, ha]
      refine ⟨hpL, ⟨?_, ?_⟩, h3.2.frame hqM.2 (fun u hu hne => ?_) (fun u hu => ?_)⟩
      · rw [B a na.1, if_neg haq, if_pos rfl]
      · rw [A x nx.1, if_neg hqx]; simp
      · have hm : P u := (nodes u (List.mem_cons_of_mem _ (List.mem_append_right _ hu))).1
        have hua : u ≠ a := by
          rcases List.mem_cons.1 ham with e | e
          · rw [e]; exact ne_mem hu hhM
          · exact fun e2 => hLM a e u hu e2.symm
        rw [B u hm, if_neg (ne_mem hu hqM.1), if_neg hua]
      · have hu' : u ∈ x :: M := List.mem_cons_of_mem _ hu
        have hm : P u := (nodes u (List.mem_cons_of_mem _ (List.mem_append_right _ hu'))).1
        rw [A u hm, if_neg (ne_mem hu' hqM.1), if_neg (ne_mem hu hxn.1)]
    · have hb := hr.back
      rw [lastOf_append] at hb
      rw [lastOf_append]
      have hb1 : lastOf q (x :: M) = lastOf x M := rfl
      rw [hb1] at hb
      have hll := lastOf_mem x M
      have hm : P (lastOf x M) := (nodes _ (List.mem_cons_of_mem _ (List.mem_append_right _ hll))).1
      have hla : lastOf x M ≠ a := by
        rcases List.mem_cons.1 ham with e | e
        · rw [e]; exact ne_mem hll hhM
        · exact fun e2 => hLM a e _ hll e2.symm
      refine ⟨?_, ?_⟩
      · rw [B _ hm, if_neg (ne_mem hll hqM.1), if_neg hla]; exact hb.1
      · rw [A h nh.1, if_neg hhq, if_neg (fun e => hhM (by simp [e]))]; exact hb.2
    · have := nodes u hu
      exact ⟨this.1, by rw [setAll_length]; exact this.2⟩
theorem remove_other [Sep P] {W : List Nat} {h q g : Nat} {L M N : List Nat} (hr : Ring P W h (L ++ q :: M)) (ho : Ring P W g N) (hd : ∀ u ∈ g :: N, u ∉ h :: (L ++ q :: M)) :
    Ring P (setAll W [(lastOf h L, 2, headOr h M), (headOr h M, 1, lastOf h L), (q, 1, q), (q, 2, q)]) g N := by
  have ham : lastOf h L ∈ h :: (L ++ q :: M) := by
    rcases List.mem_cons.1 (lastOf_mem h L) with h | h
    · rw [h]; simp
    · exact List.mem_cons_of_mem _ (List.mem_append_left _ h)
  have hxm : headOr h M ∈ h :: (L ++ q :: M) := by
    cases M with
    | nil => simp [headOr]
    | cons x M => simp [headOr]
  have hqm : q ∈ h :: (L ++ q :: M) := by simp
  refine ho.frame (setAll_length _ _) (fun u hu => ?_) (fun u hu => ?_)
  · rw [rem_B (hr.node _ ham) (hr.node _ hqm) (hr.node _ hxm) (ring_mod ho hu), if_neg (fun e => hd u hu (by rw [e]; exact hqm)), if_neg (fun e => hd u hu (by rw [e]; exact ham))]
  · rw [rem_A (hr.node _ ham) (hr.node _ hqm) (hr.node _ hxm) (ring_mod ho hu), if_neg (fun e => hd u hu (by rw [e]; exact hqm)), if_neg (fun e => hd u hu (by rw [e]; exact hxm))]


theorem ring_rotate {W : List Nat} {h k : Nat} {L M : List Nat} (hr : Ring P W h (L ++ k :: M)) : Ring P W k (M ++ h :: L) := by
  obtain ⟨h1, h2, h3⟩ := (Path_append W h k L M).1 hr.path
  have hb := hr.back
  rw [lastOf_append] at hb
  have hperm : (k :: (M ++ h :: L)).Perm (h :: (L ++ k :: M)) := by
    have e1 : (k :: (M ++ h :: L)) = (k :: M) ++ (h :: L) := by simp
    have e2 : (h :: (L ++ k :: M)) = (h :: L) ++ (k :: M) := by simp
    rw [e1, e2]
    exact List.perm_append_comm
  refine ⟨(Path_append W k h M L).2 ⟨h3, hb, h1⟩, ?_, hperm.nodup_iff.2 hr.nodup, fun u hu => hr.node u (hperm.mem_iff.1 hu)⟩
  rw [lastOf_append]
  exact h2
/-- q is put behind k, anywhere in h's ring. -/
theorem ring_insert_at [Sep P] {W : List Nat} {h k q : Nat} {L M : List Nat} (hr : Ring P W h (L ++ k :: M)) (hq : Node P W q) (hn : q ∉ h :: (L ++ k :: M)) :
    Ring P (setAll W [(q, 1, k), (q, 2, wat W (k + 2)), (k, 2, q), (wat W (k + 2), 1, q)]) h (L ++ k :: q :: M) := by
  have h1 := ring_rotate hr
  have hn' : q ∉ k :: (M ++ h :: L) := by
    intro e
    apply hn
    simp only [List.mem_cons, List.mem_append] at e ⊢
    rcases e with e | e | e | e
    · exact Or.inr (Or.inr (Or.inl e))
    · exact Or.inr (Or.inr (Or.inr e))
    · exact Or.inl e
    · exact Or.inr (Or.inl e)
  have h2 := ring_insert h1 hq hn'
  have h3 : Ring P (setAll W [(q, 1, k), (q, 2, wat W (k + 2)), (k, 2, q), (wat W (k + 2), 1, q)]) k ((q :: M) ++ h :: L) := h2
  exact ring_rotate h3
theorem lastOf_snoc {h : Nat} {L : List Nat} (hL : L ≠ []) : ∃ A, L = A ++ [lastOf h L] := by
  induction L generalizing h with
  | nil => exact absurd rfl hL
  | cons x L ih =>
    by_cases e : L = []
    · subst e; exact ⟨[], rfl⟩
    · obtain ⟨A, hA⟩ := ih (h := x) e
      exact ⟨x :: A, by show x :: L = x :: A ++ [lastOf x L]; rw [List.cons_append, ← hA]⟩
/-- q is put at the end. -/
theorem ring_insert_last [Sep P] {W : List Nat} {h q : Nat} {L : List Nat} (hr : Ring P W h L) (hq : Node P W q) (hn : q ∉ h :: L) :
    Ring P (setAll W [(q, 1, lastOf h L), (q, 2, wat W (lastOf h L + 2)), (lastOf h L, 2, q), (wat W (lastOf h L + 2), 1, q)]) h (L ++ [q]) := by
  by_cases e : L = []
  · subst e
    exact ring_insert hr hq hn
  · obtain ⟨A, hA⟩ := lastOf_snoc (h := h) e
    obtain ⟨k, hk⟩ : ∃ k, lastOf h L = k := ⟨_, rfl⟩
    rw [hk] at hA ⊢
    rw [hA] at hr hn ⊢
    have := ring_insert_at hr hq hn
    simpa using this
/-- What is put into one ring is nothing to another one. -/
theorem insert_other_at [Sep P] {W : List Nat} {p k q h : Nat} {L M : List Nat} (hr : Ring P W p L) (hk : k ∈ p :: L) (hq : Node P W q) (ho : Ring P W h M) (hd : ∀ u ∈ h :: M, u ∉ p :: L ∧ u ≠ q) :
    Ring P (setAll W [(q, 1, k), (q, 2, wat W (k + 2)), (k, 2, q), (wat W (k + 2), 1, q)]) h M := by
  have hxm : wat W (k + 2) ∈ p :: L := ring_next hr hk
  have np := hr.node k hk
  have nx := hr.node _ hxm
  refine ho.frame (setAll_length _ _) (fun u hu => ?_) (fun u hu => ?_)
  · obtain ⟨h1, h2⟩ := hd u hu
    rw [ins_B np hq nx (ho.node u hu).1, if_neg (fun e => h1 (by rw [e]; exact hk)), if_neg h2]
  · obtain ⟨h1, h2⟩ := hd u hu
    rw [ins_A np hq nx (ho.node u hu).1, if_neg (fun e => h1 (by rw [e]; exact hxm)), if_neg h2]
/-- Words that are no links stay. -/
theorem wat_setAll {W : List Nat} {l : List Tie} {p : Nat} (h : ∀ t ∈ l, t.1 + t.2.1 ≠ p) : wat (setAll W l) p = wat W p := by
  unfold setAll
  induction l generalizing W with
  | nil => rfl
  | cons t l ih =>
    rw [List.foldl_cons, ih (fun t' ht' => h t' (List.mem_cons_of_mem _ ht'))]
    unfold wat
    simp only [List.getD]
    rw [List.getElem?_set_ne (h t List.mem_cons_self)]

end Go.Proofs.Ytbjlapfcnldpoaa
