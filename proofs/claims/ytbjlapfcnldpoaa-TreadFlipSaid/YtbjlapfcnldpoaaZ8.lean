/- Part 8 of 11 of this proof's own texts, joined in build order by a program. -/
import Derived.Test.YtbjlapfcnldpoaaZ7
import Derived.Test.YtbjlapfcnldpoaaZ4
import Derived.Deep.AppendLies
import Derived.Deep.RegionLaw
/- What made asks: the world's flags, a new thing in it, what an iterator has left. No program in sight. -/
namespace Go.Proofs.Ytbjlapfcnldpoaa
set_option linter.unusedVariables false
set_option linter.unusedSimpArgs false
open Go.RowKit

theorem xcells_at {hb : Nat} {G : PG} {T : List Nat} {av : Value} {bad full : Bool} (h8 : G.regs.length = 8) :
    (xcells hb G T av bad full)[0]? = some (.pointer (some ⟨hb, 0, none⟩)) ∧ (xcells hb G T av bad full)[17]? = some av ∧ (xcells hb G T av bad full)[18]? = some (.bool bad) ∧ (xcells hb G T av bad full)[19]? = some (.bool full) := by
  obtain ⟨r0, r1, r2, r3, r4, r5, r6, r7, hregs⟩ := list8 h8
  unfold xcells
  rw [hregs]
  exact ⟨rfl, rfl, rfl, rfl⟩
theorem xcells_set {hb : Nat} {G : PG} {T : List Nat} {av : Value} {bad full : Bool} (h8 : G.regs.length = 8) (v : Value) (b : Bool) :
    (xcells hb G T av bad full).set 17 v = xcells hb G T v bad full ∧ (xcells hb G T av bad full).set 18 (.bool b) = xcells hb G T av b full ∧ (xcells hb G T av bad full).set 19 (.bool b) = xcells hb G T av bad b := by
  obtain ⟨r0, r1, r2, r3, r4, r5, r6, r7, hregs⟩ := list8 h8
  unfold xcells
  rw [hregs]
  exact ⟨rfl, rfl, rfl⟩
section
variable {w w' : World} {xb hb : Nat} {G : PG} {T U : List Nat} {bad full : Bool}
theorem RX.at0 (h : RX w xb hb G T U bad full) : w.cell? ⟨xb, 0, none⟩ = some (.pointer (some ⟨hb, 0, none⟩)) := by
  obtain ⟨av, base, h1, -⟩ := h.head
  rw [cell_of_heap h1, List.getElem?_toArray]; exact (xcells_at h.wf.len).1
theorem RX.at18 (h : RX w xb hb G T U bad full) : w.cell? ⟨xb, 18, none⟩ = some (.bool bad) := by
  obtain ⟨av, base, h1, -⟩ := h.head
  rw [cell_of_heap h1, List.getElem?_toArray]; exact (xcells_at h.wf.len).2.2.1
theorem RX.at19 (h : RX w xb hb G T U bad full) : w.cell? ⟨xb, 19, none⟩ = some (.bool full) := by
  obtain ⟨av, base, h1, -⟩ := h.head
  rw [cell_of_heap h1, List.getElem?_toArray]; exact (xcells_at h.wf.len).2.2.2
theorem RX.frozen (h : RX w xb hb G T U bad full) (i : Nat) : w.frozen? ⟨xb, i, none⟩ = false := by
  obtain ⟨av, base, h1, -⟩ := h.head
  exact frozen_of_heap h1 i
theorem RX.lt (h : RX w xb hb G T U bad full) : xb < w.heap.size := by
  obtain ⟨av, base, h1, -⟩ := h.head
  exact lt_of_heap h1
theorem RX.flag (h : RX w xb hb G T U bad full) {i : Nat} {v : Value} {bad' full' : Bool} (hv : ∀ av : Value, (xcells hb G T av bad full).set i v = xcells hb G T av bad' full') :
    RX (w.setCell ⟨xb, i, none⟩ v) xb hb G T U bad' full' ∧ Keeps (fun z => z = xb) w (w.setCell ⟨xb, i, none⟩ v) := by
  obtain ⟨av, base, h1, h2⟩ := h.head
  have k := (Keeps.refl (fun z => z = xb) w).setCell (p := ⟨xb, i, none⟩) (fun _ => rfl) v
  refine ⟨⟨⟨av, base, ?_, k.own2 h2 (own_ne h2 h1 (by decide))⟩, fun i t ht => ?_, h.lens, h.wf, h.nd⟩, k⟩
  · rw [heap_setCell_at h1, ← hv av]
    simp
  · obtain ⟨fv, fb, q1, q2⟩ := h.thing i t ht
    exact ⟨fv, fb, k.heap q1 (blk_ne q1 h1 (by decide)), k.own2 q2 (own_ne q2 h1 (by decide))⟩
theorem RX.setBad (h : RX w xb hb G T U bad full) (b' : Bool) : RX (w.setCell ⟨xb, 18, none⟩ (.bool b')) xb hb G T U b' full ∧ Keeps (fun z => z = xb) w (w.setCell ⟨xb, 18, none⟩ (.bool b')) :=
  h.flag (fun av => (xcells_set h.wf.len (av := av) .nilIface b').2.1)
theorem RX.setFull (h : RX w xb hb G T U bad full) (b' : Bool) : RX (w.setCell ⟨xb, 19, none⟩ (.bool b')) xb hb G T U bad b' ∧ Keeps (fun z => z = xb) w (w.setCell ⟨xb, 19, none⟩ (.bool b')) :=
  h.flag (fun av => (xcells_set h.wf.len (av := av) .nilIface b').2.2)

theorem own_type {base : Nat} {e : TypeId} {size n : Nat} {v : Value} {xs : List Value} (h : w.ownsRow base e size v n xs) {z : Nat} (hz : v.ownBlock = some z) : ∃ cs, w.heap[z]? = some (.cells cs e (0, 0)) := by
  rcases h.2 with ⟨e1, -⟩ | ⟨g, cap, cur, e1, -, hh, -⟩
  · rw [e1] at hz; cases hz
  · rw [e1] at hz
    have : g = z := by injection hz
    subst this
    exact ⟨cur, hh⟩
theorem own_some {base : Nat} {e : TypeId} {size n l c : Nat} {ad : Addr} {xs : List Value} (h : w.ownsRow base e size (.slice (some ad) l c) n xs) : ∃ f, ad = ⟨f, 0, none⟩ := by
  rcases h.2 with ⟨e1, -⟩ | ⟨g, cap, cur, e1, -⟩
  · cases e1
  · injection e1 with e1
    injection e1 with e1
    exact ⟨g, e1⟩
theorem own_zero {base : Nat} {e : TypeId} {size n : Nat} {v : Value} {xs : List Value} (h : w.ownsRow base e size v n xs) : w.ownsRow 0 e size v n xs :=
  ⟨h.1, h.2.imp id (fun ⟨g, cap, cur, h1, _, h3⟩ => ⟨g, cap, cur, h1, Nat.zero_le _, h3⟩)⟩
theorem getD_app_lt {U : List Nat} {u i : Nat} (h : i < U.length) : (U ++ [u]).getD i 0 = U.getD i 0 := by simp [List.getD, List.getElem?_append_left h]
theorem getD_app_eq {U : List Nat} {u : Nat} : (U ++ [u]).getD U.length 0 = u := by simp [List.getD]
/-- The heap is not among the world's kinds of blocks. -/
theorem IsTH.keepsX {hb b g : Nat} {s : TH} (h : IsTH w hb b g s) {S : Nat → Prop} (k : Keeps S w w') (hS : ∀ z cs t, S z → w.heap[z]? = some (.cells cs t (0, 0)) → ¬ NotX t) : IsTH w' hb b g s := by
  have hn := foot3_notX h
  refine h.keeps k (fun e => ?_) (fun e => ?_) (fun e => ?_)
  · exact hS hb _ _ e h.head (hn hb _ _ (Or.inl rfl) h.head)
  · obtain ⟨c, kk, hs⟩ := h.iw
    exact hS b _ _ e hs.head (hn b _ _ (Or.inr (Or.inl rfl)) hs.head)
  · obtain ⟨c, kk, hs⟩ := h.iw
    obtain ⟨cs, hcs⟩ := own_type hs.row (z := g) rfl
    exact hS g _ _ e hcs (hn g _ _ (Or.inr (Or.inr rfl)) hcs)
theorem pvc_app {T : List Nat} {tb : Nat} {v : PV} (hv : ∀ i, v = .ref i → i < T.length) : pvc (T ++ [tb]) v = pvc T v := by
  cases v with
  | num x => rfl
  | ref i =>
    have := hv i rfl
    simp [pvc, pvp, List.getD, List.getElem?_append_left this]
theorem flat_app {T : List Nat} {tb : Nat} : ∀ {l : List PV}, (∀ i, PV.ref i ∈ l → i < T.length) → l.flatMap (pvc (T ++ [tb])) = l.flatMap (pvc T)
  | [], _ => rfl
  | a :: l, h => by
    simp only [List.flatMap_cons]
    rw [pvc_app (fun i e => h i (by rw [← e]; exact List.mem_cons_self)), flat_app (l := l) (fun i hi => h i (List.mem_cons_of_mem _ hi))]
theorem pword_app {U : List Nat} {u : Nat} {v : PV} (hv : ∀ i, v = .ref i → i < U.length) : pword (U ++ [u]) v = pword U v := by
  cases v with
  | num x => rfl
  | ref i =>
    have := hv i rfl
    simp [pword, List.getD, List.getElem?_append_left this]

/-- A new thing stands in the row of all things. -/
theorem RX.add (h : RX w xb hb G T U bad full) {av v' fv : Value} {base base' fb tb u : Nat} {t : PTh} (hx : w.heap[xb]? = some (.cells (xcells hb G T av bad full).toArray 62 (0, 0)))
    (ho : w.ownsRow base 56 1 av T.length (T.map pkey)) (k : Keeps (fun z => av.ownBlock = some z) w w') (hown : w'.ownsRow base' 56 1 v' (T ++ [tb]).length ((T ++ [tb]).map pkey))
    (ht : w.heap[tb]? = some (.cells #[.int .i64 (t.form : Nat), fv, .int .u64 ((8 * u + 1 : Nat) : Int)] 69 (0, 0))) (hf : w.ownsRow fb 58 2 fv t.fields.length (t.fields.flatMap (pvc T)))
    (hT : tb ∉ T) (hr : ∀ i, PV.ref i ∈ t.fields → i < G.all.length) (h3 : t.form = 3 → t.fields.length = 2) (h200 : t.fields.length ≤ 200) :
    RX (w'.setCell ⟨xb, 17, none⟩ v') xb hb { G with all := G.all ++ [t] } (T ++ [tb]) (U ++ [u]) bad full ∧ Keeps (fun z => z = xb) w' (w'.setCell ⟨xb, 17, none⟩ v') := by
  have kt := (Keeps.refl (fun z => z = xb) w').setCell (p := ⟨xb, 17, none⟩) (fun _ => rfl) v'
  have hx' := k.heap hx (fun e => own_ne ho hx (by decide) _ e rfl)
  have hl := h.lens
  have hrg : ∀ i, PV.ref i ∈ G.regs → i < T.length := fun i hi => by have := h.wf.regs i hi; omega
  refine ⟨⟨⟨v', base', ?_, kt.own2 hown (own_ne hown hx' (by decide))⟩, fun i t' ht' => ?_, by simp [hl.1, hl.2], ⟨fun i hi => ?_, fun t' ht' i hi => ?_, h.wf.len, fun t' ht' e => ?_, fun t' ht' => ?_⟩, ?_⟩, kt⟩
  · rw [heap_setCell_at hx']
    have e := (xcells_set h.wf.len (hb := hb) (T := T) (av := av) (bad := bad) (full := full) v' false).1
    have e2 : xcells hb { G with all := G.all ++ [t] } (T ++ [tb]) v' bad full = xcells hb G T v' bad full := by
      unfold xcells
      rw [show ({ G with all := G.all ++ [t] } : PG).regs = G.regs from rfl, flat_app hrg]
    rw [e2, ← e]
    simp
  · by_cases hi : i < G.all.length
    · have ht2 : G.all[i]? = some t' := by rw [← ht']; exact (List.getElem?_append_left hi).symm
      obtain ⟨fv1, fb1, q1, q2⟩ := h.thing i t' ht2
      have eT : (T ++ [tb]).getD i 0 = T.getD i 0 := by simp [List.getD, List.getElem?_append_left (show i < T.length by omega)]
      have eU : (U ++ [u]).getD i 0 = U.getD i 0 := by simp [List.getD, List.getElem?_append_left (show i < U.length by omega)]
      rw [eT, eU, flat_app (fun j hj => by have := h.wf.flds t' (List.mem_of_getElem? ht2) j hj; omega)]
      exact ⟨fv1, fb1, kt.heap (k.heap q1 (fun e => own_ne ho q1 (by decide) _ e rfl)) (blk_ne q1 hx (by decide)), kt.own2 (k.own2 q2 (fun z hz e => by
        obtain ⟨c1, e1⟩ := own_type q2 hz
        obtain ⟨c2, e2⟩ := own_type ho e
        rw [e1] at e2
        injection e2 with e2
        injection e2 with _ e3
        exact absurd e3 (by decide))) (own_ne (k.own2 q2 (fun z hz e => by
        obtain ⟨c1, e1⟩ := own_type q2 hz
        obtain ⟨c2, e2⟩ := own_type ho e
        rw [e1] at e2
        injection e2 with e2
        injection e2 with _ e3
        exact absurd e3 (by decide))) hx' (by decide))⟩
    · have hie : i = G.all.length := by
        have := (List.getElem?_eq_some_iff.1 ht').1
        simp at this; omega
      subst hie
      have : t' = t := by simpa using ht'.symm
      subst this
      have eT : (T ++ [tb]).getD G.all.length 0 = tb := by rw [← hl.1]; simp [List.getD]
      have eU : (U ++ [u]).getD G.all.length 0 = u := by rw [← hl.2]; simp [List.getD]
      rw [eT, eU, flat_app (fun j hj => by have := hr j hj; omega)]
      exact ⟨fv, fb, kt.heap (k.heap ht (fun e => own_ne ho ht (by decide) _ e rfl)) (blk_ne ht hx (by decide)), kt.own2 (k.own2 hf (fun z hz e => by
        obtain ⟨c1, e1⟩ := own_type hf hz
        obtain ⟨c2, e2⟩ := own_type ho e
        rw [e1] at e2
        injection e2 with e2
        injection e2 with _ e3
        exact absurd e3 (by decide))) (own_ne (k.own2 hf (fun z hz e => by
        obtain ⟨c1, e1⟩ := own_type hf hz
        obtain ⟨c2, e2⟩ := own_type ho e
        rw [e1] at e2
        injection e2 with e2
        injection e2 with _ e3
        exact absurd e3 (by decide))) hx' (by decide))⟩
  · have := h.wf.regs i hi
    simp; omega
  · simp only [List.length_append]
    rcases List.mem_append.1 ht' with h1 | h1
    · have := h.wf.flds t' h1 i hi
      omega
    · rw [List.mem_singleton.1 h1] at hi
      have := hr i hi
      omega
  · rcases List.mem_append.1 ht' with h1 | h1
    · exact h.wf.weak t' h1 e
    · rw [List.mem_singleton.1 h1] at e ⊢; exact h3 e
  · rcases List.mem_append.1 ht' with h1 | h1
    · exact h.wf.small t' h1
    · rw [List.mem_singleton.1 h1]; exact h200
  · refine List.nodup_append.2 ⟨h.nd, by simp, fun x hx y hy e => ?_⟩
    rw [List.mem_singleton.1 hy] at e
    exact hT (e ▸ hx)
end

/-- No two things have one row. -/
def RSep (w : World) (n : Nat) (T : List Nat) : Prop := ∀ i j, i < n → j < n → i ≠ j → ∀ fa la ca fb lb cb, w.cell? ⟨T.getD i 0, 1, none⟩ = some (.slice (some ⟨fa, 0, none⟩) la ca) → w.cell? ⟨T.getD j 0, 1, none⟩ = some (.slice (some ⟨fb, 0, none⟩) lb cb) → fa ≠ fb
theorem RSep.keeps {w w' : World} {n : Nat} {T : List Nat} (h : RSep w n T) {S : Nat → Prop} (k : Keeps S w w') (hT : ∀ i, i < n → T.getD i 0 < w.heap.size ∧ ¬ S (T.getD i 0)) : RSep w' n T := by
  intro i j hi hj hne fa la ca fb lb cb h1 h2
  rw [World.cell?_of_block (k.block _ (hT i hi).1 (hT i hi).2)] at h1
  rw [World.cell?_of_block (k.block _ (hT j hj).1 (hT j hj).2)] at h2
  exact h i j hi hj hne fa la ca fb lb cb h1 h2
theorem RSep.keepsT {w w' : World} {xb hb : Nat} {G : PG} {T U : List Nat} {bad full : Bool} (h : RSep w G.all.length T) (hR : RX w xb hb G T U bad full) {S : Nat → Prop} (k : Keeps S w w') (hS : ∀ z cs, S z → w.heap[z]? = some (.cells cs 69 (0, 0)) → False) : RSep w' G.all.length T := by
  refine h.keeps k (fun i hi => ?_)
  obtain ⟨cs, hcs⟩ := hR.isT hi
  exact ⟨lt_of_heap hcs, fun e => hS _ cs e hcs⟩
theorem RSep.add {w : World} {n B tb : Nat} {T : List Nat} (h : RSep w n T) (hl : T.length = n) (hnew : ∀ fa la ca, w.cell? ⟨tb, 1, none⟩ = some (.slice (some ⟨fa, 0, none⟩) la ca) → B ≤ fa) (hold : ∀ j, j < n → ∀ fb lb cb, w.cell? ⟨T.getD j 0, 1, none⟩ = some (.slice (some ⟨fb, 0, none⟩) lb cb) → fb < B) : RSep w (n + 1) (T ++ [tb]) := by
  intro i j hi hj hne fa la ca fb lb cb h1 h2
  by_cases ei : i < n
  · rw [getD_app_lt (by omega)] at h1
    by_cases ej : j < n
    · rw [getD_app_lt (by omega)] at h2
      exact h i j ei ej hne fa la ca fb lb cb h1 h2
    · have : j = T.length := by omega
      rw [this, getD_app_eq] at h2
      have := hnew _ _ _ h2
      have := hold i ei _ _ _ h1
      omega
  · have : i = T.length := by omega
    rw [this, getD_app_eq] at h1
    have hj2 : j < n := by omega
    rw [getD_app_lt (by omega)] at h2
    have := hnew _ _ _ h1
    have := hold j hj2 _ _ _ h2
    omega
theorem foot3_notT {w : World} {hb b g : Nat} {s : TH} (h : IsTH w hb b g s) : ∀ z cs, foot3 hb b g z → w.heap[z]? = some (.cells cs 69 (0, 0)) → False := fun z cs hz hc => (foot3_notX h z _ _ hz hc).2.1 rfl
theorem RX.xbT {w : World} {xb hb : Nat} {G : PG} {T U : List Nat} {bad full : Bool} (h : RX w xb hb G T U bad full) : ∀ z cs, z = xb → w.heap[z]? = some (.cells cs 69 (0, 0)) → False := fun z cs hz hc => by
  subst hz
  obtain ⟨av1, base1, hh, -⟩ := h.head
  rw [hh] at hc
  injection hc with hc
  injection hc with _ h2
  exact absurd h2 (by decide)
theorem RX.xbX {w : World} {xb hb : Nat} {G : PG} {T U : List Nat} {bad full : Bool} (h : RX w xb hb G T U bad full) : ∀ z cs t, z = xb → w.heap[z]? = some (.cells cs t (0, 0)) → ¬ NotX t := fun z cs t e hz hn => by
  subst e
  obtain ⟨av1, base1, hh, -⟩ := h.head
  rw [hh] at hz
  injection hz with hz
  injection hz with _ h2
  exact hn.1 h2.symm

/-- S has all the world's blocks, and all that are new. -/
structure Foot (w : World) (xb hb b g n : Nat) (T : List Nat) (S : Nat → Prop) : Prop where
  x : S xb
  h : ∀ z, foot3 hb b g z → S z
  all : ∀ z l c, w.cell? ⟨xb, 17, none⟩ = some (.slice (some ⟨z, 0, none⟩) l c) → S z
  fld : ∀ i, i < n → ∀ z l c, w.cell? ⟨T.getD i 0, 1, none⟩ = some (.slice (some ⟨z, 0, none⟩) l c) → S z
  new : ∀ z, w.heap.size ≤ z → S z
/-- Nothing but the world's blocks, and new ones, was written. -/
def FK (xb hb b g n : Nat) (T : List Nat) (n' : Nat) (T' : List Nat) (w w' : World) : Prop := ∀ S, Foot w xb hb b g n T S → Foot w' xb hb b g n' T' S ∧ Keeps S w w'
section
variable {xb hb b g n n' n2 : Nat} {T T' T2 : List Nat} {w w1 w2 : World} {S0 : Nat → Prop}
theorem FK.refl (xb hb b g n : Nat) (T : List Nat) (w : World) : FK xb hb b g n T n T w w := fun S h => ⟨h, Keeps.refl _ _⟩
theorem FK.trans (h : FK xb hb b g n T n' T' w w1) (k : FK xb hb b g n' T' n2 T2 w1 w2) : FK xb hb b g n T n2 T2 w w2 := fun S hS => ⟨(k S (h S hS).1).1, (h S hS).2.trans (k S (h S hS).1).2⟩
theorem FK.size (h : FK xb hb b g n T n' T' w w1) : w.heap.size ≤ w1.heap.size := (h (fun _ => True) ⟨trivial, fun _ _ => trivial, fun _ _ _ _ => trivial, fun _ _ _ _ _ _ => trivial, fun _ _ => trivial⟩).2.size
theorem FK.step (h : FK xb hb b g n T n' T' w w1) (k : Keeps S0 w1 w2) (h0 : ∀ S, Foot w xb hb b g n T S → Foot w1 xb hb b g n' T' S → ∀ z, S0 z → S z) (hx : w2.cell? ⟨xb, 17, none⟩ = w1.cell? ⟨xb, 17, none⟩) (hT : ∀ i, i < n' → w2.cell? ⟨T'.getD i 0, 1, none⟩ = w1.cell? ⟨T'.getD i 0, 1, none⟩) : FK xb hb b g n T n' T' w w2 := by
  intro S hS
  obtain ⟨h1, h2⟩ := h S hS
  refine ⟨⟨h1.x, h1.h, fun z l c e => h1.all z l c (by rw [← hx]; exact e), fun i hi z l c e => h1.fld i hi z l c (by rw [← hT i hi]; exact e), fun z hz => h1.new z (Nat.le_trans k.size hz)⟩, h2.trans (k.mono (fun i _ hi => h0 S hS h1 i hi))⟩
theorem RX.isTlt {G : PG} {U : List Nat} {bad full : Bool} (h : RX w1 xb hb G T' U bad full) {i : Nat} (hi : i < G.all.length) : T'.getD i 0 < w1.heap.size := by
  obtain ⟨cs, hcs⟩ := h.isT hi
  exact lt_of_heap hcs
theorem FK.step0 {G : PG} {U : List Nat} {bad full : Bool} (h : FK xb hb b g n T G.all.length T' w w1) (hR : RX w1 xb hb G T' U bad full) (k : Keeps (fun _ => False) w1 w2) : FK xb hb b g n T G.all.length T' w w2 :=
  h.step k (fun _ _ _ _ h => h.elim) (k.same hR.lt (fun h => h)) (fun i hi => k.same (hR.isTlt hi) (fun h => h))
theorem FK.stepF {G : PG} {U : List Nat} {bad full : Bool} {s : TH} (h : FK xb hb b g n T G.all.length T' w w1) (hR : RX w1 xb hb G T' U bad full) (hI : IsTH w1 hb b g s) (k : Keeps (foot3 hb b g) w1 w2) : FK xb hb b g n T G.all.length T' w w2 :=
  h.step k (fun _ _ h1 z hz => h1.h z hz) (k.same hR.lt (fun e => by
    obtain ⟨av, base, hh, -⟩ := hR.head
    exact (foot3_notX hI xb _ _ e hh).1 rfl)) (fun i hi => k.same (hR.isTlt hi) (fun e => by
    obtain ⟨cs, hcs⟩ := hR.isT hi
    exact foot3_notT hI _ cs e hcs))
theorem FK.stepN {G : PG} {U : List Nat} {bad full : Bool} {r : Nat} (h : FK xb hb b g n T G.all.length T' w w1) (hR : RX w1 xb hb G T' U bad full) (k : Keeps (fun z => z = r) w1 w2) (hr : w.heap.size ≤ r) (hnc : ∀ cs t, ¬ w1.heap[r]? = some (.cells cs t (0, 0))) : FK xb hb b g n T G.all.length T' w w2 :=
  h.step k (fun S hS _ z hz => by rw [hz]; exact hS.new r hr) (k.same hR.lt (fun e => by
    obtain ⟨av, base, hh, -⟩ := hR.head
    exact hnc _ _ (by rw [← e]; exact hh))) (fun i hi => k.same (hR.isTlt hi) (fun e => by
    obtain ⟨cs, hcs⟩ := hR.isT hi
    exact hnc _ _ (by rw [← e]; exact hcs)))
theorem FK.stepX {G : PG} {U : List Nat} {bad full : Bool} (h : FK xb hb b g n T G.all.length T' w w1) (hR : RX w1 xb hb G T' U bad full) {i : Nat} (hi : i ≠ 17) (v : Value) : FK xb hb b g n T G.all.length T' w (w1.setCell ⟨xb, i, none⟩ v) := by
  have k := (Keeps.refl (fun z => z = xb) w1).setCell (p := ⟨xb, i, none⟩) (fun _ => rfl) v
  refine h.step k (fun S _ h1 z hz => by rw [hz]; exact h1.x) ?_ (fun j hj => k.same (hR.isTlt hj) (fun e => by
    obtain ⟨cs, hcs⟩ := hR.isT hj
    exact hR.xbT _ cs e hcs))
  exact World.cell?_setCell_other _ _ _ _ (fun e => by injection e with _ e2 _; exact hi e2)
end

/-- How many an iterator has left. -/
def itLeft (w : World) (r : Nat) : Nat := match w.heap[r]? with
  | some (.mapIter (some b) _ seen _) => (match w.heap[b]? with | some (.map es _) => (leftOf es seen).size | _ => 0)
  | _ => 0
theorem IsIt.left {w : World} {r b k : Nat} {l : List Nat} (h : IsIt w r b l k) : itLeft w r = k := by
  obtain ⟨es, seen, h1, h2, h3, h4⟩ := h.h
  unfold itLeft
  rw [h3]
  simp only [h1]
  exact h4
theorem IsIt.notCells {w : World} {r b k : Nat} {l : List Nat} (h : IsIt w r b l k) : (∀ (cs : Array Value) (t : TypeId), ¬ w.heap[r]? = some (.cells cs t (0, 0))) ∧ (∀ (cs : Array Value) (t : TypeId), ¬ w.heap[b]? = some (.cells cs t (0, 0))) := by
  obtain ⟨es, seen, h1, h2, h3, h4⟩ := h.h
  exact ⟨(fun cs t e => by rw [h3] at e; cases e), (fun cs t e => by rw [h1] at e; cases e)⟩

end Go.Proofs.Ytbjlapfcnldpoaa

/- Law 5's world and its heap: what they keep to. No program in sight. -/
namespace Go.Proofs.Ytbjlapfcnldpoaa
set_option linter.unusedVariables false
set_option linter.unusedSimpArgs false
open Go.RowKit

/-- A word that is no cell's. -/
def NumOK (x : Nat) : Prop := tcell x = false ∧ x < 18446744073709551616
/-- A value that may be put somewhere. -/
def ValOK (G : PG) (v : PV) : Prop := (∀ i, v = .ref i → PR G i) ∧ ∀ x, v = .num x → NumOK x
structure Inv (P : PSt) (L : Nat → Nat → List Nat) : Prop where
  st : St P.s L
  wf : P.G.WF
  ul : P.U.length = P.G.all.length
  roots : P.s.roots = P.G.regs.map (pword P.U) ++ [12, 12, 12, 12]
  obj : ∀ i t, PR P.G i → P.G.all[i]? = some t → IsObj P.s L (P.U.getD i 0) t.form 0 t.fields.length (fun j => pword P.U (t.fields.getD j (.num 0)))
  forms : ∀ t ∈ P.G.all, t.form = 1 ∨ t.form = 2
  inj : ∀ i j, PR P.G i → PR P.G j → P.U.getD i 0 = P.U.getD j 0 → i = j
  regn : ∀ x, PV.num x ∈ P.G.regs → NumOK x
  fldn : ∀ t ∈ P.G.all, ∀ x, PV.num x ∈ t.fields → NumOK x
  k : P.s.k ≤ 64
  le : ∀ t ∈ P.G.all, t.fields.length ≤ 127

theorem IsObj.rootd {s : TH} {L : Nat → Nat → List Nat} {u f t n i x : Nat} {fs : Nat → Nat} (h : IsObj s L u f t n fs) : IsObj (setRoot s i x) L u f t n fs := ⟨h.isC, h.alive, h.le, h.f, h.t, h.num, h.fld⟩
theorem KeptN.keep {s s' : TH} {L L' : Nat → Nat → List Nat} {N : Nat} (k : KeptN N s s') (hs' : St s' L') {v f t m : Nat} {fs : Nat → Nat} (ho : IsObj s L v f t m fs) (hr : Rch s v) : IsObj s' L' v f t m fs ∧ Rch s' v := by
  have hr' := k.evo.rch (fun v hv => rootP_of k.count k.roots hv) hr
  exact ⟨ho.evo hr k.evo hs' hr', hr'⟩
theorem numOK12 : NumOK 12 := ⟨by decide, by decide⟩
theorem numOK_fill (form : Nat) : NumOK (fillv form) := by
  unfold fillv
  split
  · exact ⟨by decide, by decide⟩
  · exact numOK12
theorem PR.not3 {G : PG} (hf : ∀ t ∈ G.all, t.form = 1 ∨ t.form = 2) {Q : Nat → Prop} (hreg : ∀ i, PV.ref i ∈ G.regs → Q i) (hfld : ∀ i j t, PR G i → Q i → G.all[i]? = some t → t.form = 1 → PV.ref j ∈ t.fields → Q j) {i : Nat} (hi : PR G i) : Q i := by
  induction hi with
  | reg h => exact hreg _ h
  | fld h ht h1 hm ih => exact hfld _ _ _ h ih ht h1 hm
  | weakN _ ht h3 _ _ => have := hf _ (List.mem_of_getElem? ht); omega
  | weakR _ ht h3 _ _ _ => have := hf _ (List.mem_of_getElem? ht); omega
section
variable {P : PSt} {L : Nat → Nat → List Nat}
theorem Inv.val (h : Inv P L) {v : PV} (hv : v ∈ P.G.regs) : ValOK P.G v := ⟨fun i e => .reg (by rw [← e]; exact hv), fun x e => h.regn x (by rw [← e]; exact hv)⟩
theorem Inv.fval (h : Inv P L) {i : Nat} {t : PTh} (hi : PR P.G i) (ht : P.G.all[i]? = some t) (h1 : t.form = 1) {v : PV} (hv : v ∈ t.fields) : ValOK P.G v :=
  ⟨fun j e => .fld hi ht h1 (by rw [← e]; exact hv), fun x e => h.fldn t (List.mem_of_getElem? ht) x (by rw [← e]; exact hv)⟩
theorem Inv.isC (h : Inv P L) {i : Nat} (hi : PR P.G i) : ∃ c, IsC P.s.count c (P.U.getD i 0) := by
  obtain ⟨t, ht⟩ := hi.ex h.wf
  exact ⟨_, (h.obj i t hi ht).isC⟩
theorem Inv.regs8 (h : Inv P L) {r : Nat} (hr : r < 8) : ∃ v, P.G.regs[r]? = some v := ⟨_, List.getElem?_eq_getElem (by have := h.wf.len; omega)⟩
theorem Inv.rch (h : Inv P L) {i : Nat} (hi : PR P.G i) : Rch P.s (P.U.getD i 0) := by
  refine PR.not3 (Q := fun i => Rch P.s (P.U.getD i 0)) h.forms (fun i hi => ?_) (fun i j t hp ih ht h1 hm => ?_) hi
  · refine .root ⟨?_, h.isC (.reg hi)⟩
    rw [h.roots]
    exact List.mem_append_left _ (List.mem_map.2 ⟨.ref i, hi, rfl⟩)
  · have ho := h.obj i t hp ht
    obtain ⟨q, hq, e⟩ := List.mem_iff_getElem.1 hm
    refine .step ih ⟨⟨_, q, ho.isC, by rw [ho.f, h1], by rw [ho.num]; exact hq, by have := szs_tcls ho.le; omega, ?_⟩, h.isC (.fld hp ht h1 hm)⟩
    rw [ho.fld q hq]
    simp only [List.getD, List.getElem?_eq_getElem hq, e]
    rfl
theorem Inv.back (h : Inv P L) {v : Nat} (hv : Rch P.s v) : ∃ i, PR P.G i ∧ P.U.getD i 0 = v := by
  have key : ∀ (x : PV) (v c : Nat), IsC P.s.count c v → pword P.U x = 8 * v + 1 → ValOK P.G x → ∃ i, PR P.G i ∧ P.U.getD i 0 = v := by
    intro x v c hc e hx
    cases x with
    | num x =>
      have h1 := (hx.2 x rfl).1
      have h2 : x = 8 * v + 1 := e
      rw [h2, tcell_of h.st hc] at h1
      cases h1
    | ref i =>
      refine ⟨i, hx.1 i rfl, ?_⟩
      have h2 : 8 * P.U.getD i 0 + 1 = 8 * v + 1 := e
      omega
  induction hv with
  | root h1 =>
    obtain ⟨hm, c, hc⟩ := h1
    rw [h.roots] at hm
    rcases List.mem_append.1 hm with hm | hm
    · obtain ⟨x, hx, e⟩ := List.mem_map.1 hm
      exact key x _ c hc e (h.val hx)
    · simp at hm; omega
  | step _ e ih =>
    obtain ⟨i, hi, rfl⟩ := ih
    obtain ⟨t, ht⟩ := hi.ex h.wf
    have ho := h.obj i t hi ht
    obtain ⟨⟨c, q, hu, f1, f2, f3, f4⟩, c2, hc2⟩ := e
    rw [ho.f] at f1
    rw [ho.num] at f2
    rw [ho.fld q f2] at f4
    have hg : t.fields.getD q (.num 0) = t.fields[q] := by simp [List.getD, List.getElem?_eq_getElem f2]
    rw [hg] at f4
    exact key _ _ c2 hc2 f4 (h.fval hi ht f1 (List.getElem_mem f2))
theorem ValOK.small (h : Inv P L) {v : PV} (hv : ValOK P.G v) : pword P.U v < 18446744073709551616 := by
  cases v with
  | num x => exact (hv.2 x rfl).2
  | ref i =>
    obtain ⟨t, ht⟩ := (hv.1 i rfl).ex h.wf
    exact ((h.obj i t (hv.1 i rfl) ht).small h.st).2.1
theorem ValOK.tvalue (h : Inv P L) {v : PV} (hv : ValOK P.G v) : tvalue P.s (pword P.U v) = true := by
  unfold Go.Proofs.Ytbjlapfcnldpoaa.tvalue
  cases v with
  | num x =>
    show ((tplace P.s x).isSome || !tcell x) = true
    rw [(hv.2 x rfl).1]; simp
  | ref i =>
    obtain ⟨t, ht⟩ := (hv.1 i rfl).ex h.wf
    show ((tplace P.s (8 * P.U.getD i 0 + 1)).isSome || _) = true
    rw [(h.obj i t (hv.1 i rfl) ht).place h.st]; rfl
/-- What it names is reached. -/
theorem ValOK.rch (h : Inv P L) {v : PV} (hv : ValOK P.G v) : ∀ c u, IsC P.s.count c u → pword P.U v = 8 * u + 1 → Rch P.s u := by
  intro c u hu e
  cases v with
  | num x =>
    have h1 := (hv.2 x rfl).1
    have h2 : x = 8 * u + 1 := e
    rw [h2, tcell_of h.st hu] at h1
    cases h1
  | ref i =>
    have h2 : 8 * P.U.getD i 0 + 1 = 8 * u + 1 := e
    have : P.U.getD i 0 = u := by omega
    rw [← this]
    exact h.rch (hv.1 i rfl)
theorem Inv.fit (h : Inv P L) : Fit P := by
  refine ⟨h.st.rep.now, h.k, fun i t hi ht => ?_, fun v hv => ⟨(h.val hv).small h, (h.val hv).tvalue h⟩, fun i t hi ht h1 v hv => ⟨(h.fval hi ht h1 hv).small h, (h.fval hi ht h1 hv).tvalue h⟩⟩
  have ho := h.obj i t hi ht
  refine ⟨_, _, ho.place h.st, ho.rdh h.st, ho.f, ho.num, by have := (ho.small h.st).1; omega, h.forms t (List.mem_of_getElem? ht), fun j v hj => ?_⟩
  have hjl : j < t.fields.length := (List.getElem?_eq_some_iff.1 hj).1
  refine ⟨(ho.small h.st).2.2 j hjl, ?_⟩
  rw [ho.fld j hjl]
  simp [List.getD, hj]

/-- A register is set. -/
theorem Inv.set (h : Inv P L) {r : Nat} (hr : r < 8) {v : PV} (hv : ValOK P.G v) : Inv (P.set r v) L ∧ ∀ i, PR (P.set r v).G i → PR P.G i := by
  have hpr : ∀ i, PR (P.set r v).G i → PR P.G i := fun i hi => PR.not3 (G := (P.set r v).G) (Q := fun i => PR P.G i) h.forms (fun i hi => by
    rcases List.mem_or_eq_of_mem_set hi with e | e
    · exact .reg e
    · exact hv.1 i e.symm) (fun i j t _ ih ht h1 hm => .fld ih ht h1 hm) hi
  have h12 := h.st.rep.ls.d
  have hl8 := h.wf.len
  refine ⟨⟨setRoot_ok h.st (hv.small h) (fun c u hu e => (hv.rch h c u hu e).ok h.st), ⟨fun i hi => ?_, h.wf.flds, ?_, h.wf.weak, h.wf.small⟩, h.ul, ?_, fun i t hi ht => ?_, h.forms, fun i j hi hj e => h.inj i j (hpr i hi) (hpr j hj) e, fun x hx => ?_, h.fldn, h.k, h.le⟩, hpr⟩
  · rcases List.mem_or_eq_of_mem_set hi with e | e
    · exact h.wf.regs i e
    · exact (hv.1 i e.symm).lt h.wf
  · show (P.G.regs.set r v).length = 8
    rw [List.length_set]; exact hl8
  · show P.s.roots.set r (pword P.U v) = (P.G.regs.set r v).map (pword P.U) ++ [12, 12, 12, 12]
    rw [h.roots, List.set_append_left _ _ (by simp; omega), List.map_set]
  · have ho := h.obj i t (hpr i hi) ht
    exact ⟨ho.isC, ho.alive, ho.le, ho.f, ho.t, ho.num, ho.fld⟩
  · rcases List.mem_or_eq_of_mem_set hx with e | e
    · exact h.regn x e
    · exact hv.2 x e.symm
/-- Increments. -/
theorem Inv.incr (h : Inv P L) {n : Nat} {s1 : TH} {L1 : Nat → Nat → List Nat} (k : KeptN n P.s s1) (hs : St s1 L1) (b : Bool) : Inv { P with s := s1, full := b } L1 := by
  refine ⟨hs, h.wf, h.ul, k.roots.trans h.roots, fun i t hi ht => (k.keep hs (h.obj i t hi ht) (h.rch hi)).1, h.forms, h.inj, h.regn, h.fldn, ?_, h.le⟩
  show s1.k ≤ 64
  rw [k.k]; exact h.k
theorem Inv.take (h : Inv P L) {r form n u : Nat} {s2 : TH} {L2 : Nat → Nat → List Nat} (hr : r < 8) (hf : form = 1 ∨ form = 2) (hn : n ≤ 127) (k : Took P.s s2 L L2 u form 0 n (fillv form)) :
    Inv (P.made r form n u s2) L2 ∧ (∀ i, PR P.G i → P.U.getD i 0 ≠ u) ∧ ∀ i, PR (P.made r form n u s2).G i → i = P.G.all.length ∨ PR P.G i := by
  have hne : ∀ i, PR P.G i → P.U.getD i 0 ≠ u := fun i hi e => ((h.rch hi).ok h.st).ne0 (by rw [e]; exact k.was)
  have hforms : ∀ t ∈ (P.made r form n u s2).G.all, t.form = 1 ∨ t.form = 2 := fun t ht => by
    rcases List.mem_append.1 ht with e | e
    · exact h.forms t e
    · rw [List.mem_singleton.1 e]; exact hf
  have hpr : ∀ i, PR (P.made r form n u s2).G i → i = P.G.all.length ∨ PR P.G i := fun i hi => by
    refine PR.not3 (G := (P.made r form n u s2).G) (Q := fun i => i = P.G.all.length ∨ PR P.G i) hforms (fun i hi => ?_) (fun i j t _ ih ht h1 hm => ?_) hi
    · rcases List.mem_or_eq_of_mem_set hi with e | e
      · exact Or.inr (.reg e)
      · injection e with e
        exact Or.inl e
    · rcases ih with rfl | ih
      · have ht2 : (P.G.all ++ [⟨form, List.replicate n (.num (fillv form))⟩])[P.G.all.length]? = some t := ht
        simp at ht2
        rw [← ht2] at hm
        have := List.eq_of_mem_replicate hm
        cases this
      · have hl := ih.lt h.wf
        have ht2 : (P.G.all ++ [⟨form, List.replicate n (.num (fillv form))⟩])[i]? = some t := ht
        rw [List.getElem?_append_left hl] at ht2
        exact Or.inr (.fld ih ht2 h1 hm)
  have hst := h.st
  have huc : IsC s2.count (tcls n) u := by rw [k.count]; exact k.isC
  have hul := k.isC.lt
  have hbig := stt4_le h.st.rep.big
  have hl8 := h.wf.len
  have hwfl : ∀ t ∈ P.G.all, ∀ i, PV.ref i ∈ t.fields → i < P.U.length := fun t ht i hi => by have := h.wf.flds t ht i hi; have := h.ul; omega
  refine ⟨⟨setRoot_ok k.st (by omega) (fun c v hv e => ?_), ⟨fun i hi => ?_, fun t ht i hi => ?_, ?_, fun t ht e => ?_, fun t ht => ?_⟩, ?_, ?_, fun i t hi ht => ?_, hforms, fun i j hi hj e => ?_, fun x hx => ?_, fun t ht x hx => ?_, ?_, fun t ht => ?_⟩, hne, hpr⟩
  · have : v = u := by omega
    subst this; exact k.ok
  · show i < (P.G.all ++ [_]).length
    rcases List.mem_or_eq_of_mem_set hi with e | e
    · have := h.wf.regs i e; simp; omega
    · injection e with e; simp; omega
  · show i < (P.G.all ++ [_]).length
    rcases List.mem_append.1 ht with e | e
    · have := h.wf.flds t e i hi; simp; omega
    · rw [List.mem_singleton.1 e] at hi
      have := List.eq_of_mem_replicate hi
      cases this
  · show (P.G.regs.set r _).length = 8
    rw [List.length_set]; exact hl8
  · have := hforms t ht; omega
  · rcases List.mem_append.1 ht with e | e
    · exact h.wf.small t e
    · rw [List.mem_singleton.1 e]; simp; omega
  · show (P.U ++ [u]).length = (P.G.all ++ [_]).length
    simp [h.ul]
  · show s2.roots.set r (8 * u + 1) = (P.G.regs.set r (.ref P.G.all.length)).map (pword (P.U ++ [u])) ++ [12, 12, 12, 12]
    have e1 : P.G.regs.map (pword (P.U ++ [u])) = P.G.regs.map (pword P.U) := List.map_congr_left (fun v hv => pword_app (fun i e => by have := h.wf.regs i (by rw [← e]; exact hv); have := h.ul; omega))
    have e2 : pword (P.U ++ [u]) (.ref P.G.all.length) = 8 * u + 1 := by
      show 8 * (P.U ++ [u]).getD P.G.all.length 0 + 1 = _
      rw [← h.ul, getD_app_eq]
    rw [List.map_set, e1, e2, k.roots, h.roots, List.set_append_left _ _ (by simp; omega)]
  · have ht2 : (P.G.all ++ [⟨form, List.replicate n (.num (fillv form))⟩])[i]? = some t := ht
    show IsObj (setRoot s2 r (8 * u + 1)) L2 ((P.U ++ [u]).getD i 0) t.form 0 t.fields.length (fun j => pword (P.U ++ [u]) (t.fields.getD j (.num 0)))
    rcases hpr i hi with rfl | hi2
    · simp at ht2
      subst ht2
      rw [← h.ul, getD_app_eq]
      have ho := (k.obj hf (by decide) hn hst.rep.now).rootd (i := r) (x := 8 * u + 1)
      show IsObj _ _ _ _ _ (List.replicate n (PV.num (fillv form))).length _
      rw [List.length_replicate]
      refine ho.congr (fun j hj => ?_)
      simp [List.getD, List.getElem?_replicate, hj, pword]
    · have hl := hi2.lt h.wf
      rw [List.getElem?_append_left hl] at ht2
      rw [getD_app_lt (by have := h.ul; omega)]
      have ho := h.obj i t hi2 ht2
      have hr := h.rch hi2
      have hr' : Rch s2 (P.U.getD i 0) := (k.evo hst).rch (fun v hv => rootP_of k.count k.roots hv) hr
      refine ((ho.evo hr (k.evo hst) k.st hr').rootd).congr (fun j hj => ?_)
      rw [pword_app (fun q e => hwfl t (List.mem_of_getElem? ht2) q (by
        rw [← e]
        simp [List.getD, List.getElem?_eq_getElem hj]))]
  · have hU : ∀ i, PR P.G i → (P.U ++ [u]).getD i 0 = P.U.getD i 0 := fun i hi => getD_app_lt (by have := hi.lt h.wf; have := h.ul; omega)
    have hUl : (P.U ++ [u]).getD P.G.all.length 0 = u := by rw [← h.ul, getD_app_eq]
    have e' : (P.U ++ [u]).getD i 0 = (P.U ++ [u]).getD j 0 := e
    rcases hpr i hi with rfl | hi2
    · rcases hpr j hj with rfl | hj2
      · rfl
      · rw [hUl, hU j hj2] at e'
        exact absurd e'.symm (hne j hj2)
    · rcases hpr j hj with rfl | hj2
      · rw [hUl, hU i hi2] at e'
        exact absurd e' (hne i hi2)
      · rw [hU i hi2, hU j hj2] at e'
        exact h.inj i j hi2 hj2 e'
  · rcases List.mem_or_eq_of_mem_set hx with e | e
    · exact h.regn x e
    · cases e
  · rcases List.mem_append.1 ht with e | e
    · exact h.fldn t e x hx
    · rw [List.mem_singleton.1 e] at hx
      have := List.eq_of_mem_replicate hx
      injection this with this
      rw [this]; exact numOK_fill form
  · show s2.k ≤ 64
    rw [k.k]; exact h.k
  · rcases List.mem_append.1 ht with e | e
    · exact h.le t e
    · rw [List.mem_singleton.1 e]; simp; omega
theorem Inv.store (h : Inv P L) {i q : Nat} {t : PTh} {v : PV} {s' : TH} {L' : Nat → Nat → List Nat} (hi : PR P.G i) (ht : P.G.all[i]? = some t) (hf : t.form = 1) (hq : q < t.fields.length) (hv : ValOK P.G v) (k : SetTo P.s s' L L' (P.U.getD i 0) q (pword P.U v)) :
    Inv (P.put i q t v s') L' ∧ ∀ j, PR (P.put i q t v s').G j → PR P.G j := by
  have hil := hi.lt h.wf
  have hmem : ∀ t' ∈ (P.put i q t v s').G.all, t' ∈ P.G.all ∨ t' = ⟨t.form, t.fields.set q v⟩ := fun t' h' => List.mem_or_eq_of_mem_set h'
  have htm := List.mem_of_getElem? ht
  have hforms : ∀ t' ∈ (P.put i q t v s').G.all, t'.form = 1 ∨ t'.form = 2 := fun t' h' => by
    rcases hmem t' h' with e | e
    · exact h.forms t' e
    · rw [e]; exact h.forms t htm
  have hat : ∀ j t', (P.put i q t v s').G.all[j]? = some t' → (j = i ∧ t' = ⟨t.form, t.fields.set q v⟩) ∨ (j ≠ i ∧ P.G.all[j]? = some t') := fun j t' h' => by
    have h2 : (P.G.all.set i ⟨t.form, t.fields.set q v⟩)[j]? = some t' := h'
    by_cases e : j = i
    · subst e
      rw [List.getElem?_set_self (by omega)] at h2
      injection h2 with h2
      exact Or.inl ⟨rfl, h2.symm⟩
    · rw [List.getElem?_set_ne (Ne.symm e)] at h2
      exact Or.inr ⟨e, h2⟩
  have hpr : ∀ j, PR (P.put i q t v s').G j → PR P.G j := fun j hj => by
    refine PR.not3 (G := (P.put i q t v s').G) (Q := fun j => PR P.G j) hforms (fun j hj => .reg hj) (fun a b t' _ ih ht' h1 hm => ?_) hj
    rcases hat a t' ht' with ⟨rfl, rfl⟩ | ⟨-, ht'⟩
    · rcases List.mem_or_eq_of_mem_set hm with e | e
      · exact .fld ih ht h1 e
      · exact hv.1 b e.symm
    · exact .fld ih ht' h1 hm
  refine ⟨⟨k.st, ⟨fun j hj => ?_, fun t' ht' j hj => ?_, h.wf.len, fun t' ht' e => ?_, fun t' ht' => ?_⟩, ?_, ?_, fun j t' hj ht' => ?_, hforms, fun a b ha hb e => h.inj a b (hpr a ha) (hpr b hb) e, h.regn, fun t' ht' x hx => ?_, ?_, fun t' ht' => ?_⟩, hpr⟩
  · show j < (P.G.all.set _ _).length
    rw [List.length_set]; exact h.wf.regs j hj
  · show j < (P.G.all.set _ _).length
    rw [List.length_set]
    rcases hmem t' ht' with e | e
    · exact h.wf.flds t' e j hj
    · rw [e] at hj
      rcases List.mem_or_eq_of_mem_set hj with e2 | e2
      · exact h.wf.flds t htm j e2
      · exact (hv.1 j e2.symm).lt h.wf
  · have := hforms t' ht'; omega
  · rcases hmem t' ht' with e | e
    · exact h.wf.small t' e
    · rw [e]; show (t.fields.set q v).length ≤ 200
      rw [List.length_set]; exact h.wf.small t htm
  · show P.U.length = (P.G.all.set _ _).length
    rw [List.length_set]; exact h.ul
  · show s'.roots = _
    rw [k.roots]; exact h.roots
  · show IsObj s' L' (P.U.getD j 0) t'.form 0 t'.fields.length (fun z => pword P.U (t'.fields.getD z (.num 0)))
    rcases hat j t' ht' with ⟨rfl, rfl⟩ | ⟨hne, ht2⟩
    · have ho := k.obj (h.obj j t (hpr j hj) ht)
      show IsObj s' L' (P.U.getD j 0) t.form 0 (t.fields.set q v).length _
      rw [List.length_set]
      refine ho.congr (fun z hz => ?_)
      by_cases e : z = q
      · subst e
        simp [List.getD, List.getElem?_set_self hz]
      · rw [if_neg e]
        simp [List.getD, List.getElem?_set_ne (Ne.symm e)]
    · exact (h.obj j t' (hpr j hj) ht2).other k (fun e => hne (h.inj j i (hpr j hj) hi e))
  · rcases hmem t' ht' with e | e
    · exact h.fldn t' e x hx
    · rw [e] at hx
      rcases List.mem_or_eq_of_mem_set hx with e2 | e2
      · exact h.fldn t htm x e2
      · exact hv.2 x e2.symm
  · show s'.k ≤ 64
    rw [k.k]; exact h.k
  · rcases hmem t' ht' with e | e
    · exact h.le t' e
    · rw [e]
      show (t.fields.set q v).length ≤ 127
      rw [List.length_set]; exact h.le t htm
end

end Go.Proofs.Ytbjlapfcnldpoaa

/- Law 5's script: each doing can be done, and what it keeps. No program in sight. -/
namespace Go.Proofs.Ytbjlapfcnldpoaa
set_option linter.unusedVariables false
set_option linter.unusedSimpArgs false
open Go.RowKit

/-- What is kept to beside Inv: Q; C: what is known of the graph; F: may it be full? -/
structure Track (C : PG → Prop) (Q : PSt → (Nat → Nat → List Nat) → Prop) (F : Prop) : Prop where
  incr : ∀ P L n, Inv P L → Q P L → C P.G → P.s.cycles + n ≤ 1000000 → ∃ s1 L1, tincr n P.s = some s1 ∧ St s1 L1 ∧ KeptN n P.s s1 ∧ ∀ b, Q { P with s := s1, full := b } L1
  alloc : ∀ P L, Inv P L → Q P L → C P.G → P.s.cycles + P.s.k ≤ 1000000 → ∃ s1 L1, tincr P.s.k P.s = some s1 ∧ St s1 L1 ∧ KeptN P.s.k P.s s1 ∧ (F ∨ ∀ c, c < 4 → 0 < lget s1 c 0) ∧ (∀ b, Q { P with s := s1, full := b } L1) ∧
    ∀ r form n s2 L2 u, r < 8 → form = 1 ∨ form = 2 → n ≤ 127 → Took s1 s2 L1 L2 u form 0 n (fillv form) → Q (P.made r form n u s2) L2
  root : ∀ P L r v, Inv P L → Q P L → r < 8 → ValOK P.G v → Q (P.set r v) L
  store : ∀ P L i t q v, Inv P L → Q P L → PR P.G i → P.G.all[i]? = some t → t.form = 1 → q < t.fields.length → ValOK P.G v → ∃ s' L', tset P.s (P.U.getD i 0) q (pword P.U v) = some s' ∧ SetTo P.s s' L L' (P.U.getD i 0) q (pword P.U v) ∧ Q (P.put i q t v s') L'

/-- What a doing leaves. -/
structure Doing (Q : PSt → (Nat → Nat → List Nat) → Prop) (F : Prop) (P : PSt) (o : POp) (P' : PSt) (L' : Nat → Nat → List Nat) : Prop where
  did : Did P o P'
  inv : Inv P' L'
  q : Q P' L'
  cyc : P'.s.cycles ≤ P.s.cycles + 300
  k : P'.s.k = P.s.k
  count : P'.s.count = P.s.count
  full : P'.full = P.full ∨ F ∧ P'.full = true
  all : P'.G.all.length ≤ P.G.all.length + 1

theorem doing {C : PG → Prop} {Q : PSt → (Nat → Nat → List Nat) → Prop} {F : Prop} (hT : Track C Q F) {P : PSt} {L : Nat → Nat → List Nat} (h : Inv P L) (hq : Q P L) (hc : C P.G) (hcy : P.s.cycles + 300 ≤ 1000000) (o : POp) (h7 : o.kind ≠ 7) : ∃ P' L', Doing Q F P o P' L' := by
  have ha : um o.a 8 < 8 := um_lt o.a 8 (by omega) (by omega)
  have hb : um o.b 8 < 8 := um_lt o.b 8 (by omega) (by omega)
  have hn : um o.n 128 < 128 := um_lt o.n 128 (by omega) (by omega)
  have same : Did P o P → ∃ P' L', Doing Q F P o P' L' := fun hd => ⟨P, L, hd, h, hq, by omega, rfl, rfl, Or.inl rfl, by omega⟩
  have setr : ∀ v, ValOK P.G v → Did P o (P.set (um o.a 8) v) → ∃ P' L', Doing Q F P o P' L' := fun v hv hd =>
    ⟨_, L, hd, (h.set ha hv).1, hT.root P L _ v h hq ha hv, Nat.le_add_right _ _, rfl, rfl, Or.inl rfl, Nat.le_succ _⟩
  have make : ∀ form, form = 1 ∨ form = 2 → (∀ P', MadeTo P (um o.a 8) form (um o.n 128) P' → Did P o P') → ∃ P' L', Doing Q F P o P' L' := by
    intro form hf hd
    have hk := h.k
    obtain ⟨s1, L1, e1, st1, k1, hF, q1, q2⟩ := hT.alloc P L h hq hc (by omega)
    have hcy1 := k1.cyc
    by_cases h0 : lget s1 (tcls (um o.n 128)) 0 = 0
    · refine ⟨{ P with s := s1, full := true }, L1, hd _ (.full e1 h0), h.incr k1 st1 true, q1 true, ?_, k1.k, k1.count, Or.inr ⟨?_, rfl⟩, Nat.le_succ _⟩
      · show s1.cycles ≤ _
        omega
      · rcases hF with hF | hF
        · exact hF
        · have := hF _ (tcls_lt (um o.n 128)); omega
    · obtain ⟨s2, L2, u, e2, tk⟩ := take_ok st1 (form := form) (tag := 0) (n := um o.n 128) hf (by decide) (by omega) (by omega)
      have tal := talloc_of e1 e2
      have h1 := h.incr k1 st1 P.full
      have tk' : Took s1 s2 L1 L2 u form 0 (um o.n 128) (fillv form) := tk
      have h2 := h1.take (r := um o.a 8) ha hf (by omega) tk'
      have hval : tvalue s2 (8 * u + 1) = true := by
        unfold tvalue
        rw [tk.st.rep.tplace.2 ⟨rfl, by rw [tk.count]; exact tk.isC⟩]; rfl
      have hub : 8 * u + 1 < 18446744073709551616 := by
        have := tk.isC.lt
        have := stt4_le st1.rep.big
        omega
      refine ⟨P.made (um o.a 8) form (um o.n 128) u s2, L2, hd _ (.cell tal hval h2.2.1 hub), h2.1, q2 _ form _ s2 L2 u ha hf (by omega) tk', ?_, ?_, ?_, Or.inl rfl, ?_⟩
      · show s2.cycles ≤ _
        rw [tk.cyc]; omega
      · show s2.k = _
        rw [tk.k]; exact k1.k
      · show s2.count = _
        rw [tk.count]; exact k1.count
      · show (P.G.all ++ [_]).length ≤ _
        simp
  by_cases k1 : o.kind = 1
  · exact make 1 (Or.inl rfl) (fun P' h => .made1 k1 h)
  by_cases k8 : o.kind = 8
  · exact make 2 (Or.inr rfl) (fun P' h => .made2 k8 h)
  by_cases k2 : o.kind = 2
  · obtain ⟨v, hv⟩ := h.regs8 hb
    exact setr v (h.val (List.mem_of_getElem? hv)) (.move k2 hv)
  by_cases k3 : o.kind = 3
  · obtain ⟨v, hv⟩ := h.regs8 hb
    by_cases hx : ∃ i t, v = .ref i ∧ P.G.all[i]? = some t ∧ 0 < t.fields.length ∧ t.form = 1
    · obtain ⟨i, t, rfl, ht, h0, hf⟩ := hx
      have hlt : um o.n t.fields.length < t.fields.length := um_lt o.n t.fields.length h0 (by have := h.wf.small t (List.mem_of_getElem? ht); omega)
      have hv2 : t.fields[um o.n t.fields.length]? = some t.fields[um o.n t.fields.length] := List.getElem?_eq_getElem hlt
      exact setr _ (h.fval (.reg (List.mem_of_getElem? hv)) ht hf (List.getElem_mem hlt)) (.load k3 hv ht h0 hf hv2)
    · refine same (.load0 k3 hv (fun i t e ht => ?_))
      by_cases h0 : t.fields.length = 0
      · exact Or.inl h0
      · exact Or.inr (fun hf => hx ⟨i, t, e, ht, by omega, hf⟩)
  by_cases k4 : o.kind = 4
  · obtain ⟨v, hv⟩ := h.regs8 ha
    obtain ⟨x, hx0⟩ := h.regs8 hb
    by_cases hx : ∃ i t, v = .ref i ∧ P.G.all[i]? = some t ∧ 0 < t.fields.length ∧ t.form = 1
    · obtain ⟨i, t, rfl, ht, h0, hf⟩ := hx
      have hlt : um o.n t.fields.length < t.fields.length := um_lt o.n t.fields.length h0 (by have := h.wf.small t (List.mem_of_getElem? ht); omega)
      have hpr : PR P.G i := .reg (List.mem_of_getElem? hv)
      have hxv := h.val (List.mem_of_getElem? hx0)
      obtain ⟨s', L', e1, k, q'⟩ := hT.store P L i t _ x h hq hpr ht hf hlt hxv
      refine ⟨_, L', .store k4 hv ht h0 hf hx0 e1, (h.store hpr ht hf hlt hxv k).1, q', ?_, k.k, k.count, Or.inl rfl, ?_⟩
      · show s'.cycles ≤ _
        rw [k.cyc]; omega
      · show (P.G.all.set _ _).length ≤ _
        rw [List.length_set]; omega
    · refine same (.store0 k4 hv (fun i t e ht => ?_))
      by_cases h0 : t.fields.length = 0
      · exact Or.inl h0
      · exact Or.inr (fun hf => hx ⟨i, t, e, ht, by omega, hf⟩)
  by_cases k5 : o.kind = 5
  · by_cases hr : -1152921504606846976 ≤ o.n ∧ o.n ≤ 1152921504606846975
    · refine setr (.num ((o.n * 8) % 18446744073709551616).toNat) ⟨(fun i e => by cases e), fun x e => ?_⟩ (.fix k5 hr.1 hr.2)
      injection e with e
      subst e
      refine ⟨?_, by omega⟩
      unfold tcell
      have : ((o.n * 8) % 18446744073709551616).toNat % 8 = 0 := by omega
      rw [this]; rfl
    · exact same (.fix0 k5 (by omega))
  by_cases k6 : o.kind = 6
  · obtain ⟨s1, L1, e1, st1, k1', q1⟩ := hT.incr P L (min (max o.n 0) 300).toNat h hq hc (by omega)
    have hcy1 := k1'.cyc
    refine ⟨{ P with s := s1 }, L1, .incr k6 e1, h.incr k1' st1 P.full, q1 P.full, ?_, k1'.k, k1'.count, Or.inl rfl, Nat.le_succ _⟩
    show s1.cycles ≤ _
    omega
  · exact same (.other (by omega))

/-- Nothing more is asked. -/
theorem track_any : Track (fun _ => True) (fun _ _ => True) True := by
  refine ⟨fun P L n h _ _ hcy => ?_, fun P L h _ _ hcy => ?_, fun _ _ _ _ _ _ _ _ => trivial, fun P L i t q v h _ hi ht hf hq hv => ?_⟩
  · obtain ⟨s1, L1, e1, h1, k1⟩ := incr_ok n h.st hcy
    exact ⟨s1, L1, e1, h1, k1, fun _ => trivial⟩
  · obtain ⟨s1, L1, e1, h1, k1⟩ := incr_ok P.s.k h.st hcy
    exact ⟨s1, L1, e1, h1, k1, Or.inl trivial, fun _ => trivial, fun _ _ _ _ _ _ _ _ _ _ => trivial⟩
  · have ho := h.obj i t hi ht
    obtain ⟨s', L', e1, k⟩ := set_ok h.st (x := pword P.U v) ho.isC ho.alive (by rw [ho.num]; exact hq) (hv.small h) (fun _ c u hu e => (hv.rch h c u hu e).ok h.st)
    exact ⟨s', L', e1, k, trivial⟩

/-- The graph behind a doing. -/
def pmk (G : PG) (r form n : Nat) : PG := ⟨G.regs.set r (.ref G.all.length), G.all ++ [⟨form, List.replicate n (.num (fillv form))⟩]⟩
def pdo (G : PG) (o : POp) : PG :=
  if o.kind = 1 then pmk G (um o.a 8) 1 (um o.n 128)
  else if o.kind = 8 then pmk G (um o.a 8) 2 (um o.n 128)
  else if o.kind = 2 then { G with regs := G.regs.set (um o.a 8) (G.regs.getD (um o.b 8) (.num 0)) }
  else if o.kind = 3 then
    match G.regs[um o.b 8]? with
    | some (.ref i) => match G.all[i]? with
      | some t => if 0 < t.fields.length ∧ t.form = 1 then { G with regs := G.regs.set (um o.a 8) (t.fields.getD (um o.n t.fields.length) (.num 0)) } else G
      | none => G
    | _ => G
  else if o.kind = 4 then
    match G.regs[um o.a 8]? with
    | some (.ref i) => match G.all[i]? with
      | some t => if 0 < t.fields.length ∧ t.form = 1 then { G with all := G.all.set i ⟨t.form, t.fields.set (um o.n t.fields.length) (G.regs.getD (um o.b 8) (.num 0))⟩ } else G
      | none => G
    | _ => G
  else if o.kind = 5 then
    if -1152921504606846976 ≤ o.n ∧ o.n ≤ 1152921504606846975 then { G with regs := G.regs.set (um o.a 8) (.num ((o.n * 8) % 18446744073709551616).toNat) } else G
  else G
theorem Did.graph {P P' : PSt} {o : POp} (h : Did P o P') (hfu : P'.full = false) : P'.G = pdo P.G o := by
  cases h with
  | made1 hk h =>
    cases h with
    | full => cases hfu
    | cell => unfold pdo; rw [if_pos hk]; rfl
  | made2 hk h =>
    cases h with
    | full => cases hfu
    | cell => unfold pdo; rw [if_neg (by omega), if_pos hk]; rfl
  | move hk hv =>
    unfold pdo
    rw [if_neg (by omega), if_neg (by omega), if_pos hk]
    simp [PSt.set, List.getD, hv]
  | load hk hb ht h0 hf hv =>
    unfold pdo
    rw [if_neg (by omega), if_neg (by omega), if_neg (by omega), if_pos hk, hb]
    simp only [ht]
    rw [if_pos ⟨h0, hf⟩]
    simp [PSt.set, List.getD, hv]
  | @load0 v hk hb hno =>
    unfold pdo
    rw [if_neg (by omega), if_neg (by omega), if_neg (by omega), if_pos hk, hb]
    cases v with
    | num x => rfl
    | ref i =>
      simp only
      cases ht : P.G.all[i]? with
      | none => rfl
      | some t =>
        simp only
        rw [if_neg (fun e => by rcases hno i t rfl ht with e1 | e1 <;> omega)]
  | store hk ha ht h0 hf hv hs =>
    unfold pdo
    rw [if_neg (by omega), if_neg (by omega), if_neg (by omega), if_neg (by omega), if_pos hk, ha]
    simp only [ht]
    rw [if_pos ⟨h0, hf⟩]
    simp [PSt.put, List.getD, hv]
  | @store0 v hk hb hno =>
    unfold pdo
    rw [if_neg (by omega), if_neg (by omega), if_neg (by omega), if_neg (by omega), if_pos hk, hb]
    cases v with
    | num x => rfl
    | ref i =>
      simp only
      cases ht : P.G.all[i]? with
      | none => rfl
      | some t =>
        simp only
        rw [if_neg (fun e => by rcases hno i t rfl ht with e1 | e1 <;> omega)]
  | fix hk h0 h1 =>
    unfold pdo
    rw [if_neg (by omega), if_neg (by omega), if_neg (by omega), if_neg (by omega), if_neg (by omega), if_pos hk, if_pos ⟨h0, h1⟩]
    rfl
  | fix0 hk h =>
    unfold pdo
    rw [if_neg (by omega), if_neg (by omega), if_neg (by omega), if_neg (by omega), if_neg (by omega), if_pos hk, if_neg (by omega)]
  | incr hk h =>
    unfold pdo
    rw [if_neg (by omega), if_neg (by omega), if_neg (by omega), if_neg (by omega), if_neg (by omega), if_neg (by omega)]
  | other hk =>
    unfold pdo
    rw [if_neg (by omega), if_neg (by omega), if_neg (by omega), if_neg (by omega), if_neg (by omega), if_neg (by omega)]

end Go.Proofs.Ytbjlapfcnldpoaa

/- Law 5's made, by its contract: no cell is free. -/
namespace Go.Proofs.Ytbjlapfcnldpoaa
set_option linter.unusedVariables false
set_option linter.unusedSimpArgs false
open Go.RowKit

/-- The world and its heap lie in memory. -/
structure IsX (w : World) (xb hb b g : Nat) (P : PSt) (T : List Nat) : Prop where
  rx : RX w xb hb P.G T P.U false P.full
  th : IsTH w hb b g P.s
  sep : RSep w P.G.all.length T
theorem IsX.keeps0 {w w' : World} {xb hb b g : Nat} {P : PSt} {T : List Nat} (h : IsX w xb hb b g P T) (k : Keeps (fun _ => False) w w') : IsX w' xb hb b g P T := ⟨h.rx.keeps0 k, h.th.keeps0 k, h.sep.keepsT h.rx k (fun _ _ h => h.elim)⟩
theorem IsX.nf {w : World} {xb hb b g : Nat} {P : PSt} {T : List Nat} (h : IsX w xb hb b g P T) : ¬ foot3 hb b g xb := fun e => by
  obtain ⟨av, base, hh, -⟩ := h.rx.head
  exact (foot3_notX h.th xb _ _ e hh).1 rfl
/-- What a doing leaves. -/
structure XSaid (w : World) (xb hb b g n : Nat) (T : List Nat) (P' : PSt) (e : Ending) (w' : World) : Prop where
  said : e = .returned (.tuple #[])
  isX : ∃ T', IsX w' xb hb b g P' T' ∧ FK xb hb b g n T P'.G.all.length T' w w' ∧ (T' = T ∨ ∃ a, T' = T ++ [a] ∧ w.heap.size ≤ a)

set_option maxRecDepth 100000 in
set_option maxHeartbeats 4000000 in
theorem made_full {w : World} {xb hb b g r form n : Nat} {P : PSt} {T : List Nat} {s1 : TH} (hX : IsX w xb hb b g P T) (hnow : P.s.now ≤ 1) (hkk : P.s.k ≤ 64) (hf1 : 1 ≤ form) (hf2 : form ≤ 2) (hn : n ≤ 127) (h1 : tincr P.s.k P.s = some s1) (h0 : lget s1 (tcls n) 0 = 0) :
    Calls Try.prog 82 #[.pointer (some ⟨xb, 0, none⟩), .int .i64 r, .int .i64 form, .int .i64 n, .slice none 0 0] w (XSaid w xb hb b g P.G.all.length T { P with s := s1, full := true }) := by
  obtain ⟨av, base, hxh, -⟩ := hX.rx.head
  have c0 := cell_of_heap hxh 0
  simp [xcells] at c0
  have HX := Box.mk hX
  have HA := Box.mk (alloc_full (tag := 0) hX.th h1 h0 hnow hkk hf1 hf2 (by omega) hn)
  clear hX hxh hnow hkk h1 h0
  go_enter Try.func82, Try.ntmps82
  go_wp2_with fail
  refine HA.out.mono ?_
  rintro e w1 ⟨rfl, hI1, k1⟩
  have hR1 := HX.out.rx.heap HX.out.th k1
  have hsz := k1.size
  have c19 := hR1.at19
  have f19 := hR1.frozen 19
  obtain ⟨hR2, k2⟩ := hR1.setFull true
  have hI2 := hI1.keepsX k2 hR1.xbX
  have HE2 := Box.mk (((HX.out.sep.keepsT HX.out.rx k1 (foot3_notT HX.out.th)).keepsT hR1 k2 hR1.xbT))
  have HR1 := Box.mk hR1
  have HR2 := Box.mk hR2
  have HI2 := Box.mk hI2
  have K2 := Box.mk (((FK.refl xb hb b g P.G.all.length T w).stepF HX.out.rx HX.out.th k1).stepX (i := 19) hR1 (by decide) (.bool true))
  have hb18 := hR2.at18
  have f18 := hR2.frozen 18
  clear hR1 hR2 hI2 hI1 k1 k2 hsz c0
  go_wp2_with (go_at_call 59; refine (is_kind 4 4 _).mono ?_; rintro e w3 ⟨rfl, rfl⟩)
  exact bodyPost_ret (results_none rfl _ _ _) rfl ⟨rfl, ⟨T, ⟨(HR2.out.setBad false).1, HI2.out.keepsX (HR2.out.setBad false).2 HR2.out.xbX, HE2.out.keepsT HR2.out (HR2.out.setBad false).2 HR2.out.xbT⟩, K2.out.stepX (i := 18) HR2.out (by decide) (.bool false), Or.inl rfl⟩⟩

theorem info_val : (Try.prog.info? 58).map (fun i => (i.zero, i.size, i.bytes)) = some (some (.agg #[.int .u64 0, .pointer none]), 2, 16) := by kernel_rfl
set_option maxRecDepth 100000 in
set_option maxHeartbeats 8000000 in
theorem made_cell {w : World} {xb hb b g r form n u : Nat} {P : PSt} {T : List Nat} {s2 : TH} (hX : IsX w xb hb b g P T) (hF : Fit P) (h3 : ∀ t ∈ P.G.all, t.form ≠ 3) (hlen : T.length ≤ 5000) (hr : r < 8) (hf1 : 1 ≤ form) (hf2 : form ≤ 2) (hn : n ≤ 127)
    (h : talloc P.s form 0 n = some (s2, 8 * u + 1)) (hv : tvalue s2 (8 * u + 1) = true) (hu : ∀ i, PR P.G i → P.U.getD i 0 ≠ u) (ub : 8 * u + 1 < 18446744073709551616) :
    Calls Try.prog 82 #[.pointer (some ⟨xb, 0, none⟩), .int .i64 r, .int .i64 form, .int .i64 n, .slice none 0 0] w (XSaid w xb hb b g P.G.all.length T (P.made r form n u s2)) := by
  have c0 := hX.rx.at0
  have HX := Box.mk hX
  have HA := Box.mk (alloc_f (tag := 0) hX.th h hF.now hF.k hf1 hf2 (by omega) hn)
  obtain ⟨x, hx⟩ : ∃ x, 8 * u + 1 = x := ⟨_, rfl⟩
  rw [hx] at HA
  have HU : Box (∀ i, PR P.G i → 8 * P.U.getD i 0 + 1 ≠ x) := ⟨fun i hi e => hu i hi (by omega)⟩
  have HV := Box.mk (And.intro hv ub)
  have HXu := Box.mk hx
  have H3 := Box.mk h3
  clear hX hF h hv hu h3 ub hx
  go_enter Try.func82, Try.ntmps82
  go_wp2_with fail
  refine HA.out.mono ?_
  rintro e w1 ⟨rfl, hI1, k1⟩
  have HR1 := Box.mk (HX.out.rx.heap HX.out.th k1)
  have HI1 := Box.mk hI1
  have HS1 := Box.mk ((FK.refl xb hb b g P.G.all.length T w).stepF HX.out.rx HX.out.th k1)
  have HE1 := Box.mk (HX.out.sep.keepsT HX.out.rx k1 (foot3_notT HX.out.th))
  clear hI1 k1 HA c0
  go_wp2_with fail
  refine (reached_is HR1.out (by omega) H3.out).mono ?_
  rintro e w2 ⟨⟨mb, l, rfl, hset, hmb, him, hall⟩, k2⟩
  have HR2 := Box.mk (HR1.out.keeps0 k2)
  have HI2 := Box.mk (HI1.out.keeps0 k2)
  have HS2 := Box.mk (HS1.out.step0 HR1.out k2)
  have HM := Box.mk him
  obtain ⟨hrg, hit⟩ := set_range w2 hset
  have k3 := (Keeps.refl (fun _ => False) w2).alloc (.mapIter (some mb) l.length #[] l.length)
  have hlm : mb < w2.heap.size := by
    obtain ⟨es, h1, -⟩ := hset.map
    exact lt_of_heap h1
  obtain ⟨r1, hr1⟩ : ∃ r1, w2.heap.size = r1 := ⟨_, rfl⟩
  obtain ⟨w3, hw3⟩ : ∃ w3, w2.alloc (.mapIter (some mb) l.length #[] l.length) = w3 := ⟨_, rfl⟩
  rw [hr1, hw3] at hrg hit
  rw [hw3] at k3
  rw [hr1] at hlm
  have HIt := Box.mk hit
  have HR3 := Box.mk (HR2.out.keeps0 k3)
  have HI3 := Box.mk (HI2.out.keeps0 k3)
  have HS3 := Box.mk (HS2.out.step0 HR2.out k3)
  have HRr : Box (w.heap.size ≤ r1) := ⟨by rw [← hr1]; exact HS2.out.size⟩
  have HE3 := Box.mk ((HE1.out.keepsT HR1.out k2 (fun _ _ h => h.elim)).keepsT HR2.out k3 (fun _ _ h => h.elim))
  clear hset hmb him hall k2 hit k3 hr1 hw3 HR1 HI1 HS1 HR2 HI2 HS2 HE1
  go_wp2_with fail
  go_loopw [] (fun wr => ∃ (k : Nat), Box (IsIt wr r1 mb l k) ∧ Box (RX wr xb hb P.G T P.U false P.full) ∧ Box (IsTH wr hb b g s2) ∧ Box (FK xb hb b g P.G.all.length T P.G.all.length T w wr) ∧ Box (RSep wr P.G.all.length T)) (fun wr => itLeft wr r1)
  case atStart => exact ⟨_, HIt, HR3, HI3, HS3, HE3⟩
  case round =>
    clear HIt HR3 HI3 HS3 HE3
    obtain ⟨k, HIt, HR, HI, HS, HE⟩ := hrel
    rcases set_next wr 0 HIt.out (by omega) with ⟨hk0, hnx⟩ | ⟨a, ha, wn, k', hk', hnx, hen, hit', kk⟩
    · clear HIt
      obtain ⟨wq, hwq⟩ : ∃ wq, wq = wr := ⟨_, rfl⟩
      subst hwq
      obtain ⟨tb, htb⟩ : ∃ tb, wq.heap.size = tb := ⟨_, rfl⟩
      obtain ⟨wA, hwA⟩ : ∃ wA, wq.alloc (.cells #[.int .i64 (form : Int), .slice none 0 0, .int .u64 (x : Int)] 69) = wA := ⟨_, rfl⟩
      have kA : Keeps (fun _ => False) wq wA := by rw [← hwA]; exact (Keeps.refl _ wq).alloc _
      have HTA : Box (wA.heap[tb]? = some (.cells #[.int .i64 (form : Int), .slice none 0 0, .int .u64 (x : Int)] 69 (0, 0))) := ⟨by rw [← hwA, ← htb]; exact heap_alloc_new wq _⟩
      have KA := Box.mk kA
      have Htq := Box.mk htb
      have HOA : Box (wA.ownsRow tb 58 2 (.slice none 0 0) 0 ((List.replicate 0 (PV.num (fillv form))).flatMap (pvc T))) := ⟨World.ownsRow_nil _ _ _ _⟩
      obtain ⟨i0, hi0, hz0, hz1, hz2⟩ := info_parts info_val
      have Hi := Box.mk (And.intro hi0 (And.intro hz0 (And.intro hz1 hz2)))
      clear kA hk0 hi0 hz0 hz1 hz2
      go_wp2_with fail
      clear hwA htb hnx
      go_loopw [72] (fun i w1 => ∃ (j : Nat) (fv : Value), j ≤ n ∧ i = .int .i64 j ∧ Box (w1.heap[tb]? = some (.cells #[.int .i64 (form : Int), fv, .int .u64 (x : Int)] 69 (0, 0))) ∧ Box (w1.ownsRow tb 58 2 fv j ((List.replicate j (PV.num (fillv form))).flatMap (pvc T))) ∧ Box (Keeps (fun _ => False) wq w1)) (fun i _ => n - (intOf i).toNat)
      case atStart => exact ⟨0, .slice none 0 0, Nat.zero_le _, rfl, HTA, HOA, KA⟩
      case round =>
        clear HTA HOA KA
        obtain ⟨j, fv, hj, rfl, HT, HO, K⟩ := hrel
        obtain ⟨fa, fc, rfl⟩ : ∃ fa fc, fv = .slice fa j fc := by
          rcases HO.out.2 with ⟨e, e2⟩ | ⟨g, cap, cur, e, -⟩
          · exact ⟨none, 0, by rw [e, e2]⟩
          · exact ⟨_, _, e⟩
        by_cases hjn : j < n
        · have h12 : form = 1 ∨ form = 2 := by omega
          rcases h12 with h12 | h12
          · have e2 : ((form : Int) == 2) = false := by rw [beq_eq_false_iff_ne]; omega
            have HF : Box (fillv form = 12) := ⟨by rw [h12]; rfl⟩
            clear h12
            go_wp2_with (go_at_call 24; refine (wvoid_is _).mono ?_; rintro e w5 ⟨rfl, rfl⟩)
            obtain ⟨vb, hvb⟩ : ∃ vb, w5.heap.size = vb := ⟨_, rfl⟩
            obtain ⟨wB, hwB⟩ : ∃ wB, w5.alloc (.cells #[.int .u64 12, .pointer none] 58) = wB := ⟨_, rfl⟩
            have kB : Keeps (fun _ => False) w5 wB := by rw [← hwB]; exact (Keeps.refl _ w5).alloc _
            have hvB : wB.heap[vb]? = some (.cells #[.int .u64 12, .pointer none] 58 (0, 0)) := by rw [← hwB, ← hvb]; exact heap_alloc_new w5 _
            have hzB : wB.heap.size = vb + 1 := by rw [← hwB, ← hvb]; simp
            have hTB := kB.heap HT.out (fun h => h)
            have htlt : tb < vb := by rw [← hvb]; exact lt_of_heap HT.out
            have HOB := Box.mk (kB.own2 HO.out (fun _ _ h => h))
            have HNB := Box.mk (own_ne HOB.out hTB (by decide))
            have KB := Box.mk (K.out.trans kB)
            have HTB := Box.mk hTB
            have x0 := cell_of_heap hvB 0
            have x1 := cell_of_heap hvB 1
            have y1 := cell_of_heap hTB 1
            have fy := frozen_of_heap hTB 1
            simp only [List.getElem?_toArray, List.getElem?_cons_zero, List.getElem?_cons_succ] at x0 x1 y1
            rw [hvb, hwB]
            clear kB hvB hTB hwB hvb HT HO K
            have ka := (Keeps.refl (fun _ => False) wB).alloc (.cells #[.int .u64 12, .pointer none] 58)
            have hy := And.intro (ka.cell y1 (fun h => h)) (And.intro (ka.cell x0 (fun h => h)) (And.intro (ka.cell x1 (fun h => h)) ((ka.frozen (p := ⟨tb, 1, none⟩) (by simp only; omega) (fun h => h)).trans fy)))
            have hnb : some tb ≠ (Value.slice fa j fc).ownBlock := fun e => HNB.out tb e.symm rfl
            clear ka
            go_region_law (refine step_append_lies _ (by rfl) _ _ _ (by rfl) tb 58 i0 _ 2 16 Try.underlying67 Hi.out.1 Hi.out.2.1 Hi.out.2.2.1 Hi.out.2.2.2 rfl (by omega) (.slice fa j fc) j _ (by rfl) ((HOB.out.alloc _).drew) ⟨vb + 1, 0, none⟩ 1 1 [.int .u64 12, .pointer none] (by rfl) (by rfl) (World.news_of_block (cs := #[.int .u64 12, .pointer none]) (t := 58) (fr := (0, 0)) (by rw [← hzB]; exact heap_alloc_new wB _)) (by simp [Value.oneCell']) (by omega) (by unfold maxLen; omega) (by omega) (by simp; omega) (vb + 2) (by simp; omega) ?_; intro gg cap w6 hown6 hgrow hat hlt6; have hz0 := (hgrow.cell_far ⟨tb, 1, none⟩ (by simp; omega) hnb).trans hy.1; have hz1 := (hgrow.frozen_far ⟨tb, 1, none⟩ (by simp; omega) hnb).trans hy.2.2.2)
            all_goals
              have kg : Keeps (fun z => (Value.slice fa j fc).ownBlock = some z) wB w6 := (((Keeps.refl (fun z => (Value.slice fa j fc).ownBlock = some z) wB).alloc (.cells #[.int .u64 12, .pointer none] 58)).drew).grown hgrow (fun k hk _ => hk)
              have hh6 := kg.heap HTB.out (fun e => HNB.out tb e rfl)
              have kt := (Keeps.refl (fun z => z = tb) w6).setCell (p := ⟨tb, 1, none⟩) (fun _ => rfl) (.slice (some ⟨gg, 0, none⟩) (j + 1) cap)
              have hown7 : w6.ownsRow tb 58 2 (.slice (some ⟨gg, 0, none⟩) (j + 1) cap) (j + 1) ((List.replicate (j + 1) (PV.num (fillv form))).flatMap (pvc T)) := by
                rw [List.replicate_succ', List.flatMap_append, HF.out]
                rw [HF.out] at hown6
                exact hown6
              have HT7 : Box ((w6.setCell ⟨tb, 1, none⟩ (.slice (some ⟨gg, 0, none⟩) (j + 1) cap)).heap[tb]? = some (.cells #[.int .i64 (form : Int), .slice (some ⟨gg, 0, none⟩) (j + 1) cap, .int .u64 (x : Int)] 69 (0, 0))) := ⟨by
                have := heap_setCell_at hh6 1 (.slice (some ⟨gg, 0, none⟩) (j + 1) cap)
                simpa using this⟩
              have HO7 := Box.mk (kt.own2 hown7 (own_ne hown7 hh6 (by decide)))
              have K7 : Box (Keeps (fun _ => False) wq (w6.setCell ⟨tb, 1, none⟩ (.slice (some ⟨gg, 0, none⟩) (j + 1) cap))) := ⟨(KB.out.trans' kg (fun i hi e => by have := (HOB.out.lt i e).1; have := Htq.out; omega)).trans' kt (fun i hi e => by have := Htq.out; omega)⟩
              clear hown6 hown7 hgrow kg hh6 kt hz0 hz1 hy x0 x1 y1 fy hat hlt6 HOB HNB KB HTB hnb
              go_wp2_with fail
              go_roundw
              case rel => exact ⟨j + 1, _, by omega, by go_num, HT7, HO7, K7⟩
              case measure => simp [intOf]; omega
          · have e2 : ((form : Int) == 2) = true := by rw [beq_iff_eq]; omega
            have HF : Box (fillv form = 0) := ⟨by rw [h12]; rfl⟩
            clear h12
            go_wp2_with (go_at_call 24; refine (wvoid_is _).mono ?_; rintro e w5 ⟨rfl, rfl⟩)
            obtain ⟨vb, hvb⟩ : ∃ vb, w5.heap.size = vb := ⟨_, rfl⟩
            obtain ⟨wB, hwB⟩ : ∃ wB, w5.alloc (.cells #[.int .u64 0, .pointer none] 58) = wB := ⟨_, rfl⟩
            have kB : Keeps (fun _ => False) w5 wB := by rw [← hwB]; exact (Keeps.refl _ w5).alloc _
            have hvB : wB.heap[vb]? = some (.cells #[.int .u64 0, .pointer none] 58 (0, 0)) := by rw [← hwB, ← hvb]; exact heap_alloc_new w5 _
            have hzB : wB.heap.size = vb + 1 := by rw [← hwB, ← hvb]; simp
            have hTB := kB.heap HT.out (fun h => h)
            have htlt : tb < vb := by rw [← hvb]; exact lt_of_heap HT.out
            have HOB := Box.mk (kB.own2 HO.out (fun _ _ h => h))
            have HNB := Box.mk (own_ne HOB.out hTB (by decide))
            have KB := Box.mk (K.out.trans kB)
            have HTB := Box.mk hTB
            have x0 := cell_of_heap hvB 0
            have x1 := cell_of_heap hvB 1
            have y1 := cell_of_heap hTB 1
            have fy := frozen_of_heap hTB 1
            simp only [List.getElem?_toArray, List.getElem?_cons_zero, List.getElem?_cons_succ] at x0 x1 y1
            rw [hvb, hwB]
            clear kB hvB hTB hwB hvb HT HO K
            have ka := (Keeps.refl (fun _ => False) wB).alloc (.cells #[.int .u64 0, .pointer none] 58)
            have hy := And.intro (ka.cell y1 (fun h => h)) (And.intro (ka.cell x0 (fun h => h)) (And.intro (ka.cell x1 (fun h => h)) ((ka.frozen (p := ⟨tb, 1, none⟩) (by simp only; omega) (fun h => h)).trans fy)))
            have hnb : some tb ≠ (Value.slice fa j fc).ownBlock := fun e => HNB.out tb e.symm rfl
            clear ka
            go_region_law (refine step_append_lies _ (by rfl) _ _ _ (by rfl) tb 58 i0 _ 2 16 Try.underlying67 Hi.out.1 Hi.out.2.1 Hi.out.2.2.1 Hi.out.2.2.2 rfl (by omega) (.slice fa j fc) j _ (by rfl) ((HOB.out.alloc _).drew) ⟨vb + 1, 0, none⟩ 1 1 [.int .u64 0, .pointer none] (by rfl) (by rfl) (World.news_of_block (cs := #[.int .u64 0, .pointer none]) (t := 58) (fr := (0, 0)) (by rw [← hzB]; exact heap_alloc_new wB _)) (by simp [Value.oneCell']) (by omega) (by unfold maxLen; omega) (by omega) (by simp; omega) (vb + 2) (by simp; omega) ?_; intro gg cap w6 hown6 hgrow hat hlt6; have hz0 := (hgrow.cell_far ⟨tb, 1, none⟩ (by simp; omega) hnb).trans hy.1; have hz1 := (hgrow.frozen_far ⟨tb, 1, none⟩ (by simp; omega) hnb).trans hy.2.2.2)
            all_goals
              have kg : Keeps (fun z => (Value.slice fa j fc).ownBlock = some z) wB w6 := (((Keeps.refl (fun z => (Value.slice fa j fc).ownBlock = some z) wB).alloc (.cells #[.int .u64 0, .pointer none] 58)).drew).grown hgrow (fun k hk _ => hk)
              have hh6 := kg.heap HTB.out (fun e => HNB.out tb e rfl)
              have kt := (Keeps.refl (fun z => z = tb) w6).setCell (p := ⟨tb, 1, none⟩) (fun _ => rfl) (.slice (some ⟨gg, 0, none⟩) (j + 1) cap)
              have hown7 : w6.ownsRow tb 58 2 (.slice (some ⟨gg, 0, none⟩) (j + 1) cap) (j + 1) ((List.replicate (j + 1) (PV.num (fillv form))).flatMap (pvc T)) := by
                rw [List.replicate_succ', List.flatMap_append, HF.out]
                rw [HF.out] at hown6
                exact hown6
              have HT7 : Box ((w6.setCell ⟨tb, 1, none⟩ (.slice (some ⟨gg, 0, none⟩) (j + 1) cap)).heap[tb]? = some (.cells #[.int .i64 (form : Int), .slice (some ⟨gg, 0, none⟩) (j + 1) cap, .int .u64 (x : Int)] 69 (0, 0))) := ⟨by
                have := heap_setCell_at hh6 1 (.slice (some ⟨gg, 0, none⟩) (j + 1) cap)
                simpa using this⟩
              have HO7 := Box.mk (kt.own2 hown7 (own_ne hown7 hh6 (by decide)))
              have K7 : Box (Keeps (fun _ => False) wq (w6.setCell ⟨tb, 1, none⟩ (.slice (some ⟨gg, 0, none⟩) (j + 1) cap))) := ⟨(KB.out.trans' kg (fun i hi e => by have := (HOB.out.lt i e).1; have := Htq.out; omega)).trans' kt (fun i hi e => by have := Htq.out; omega)⟩
              clear hown6 hown7 hgrow kg hh6 kt hz0 hz1 hy x0 x1 y1 fy hat hlt6 HOB HNB KB HTB hnb
              go_wp2_with fail
              go_roundw
              case rel => exact ⟨j + 1, _, by omega, by go_num, HT7, HO7, K7⟩
              case measure => simp [intOf]; omega
        · have hjn2 : j = n := by omega
          subst hjn2
          clear hj hjn
          go_wp2_with fail
          go_loopw [92] (fun i w1 => i = .int .i64 0 ∧ Box (w1.heap[tb]? = some (.cells #[.int .i64 (form : Int), .slice fa j fc, .int .u64 (x : Int)] 69 (0, 0))) ∧ Box (w1.ownsRow tb 58 2 (.slice fa j fc) j ((List.replicate j (PV.num (fillv form))).flatMap (pvc T))) ∧ Box (Keeps (fun _ => False) wq w1)) (fun i _ => 0)
          case atStart => exact ⟨rfl, HT, HO, K⟩
          case round =>
            clear HT HO K
            obtain ⟨rfl, HT, HO, K⟩ := hrel
            obtain ⟨wz, hwz⟩ : ∃ wz, wz = wr := ⟨_, rfl⟩
            subst hwz
            have HRw := Box.mk (HR.out.keeps0 K.out)
            have HIw := Box.mk (HI.out.keeps0 K.out)
            obtain ⟨av, abase, hx, hown⟩ := HRw.out.head
            obtain ⟨aa, ac, rfl⟩ : ∃ aa ac, av = .slice aa T.length ac := by
              rcases hown.2 with ⟨e, e2⟩ | ⟨g, cap, cur, e, -⟩
              · exact ⟨none, 0, by rw [e, e2]⟩
              · exact ⟨_, _, e⟩
            have hTn : Box (tb ∉ T) := ⟨fun hm => by
              obtain ⟨i, hi, e⟩ := List.mem_iff_getElem.1 hm
              have h1 := HR.out.isT (i := i) (by have := HR.out.lens.1; omega)
              rw [show T.getD i 0 = T[i] from by simp [List.getD, List.getElem?_eq_getElem hi], e] at h1
              obtain ⟨cs, hcs⟩ := h1
              have := lt_of_heap hcs
              have := Htq.out
              omega⟩
            have HEw := Box.mk (HE.out.keepsT HR.out K.out (fun _ _ h => h.elim))
            have HXw := Box.mk hx
            have HOw := Box.mk (own_zero hown)
            have c17 : wz.cell? ⟨xb, 17, none⟩ = some (.slice aa T.length ac) := by
              rw [cell_of_heap hx, List.getElem?_toArray]; exact (xcells_at HRw.out.wf.len).2.1
            have f17 := HRw.out.frozen 17
            have htlt : tb < wz.heap.size := lt_of_heap HT.out
            have HL : Box (T.length = P.G.all.length) := ⟨HRw.out.lens.1⟩
            obtain ⟨m, hm⟩ : ∃ m, T.length = m := ⟨_, rfl⟩
            have Hm := Box.mk hm
            rw [hm] at c17 HXw HOw hlen
            clear hx hown hm
            obtain ⟨j0, hi0, hz0, hz1, hz2⟩ := info_parts info_ptr
            have Hj := Box.mk (And.intro hi0 (And.intro hz0 (And.intro hz1 hz2)))
            clear hi0 hz0 hz1 hz2
            go_wp2_with (at_builtin; refine wpList_append_lies _ rfl _ _ 60 rfl 0 56 j0 _ 1 8 Try.underlying60 Hj.out.1 Hj.out.2.1 Hj.out.2.2.1 Hj.out.2.2.2 rfl (by decide) (.slice aa m ac) m _ rfl (HOw.out.alloc _) ⟨wz.heap.size, 0, none⟩ 1 1 [.pointer (some ⟨tb, 0, none⟩)] rfl rfl ?c1 ?c2 (by omega) ?c3 ?c4 ?c5 (wz.heap.size + 1) (by simp) ?c6)
            case c1 => exact World.news_of_block (cs := #[.pointer (some ⟨tb, 0, none⟩)]) (t := 56) (fr := (0, 0)) (heap_alloc_new _ _)
            case c2 => intro u hu; simp at hu; subst hu; rfl
            case c3 => unfold maxLen; omega
            case c4 => omega
            case c5 => simp
            case c6 =>
              intro g9 c9 w8 hown8 hgrow hat hlt8
              obtain ⟨v', hv9⟩ : ∃ v', Value.slice (some ⟨g9, 0, none⟩) (m + 1) c9 = v' := ⟨_, rfl⟩
              rw [hv9] at hown8 ⊢
              have k8 : Keeps (fun z => (Value.slice aa m ac).ownBlock = some z) wz w8 := ((Keeps.refl (fun z => (Value.slice aa m ac).ownBlock = some z) wz).alloc _).grown hgrow (fun k hk _ => hk)
              have hrx := RX.add (h := HRw.out) (av := .slice aa m ac) (u := u) (tb := tb) (fv := .slice fa j fc) (fb := tb) (t := ⟨form, List.replicate j (.num (fillv form))⟩) (v' := v') (base' := 0) HXw.out (by rw [Hm.out]; exact HOw.out) k8 (by rw [List.length_append, Hm.out, List.map_append]; exact hown8) (by rw [HXu.out]; exact HT.out) (by rw [List.length_replicate]; exact HO.out) hTn.out (fun i hi => by have := List.eq_of_mem_replicate hi; cases this) (fun e => by have e2 : form = 3 := e; omega) (by rw [List.length_replicate]; omega)
              have hI8 := HIw.out.keepsX k8 (fun z cs t e hz hn => by
                obtain ⟨c2, h2⟩ := own_type HOw.out e
                rw [h2] at hz
                injection hz with hz
                injection hz with _ h3
                exact hn.2.2.1 h3.symm)
              obtain ⟨av8, ab8, hx8, -⟩ := HRw.out.head
              have hx8' := k8.heap hx8 (fun e => own_ne HOw.out hx8 (by decide) _ e rfl)
              have hI9 := hI8.keepsX hrx.2 (fun z cs t e hz hn => by
                subst e
                rw [hx8'] at hz
                injection hz with hz
                injection hz with _ h2
                exact hn.1 h2.symm)
              have hE8 := (HEw.out.keepsT HRw.out k8 (fun z cs e hz => by
                obtain ⟨c2, h2⟩ := own_type HOw.out e
                rw [h2] at hz
                injection hz with hz
                injection hz with _ h3
                exact absurd h3 (by decide)))
              have hR8 : ∀ i, i < P.G.all.length → T.getD i 0 < w8.heap.size ∧ ¬ T.getD i 0 = xb := fun i hi => by
                obtain ⟨cs, hcs⟩ := HRw.out.isT hi
                exact ⟨Nat.lt_of_lt_of_le (lt_of_heap hcs) k8.size, fun e => HRw.out.xbT _ cs e hcs⟩
              have hE9 := hE8.keeps hrx.2 hR8
              have hT9 := (k8.heap HT.out (fun e => own_ne HOw.out HT.out (by decide) _ e rfl))
              have hE10 : RSep (w8.setCell ⟨xb, 17, none⟩ v') (P.G.all.length + 1) (T ++ [tb]) := by
                refine hE9.add (B := tb) (by rw [HL.out]) (fun fa' la ca e => ?_) (fun i hi f' l' c' e => ?_)
                · have h9 := hrx.2.heap hT9 (fun e => HRw.out.xbT _ _ e HT.out)
                  rw [cell_of_heap h9] at e
                  simp only [List.getElem?_toArray, List.getElem?_cons_zero, List.getElem?_cons_succ, Option.some.injEq, Value.slice.injEq] at e
                  obtain ⟨rfl, rfl, rfl⟩ := e
                  exact (HO.out.lt fa' rfl).1
                · obtain ⟨t', ht'⟩ : ∃ t', P.G.all[i]? = some t' := ⟨_, List.getElem?_eq_getElem hi⟩
                  obtain ⟨fv', fb', q1, q2⟩ := HR.out.thing i t' ht'
                  have q3 := (k8.heap (K.out.heap q1 (fun h => h)) (fun e => own_ne HOw.out (K.out.heap q1 (fun h => h)) (by decide) _ e rfl))
                  have q4 := hrx.2.heap q3 (fun e => (hR8 i hi).2 e)
                  rw [cell_of_heap q4] at e
                  simp only [List.getElem?_toArray, List.getElem?_cons_zero, List.getElem?_cons_succ, Option.some.injEq] at e
                  subst e
                  have := (q2.lt f' rfl).2
                  have := Htq.out
                  omega
              have HE10 := Box.mk hE10
              have HRX := Box.mk hrx.1
              have HI9 := Box.mk hI9
              have f8 := frozen_of_heap hx8' 17
              have c8 : ∃ v, w8.cell? ⟨xb, 17, none⟩ = some v := ⟨_, k8.cell c17 (fun e => own_ne HOw.out hx8 (by decide) _ e rfl)⟩
              obtain ⟨v8, c8⟩ := c8
              have hset := setx_is (r := r) hrx.1 hI9 hr (.ref P.G.all.length) (fun i e => by injection e with e; subst e; simp) (by
                show 8 * (P.U ++ [u]).getD P.G.all.length 0 + 1 < _
                rw [← HRw.out.lens.2, getD_app_eq]; exact HV.out.2) (by
                show tvalue s2 (8 * (P.U ++ [u]).getD P.G.all.length 0 + 1) = true
                rw [← HRw.out.lens.2, getD_app_eq]; exact HV.out.1)
              have eP : pvp (T ++ [tb]) (.ref P.G.all.length) = .pointer (some ⟨tb, 0, none⟩) := by
                show pkey ((T ++ [tb]).getD P.G.all.length 0) = _
                rw [← HL.out, getD_app_eq]; rfl
              have eW : setRoot s2 r (pword (P.U ++ [u]) (.ref P.G.all.length)) = setRoot s2 r (8 * u + 1) := by
                show setRoot s2 r (8 * (P.U ++ [u]).getD P.G.all.length 0 + 1) = _
                rw [← HRw.out.lens.2, getD_app_eq]
              rw [eP] at hset
              have HSet := Box.mk hset
              have HEW := Box.mk eW
              have HSZ : Box (w.heap.size ≤ tb) := ⟨by have := HS.out.size; have := Htq.out; omega⟩
              have hF8 : FK xb hb b g P.G.all.length T P.G.all.length T w w8 := (HS.out.step0 HR.out K.out).step k8 (fun S _ h1 z hz => by
                simp only [Value.ownBlock] at hz
                cases aa with
                | none => cases hz
                | some ad =>
                  obtain ⟨fg, fe⟩ := own_some HOw.out
                  rw [fe] at hz c17
                  simp only [Option.some.injEq] at hz
                  exact h1.all z m ac (by rw [← hz]; exact c17)) (by
                rw [c17]
                exact k8.cell c17 (fun e => own_ne HOw.out hx8 (by decide) _ e rfl)) (fun i hi => k8.same (HRw.out.isTlt hi) (fun e => by
                obtain ⟨cs, hcs⟩ := HRw.out.isT hi
                exact own_ne HOw.out hcs (by decide) _ e rfl))
              have hF9 : FK xb hb b g P.G.all.length T (P.G.all.length + 1) (T ++ [tb]) w (w8.setCell ⟨xb, 17, none⟩ v') := by
                intro S hS
                obtain ⟨f1, f2⟩ := hF8 S hS
                have hsame : ∀ i, i < P.G.all.length → (w8.setCell ⟨xb, 17, none⟩ v').cell? ⟨T.getD i 0, 1, none⟩ = w8.cell? ⟨T.getD i 0, 1, none⟩ := fun i hi => hrx.2.same (p := ⟨T.getD i 0, 1, none⟩) (hR8 i hi).1 (hR8 i hi).2
                refine ⟨⟨f1.x, f1.h, fun z l c e => ?_, fun i hi z l c e => ?_, fun z hz => f1.new z (by simpa using hz)⟩, f2.trans (hrx.2.mono (fun z _ e => by rw [e]; exact f1.x))⟩
                · have e17 : (w8.setCell ⟨xb, 17, none⟩ v').cell? ⟨xb, 17, none⟩ = some v' := World.cell?_setCell_same _ _ _ (k8.cell c17 (fun e => own_ne HOw.out hx8 (by decide) _ e rfl))
                  rw [e17, ← hv9] at e
                  simp only [Option.some.injEq, Value.slice.injEq, Addr.mk.injEq, and_true] at e
                  obtain ⟨rfl, -⟩ := e
                  rcases hat with hat | hat
                  · cases aa with
                    | none => cases hat
                    | some ad =>
                      obtain ⟨fg, fe⟩ := own_some HOw.out
                      rw [fe] at hat c17
                      simp only [Value.ownBlock, Option.some.injEq] at hat
                      exact f1.all g9 m ac (by
                        rw [← hat]
                        exact k8.cell c17 (fun e => own_ne HOw.out hx8 (by decide) _ e rfl))
                  · exact hS.new g9 (by have := HS.out.size; have := K.out.size; omega)
                · by_cases hin : i < P.G.all.length
                  · rw [getD_app_lt (by have := HL.out; omega)] at e
                    rw [hsame i hin] at e
                    exact f1.fld i hin z l c e
                  · have hie : i = T.length := by have := HL.out; omega
                    rw [hie, getD_app_eq] at e
                    have h9 := hrx.2.heap hT9 (fun e => HRw.out.xbT _ _ e HT.out)
                    rw [cell_of_heap h9] at e
                    simp only [List.getElem?_toArray, List.getElem?_cons_zero, List.getElem?_cons_succ, Option.some.injEq, Value.slice.injEq] at e
                    obtain ⟨rfl, rfl, rfl⟩ := e
                    exact hS.new z (by have := (HO.out.lt z rfl).1; have := HS.out.size; have := Htq.out; omega)
              have HF9 := Box.mk hF9
              subst hv9
              clear hF8 hF9 hat hlt8 hown8 hgrow k8 hrx hI8 hI9 hx8 hx8' hset eP eW c17 f17 hlen hrg hE8 hR8 hE9 hT9 hE10
              go_wp2_with fail
              refine HSet.out.mono ?_
              rintro e w9 ⟨rfl, q1, q2, q3, q4⟩
              rw [HEW.out] at q2
              have HQ := Box.mk (And.intro q1 q2)
              have hE : ({ P.G with all := P.G.all ++ [⟨form, List.replicate j (PV.num (fillv form))⟩] } : PG).all.length = P.G.all.length + 1 := by simp
              have hF9' := HF9.out
              rw [← hE] at hF9'
              have HF10 := Box.mk (hF9'.step q3 (fun S _ h1 z hz => hz.elim (fun e => by rw [e]; exact h1.x) (fun e => h1.h z e)) q4 (fun i hi => q3.same (HRX.out.isTlt hi) (fun e => by
                obtain ⟨cs, hcs⟩ := HRX.out.isT hi
                exact e.elim (fun e => HRX.out.xbT _ cs e hcs) (fun e => foot3_notT HI9.out _ cs e hcs))))
              have HE11 : Box (RSep w9 (P.G.all.length + 1) (T ++ [tb])) := ⟨by
                refine HE10.out.keeps q3 (fun i hi => ?_)
                have hi2 : i < ({ P.G with all := P.G.all ++ [⟨form, List.replicate j (PV.num (fillv form))⟩] } : PG).all.length := by simpa using hi
                obtain ⟨cs, hcs⟩ := HRX.out.isT hi2
                exact ⟨lt_of_heap hcs, fun e => e.elim (fun e => HRX.out.xbT _ cs e hcs) (fun e => foot3_notT HI9.out _ cs e hcs)⟩⟩
              clear q1 q2 q3 q4 hF9' hE
              go_wp2_with fail
              go_end0
              exact ⟨rfl, ⟨T ++ [tb], ⟨HQ.out.1, HQ.out.2, by have h := HE11.out; simpa [PSt.made] using h⟩, HF10.out, Or.inr ⟨tb, rfl, HSZ.out⟩⟩⟩
    · have hnc : ∀ z cs t, z = r1 → wr.heap[z]? = some (.cells cs t (0, 0)) → False := fun z cs t e hz => by subst e; exact HIt.out.notCells.1 _ _ hz
      have HRn := Box.mk (HR.out.keepsT kk (fun z cs t e hz => (hnc z cs t e hz).elim))
      have HIn := Box.mk (HI.out.keepsX kk (fun z cs t e hz => (hnc z cs t e hz).elim))
      have HSn := Box.mk (HS.out.stepN HR.out kk HRr.out (fun cs t => HIt.out.notCells.1 cs t))
      have HItn := Box.mk hit'
      have HEn := Box.mk (HE.out.keepsT HR.out kk (fun z cs e hz => hnc z cs _ e hz))
      have HL : Box (itLeft wr r1 = k) := ⟨HIt.out.left⟩
      obtain ⟨i, hi, rfl⟩ := HM.out a ha
      obtain ⟨t, ht⟩ := hi.ex HRn.out.wf
      obtain ⟨fv, fb, hT1, -⟩ := HRn.out.thing i t ht
      obtain ⟨y, hy⟩ : ∃ y, 8 * P.U.getD i 0 + 1 = y := ⟨_, rfl⟩
      have hne := HU.out i hi
      rw [hy] at hne hT1
      obtain ⟨tb, htb⟩ : ∃ tb, T.getD i 0 = tb := ⟨_, rfl⟩
      rw [htb] at hT1 hnx hen
      have c2 := cell_of_heap hT1 2
      simp only [List.getElem?_toArray, List.getElem?_cons_zero, List.getElem?_cons_succ] at c2
      have hbe : ((y : Int) == (x : Int)) = false := by rw [beq_eq_false_iff_ne]; omega
      have c18 := HRn.out.at18
      have f18 := HRn.out.frozen 18
      unfold pkey at hnx hen
      clear HIt HR HI HS HE hit' kk hi ht hT1 ha hnc hy htb hne
      go_wp2_with fail
      have hrx := HRn.out.setBad false
      have HRx := Box.mk hrx.1
      have HIx : Box (IsTH (wn.setCell ⟨xb, 18, none⟩ (.bool false)) hb b g s2) := ⟨HIn.out.keepsX hrx.2 (fun z cs t e hz hn => by
        subst e
        obtain ⟨av1, base1, hh, -⟩ := HRn.out.head
        rw [hh] at hz
        injection hz with hz
        injection hz with _ h2
        exact hn.1 h2.symm)⟩
      have HSx := Box.mk (HSn.out.stepX (i := 18) HRn.out (by decide) (.bool false))
      have HItx : Box (IsIt (wn.setCell ⟨xb, 18, none⟩ (.bool false)) r1 mb l k') := ⟨HItn.out.keeps hrx.2 (fun e => by
        subst e
        obtain ⟨av1, base1, hh, -⟩ := HRn.out.head
        exact HItn.out.notCells.2 _ _ hh) (fun e => by
        subst e
        obtain ⟨av1, base1, hh, -⟩ := HRn.out.head
        exact HItn.out.notCells.1 _ _ hh)⟩
      have HEx := Box.mk (HEn.out.keepsT HRn.out hrx.2 HRn.out.xbT)
      have HLx : Box (itLeft (wn.setCell ⟨xb, 18, none⟩ (.bool false)) r1 < itLeft wr r1) := ⟨by rw [HItx.out.left, HL.out]; exact hk'⟩
      clear HRn HIn HSn HItn HEn HL hrx
      go_roundw
      case rel => exact ⟨_, HItx, HRx, HIx, HSx, HEx⟩
      case measure => exact HLx.out

end Go.Proofs.Ytbjlapfcnldpoaa

/- What do asks: the world's registers and things' fields, read and written. No program in sight. -/
namespace Go.Proofs.Ytbjlapfcnldpoaa
set_option linter.unusedVariables false
set_option linter.unusedSimpArgs false
open Go.RowKit

section
variable {w w' : World} {xb hb : Nat} {G : PG} {T U : List Nat} {bad full : Bool}
theorem RX.reg (h : RX w xb hb G T U bad full) {r : Nat} {v : PV} (hv : G.regs[r]? = some v) : w.cell? ⟨xb, 1 + r * 2, none⟩ = some (.int .u64 (pvw v : Nat)) ∧ w.cell? ⟨xb, 1 + r * 2 + 1, none⟩ = some (pvp T v) := by
  obtain ⟨av, base, h1, -⟩ := h.head
  have hr : r < G.regs.length := (List.getElem?_eq_some_iff.1 hv).1
  have hf := flat_pvc T G.regs r v hv
  have hl := flat_len T G.regs
  constructor
  · rw [cell_of_heap h1, List.getElem?_toArray, show 1 + r * 2 = 2 * r + 1 from by omega]
    unfold xcells
    rw [List.getElem?_cons_succ, List.getElem?_append_left (by omega)]
    exact hf.1
  · rw [cell_of_heap h1, List.getElem?_toArray, show 1 + r * 2 + 1 = (2 * r + 1) + 1 from by omega]
    unfold xcells
    rw [List.getElem?_cons_succ, List.getElem?_append_left (by omega)]
    exact hf.2
/-- A thing's cells. -/
theorem RX.cells (h : RX w xb hb G T U bad full) {i : Nat} {t : PTh} (ht : G.all[i]? = some t) : ∃ fa fc, w.cell? ⟨T.getD i 0, 0, none⟩ = some (.int .i64 (t.form : Nat)) ∧ w.cell? ⟨T.getD i 0, 1, none⟩ = some (.slice fa t.fields.length fc) ∧ w.cell? ⟨T.getD i 0, 2, none⟩ = some (.int .u64 ((8 * U.getD i 0 + 1 : Nat) : Int)) ∧
    t.fields.length ≤ fc ∧ (0 < t.fields.length → ∃ f, fa = some ⟨f, 0, none⟩ ∧ f < w.heap.size ∧ (∀ j, w.frozen? ⟨f, j, none⟩ = false) ∧ (∃ cs, w.heap[f]? = some (.cells cs 58 (0, 0))) ∧ ∀ j v, t.fields[j]? = some v → w.cell? ⟨f, j * 2, none⟩ = some (.int .u64 (pvw v : Nat)) ∧ w.cell? ⟨f, j * 2 + 1, none⟩ = some (pvp T v)) := by
  obtain ⟨fv, fb, h1, h2⟩ := h.thing i t ht
  have c0 := cell_of_heap h1 0
  have c1 := cell_of_heap h1 1
  have c2 := cell_of_heap h1 2
  simp only [List.getElem?_toArray, List.getElem?_cons_zero, List.getElem?_cons_succ] at c0 c1 c2
  rcases Nat.eq_zero_or_pos t.fields.length with h0 | h0
  · have : ∃ fa fc, fv = .slice fa t.fields.length fc := by
      rcases h2.2 with ⟨e, e2⟩ | ⟨g, cap, cur, e, -⟩
      · exact ⟨none, 0, by rw [e, e2]⟩
      · exact ⟨_, _, e⟩
    obtain ⟨fa, fc, rfl⟩ := this
    exact ⟨fa, fc, c0, c1, c2, by omega, fun h => by omega⟩
  · obtain ⟨f, fc, rfl, hfb, hfl⟩ := h2.form h0
    obtain ⟨cs, hcs⟩ := own_type h2 (z := f) rfl
    refine ⟨_, fc, c0, c1, c2, ?_, fun _ => ⟨f, rfl, hfl, fun j => frozen_of_heap hcs j, ⟨cs, hcs⟩, fun j v hj => ?_⟩⟩
    · rcases h2.2 with ⟨e, e2⟩ | ⟨g, cap, cur, e, -, -, e3, -⟩
      · cases e
      · injection e with _ _ e4
        omega
    · have hjl : j < t.fields.length := (List.getElem?_eq_some_iff.1 hj).1
      have z1 := h2.cellAt (2 * j) (by omega)
      have z2 := h2.cellAt (2 * j + 1) (by omega)
      rw [(flat_pvc T t.fields j v hj).1] at z1
      rw [(flat_pvc T t.fields j v hj).2] at z2
      rw [Nat.mul_comm]
      exact ⟨z1, z2⟩
theorem flat_set (T : List Nat) (v : PV) : ∀ (l : List PV) (q : Nat), q < l.length → ((l.flatMap (pvc T)).set (q * 2) (.int .u64 (pvw v : Nat))).set (q * 2 + 1) (pvp T v) = (l.set q v).flatMap (pvc T)
  | [], q, h => by simp at h
  | a :: l, 0, h => rfl
  | a :: l, q + 1, h => by
    have := flat_set T v l q (by simpa using h)
    simp only [List.flatMap_cons, pvc, List.cons_append, List.nil_append]
    rw [show (q + 1) * 2 = (q * 2 + 1) + 1 from by omega]
    simp only [List.set_cons_succ]
    rw [this]
    rfl
theorem own_set2 {base f c n : Nat} {e : TypeId} {xs : List Value} (h : w.ownsRow base e 2 (.slice (some ⟨f, 0, none⟩) n c) n xs) (q : Nat) (u v : Value) :
    ((w.setCell ⟨f, q * 2, none⟩ u).setCell ⟨f, q * 2 + 1, none⟩ v).ownsRow base e 2 (.slice (some ⟨f, 0, none⟩) n c) n ((xs.set (q * 2) u).set (q * 2 + 1) v) := by
  obtain ⟨h1, h2⟩ := h
  rcases h2 with ⟨e0, -⟩ | ⟨g, cap, cur, e0, e1, e2, e3, e4, e5, e6⟩
  · cases e0
  · simp only [Value.slice.injEq, Option.some.injEq, Addr.mk.injEq, and_true] at e0
    obtain ⟨rfl, -, rfl⟩ := e0
    have hh := heap_setCell_at (heap_setCell_at e2 (q * 2) u) (q * 2 + 1) v
    refine ⟨by simpa using h1, .inr ⟨f, c, _, rfl, e1, hh, e3, e4, by simpa using e5, ?_⟩⟩
    rw [← e6]
    simp [List.take_set]
/-- A thing's field is set. -/
theorem RX.setField (h : RX w xb hb G T U bad full) (hS : RSep w G.all.length T) {i q : Nat} {t : PTh} {v : PV} {f fc : Nat} (ht : G.all[i]? = some t) (hq : q < t.fields.length) (hv : ∀ j, v = .ref j → j < G.all.length) (hc : w.cell? ⟨T.getD i 0, 1, none⟩ = some (.slice (some ⟨f, 0, none⟩) t.fields.length fc)) :
    RX ((w.setCell ⟨f, q * 2, none⟩ (.int .u64 (pvw v : Nat))).setCell ⟨f, q * 2 + 1, none⟩ (pvp T v)) xb hb { G with all := G.all.set i ⟨t.form, t.fields.set q v⟩ } T U bad full ∧ Keeps (fun z => z = f) w ((w.setCell ⟨f, q * 2, none⟩ (.int .u64 (pvw v : Nat))).setCell ⟨f, q * 2 + 1, none⟩ (pvp T v)) ∧ ∃ cs, w.heap[f]? = some (.cells cs 58 (0, 0)) := by
  have k := ((Keeps.refl (fun z => z = f) w).setCell (p := ⟨f, q * 2, none⟩) (fun _ => rfl) (.int .u64 (pvw v : Nat))).setCell (p := ⟨f, q * 2 + 1, none⟩) (fun _ => rfl) (pvp T v)
  have hil : i < G.all.length := (List.getElem?_eq_some_iff.1 ht).1
  obtain ⟨fv, fb, q1, q2⟩ := h.thing i t ht
  have hfv : fv = .slice (some ⟨f, 0, none⟩) t.fields.length fc := by
    rw [cell_of_heap q1] at hc
    simpa using hc
  subst hfv
  obtain ⟨cs, hcs⟩ := own_type q2 (z := f) rfl
  have hno : ∀ {z : Nat} {c2 : Array Value} {ty : TypeId}, w.heap[z]? = some (.cells c2 ty (0, 0)) → ty ≠ 58 → ¬ z = f := fun hz hne e => by
    subst e
    rw [hcs] at hz
    injection hz with hz
    injection hz with _ h2
    exact hne h2.symm
  obtain ⟨av, base, h1, h2⟩ := h.head
  refine ⟨⟨⟨av, base, k.heap h1 (hno h1 (by decide)), k.own2 h2 (fun z hz e => by
    obtain ⟨c2, e2⟩ := own_type h2 hz
    exact hno e2 (by decide) e)⟩, fun j t' ht' => ?_, by simpa using h.lens, ⟨fun j hj => ?_, fun t' ht' j hj => ?_, h.wf.len, fun t' ht' e => ?_, fun t' ht' => ?_⟩, h.nd⟩, k, cs, hcs⟩
  · have ht2 : (G.all.set i ⟨t.form, t.fields.set q v⟩)[j]? = some t' := ht'
    by_cases e : j = i
    · subst e
      rw [List.getElem?_set_self hil] at ht2
      injection ht2 with ht2
      subst ht2
      refine ⟨_, fb, k.heap q1 (hno q1 (by decide)), ?_⟩
      show World.ownsRow _ fb _ 2 _ (t.fields.set q v).length ((t.fields.set q v).flatMap (pvc T))
      rw [List.length_set, ← flat_set T v t.fields q hq]
      exact own_set2 q2 q _ _
    · rw [List.getElem?_set_ne (Ne.symm e)] at ht2
      obtain ⟨fv', fb', r1, r2⟩ := h.thing j t' ht2
      refine ⟨fv', fb', k.heap r1 (hno r1 (by decide)), k.own2 r2 (fun z hz ez => ?_)⟩
      subst ez
      rcases r2.2 with ⟨e0, -⟩ | ⟨g, cap, cur, e0, -⟩
      · rw [e0] at hz; cases hz
      · rw [e0] at hz
        have hg : g = z := by injection hz
        subst hg
        have c1 := cell_of_heap r1 1
        simp only [List.getElem?_toArray, List.getElem?_cons_zero, List.getElem?_cons_succ] at c1
        rw [e0] at c1
        exact hS j i (List.getElem?_eq_some_iff.1 ht2).1 hil e _ _ _ _ _ _ c1 hc rfl
  · show j < (G.all.set _ _).length
    rw [List.length_set]; exact h.wf.regs j hj
  · show j < (G.all.set _ _).length
    rw [List.length_set]
    rcases List.mem_or_eq_of_mem_set ht' with e | e
    · exact h.wf.flds t' e j hj
    · rw [e] at hj
      rcases List.mem_or_eq_of_mem_set hj with e2 | e2
      · exact h.wf.flds t (List.mem_of_getElem? ht) j e2
      · exact hv j e2.symm
  · rcases List.mem_or_eq_of_mem_set ht' with e2 | e2
    · exact h.wf.weak t' e2 e
    · rw [e2] at e ⊢
      show (t.fields.set q v).length = 2
      rw [List.length_set]; exact h.wf.weak t (List.mem_of_getElem? ht) e
  · rcases List.mem_or_eq_of_mem_set ht' with e2 | e2
    · exact h.wf.small t' e2
    · rw [e2]
      show (t.fields.set q v).length ≤ 200
      rw [List.length_set]; exact h.wf.small t (List.mem_of_getElem? ht)
end

end Go.Proofs.Ytbjlapfcnldpoaa

