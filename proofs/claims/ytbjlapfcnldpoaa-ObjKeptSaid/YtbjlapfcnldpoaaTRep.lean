/- The heap's words as lists of cells: where cells lie, what moving one does. No program in sight. -/
import Derived.Test.YtbjlapfcnldpoaaTLink
namespace Go.Proofs.Ytbjlapfcnldpoaa
set_option linter.unusedVariables false
set_option linter.unusedSimpArgs false
open Go.RowKit

/-- Where a size's cells begin. -/
def stt (cs : List Nat) (c : Nat) : Nat := (starts cs).getD c 0
theorem stt0 (cs : List Nat) : stt cs 0 = 51 := rfl
theorem stt_step (cs : List Nat) {c : Nat} (hc : c < 4) : stt cs (c + 1) = stt cs c + cs.getD c 0 * (3 + szs c) := by
  have : c = 0 ∨ c = 1 ∨ c = 2 ∨ c = 3 := by omega
  rcases this with rfl | rfl | rfl | rfl <;> simp [stt, starts, szs]
theorem stt_mono (cs : List Nat) {c c' : Nat} (h : c ≤ c') (hc : c' ≤ 4) : stt cs c ≤ stt cs c' := by
  induction c' with
  | zero => have : c = 0 := by omega
            subst this; exact Nat.le_refl _
  | succ k ih =>
    by_cases e : c = k + 1
    · subst e; exact Nat.le_refl _
    · have h1 := ih (by omega) (by omega)
      rw [stt_step cs (by omega)]
      omega
theorem stt_ge (cs : List Nat) {c : Nat} (hc : c ≤ 4) : 51 ≤ stt cs c := stt_mono cs (Nat.zero_le c) hc

/-- u is the place of a cell of size c. -/
def IsC (cs : List Nat) (c u : Nat) : Prop := c < 4 ∧ ∃ i, i < cs.getD c 0 ∧ u = stt cs c + i * (3 + szs c)
/-- A list's head, or a cell. -/
def Base (cs : List Nat) (u : Nat) : Prop := (u < 51 ∧ u % 3 = 0) ∨ ∃ c, IsC cs c u
theorem IsC.bd {cs : List Nat} {c u : Nat} (h : IsC cs c u) : stt cs c ≤ u ∧ u + 3 + szs c ≤ stt cs (c + 1) := by
  obtain ⟨hc, i, hi, rfl⟩ := h
  refine ⟨Nat.le_add_right _ _, ?_⟩
  rw [stt_step cs hc]
  have := Nat.mul_le_mul_right (3 + szs c) (show i + 1 ≤ cs.getD c 0 by omega)
  rw [Nat.add_mul] at this
  omega
theorem IsC.ge {cs : List Nat} {c u : Nat} (h : IsC cs c u) : 51 ≤ u := Nat.le_trans (stt_ge cs (Nat.le_of_lt h.1)) h.bd.1
theorem IsC.lt {cs : List Nat} {c u : Nat} (h : IsC cs c u) : u + 3 + szs c ≤ stt cs 4 := Nat.le_trans h.bd.2 (stt_mono cs (by have := h.1; omega) (by omega))
theorem IsC.apart {cs : List Nat} {c c' u v : Nat} (h : IsC cs c u) (h' : IsC cs c' v) : (u = v ∧ c = c') ∨ u + 3 + szs c ≤ v ∨ v + 3 + szs c' ≤ u := by
  have b := h.bd
  have b' := h'.bd
  have hc := h.1
  have hc' := h'.1
  rcases Nat.lt_trichotomy c c' with hlt | he | hlt
  · have := stt_mono cs (show c + 1 ≤ c' by omega) (by omega); omega
  · subst he
    obtain ⟨-, i, hi, rfl⟩ := h
    obtain ⟨-, j, hj, rfl⟩ := h'
    rcases Nat.lt_trichotomy i j with hij | hij | hij
    · have := Nat.mul_le_mul_right (3 + szs c) (show i + 1 ≤ j by omega)
      rw [Nat.add_mul] at this
      omega
    · subst hij; exact Or.inl ⟨rfl, rfl⟩
    · have := Nat.mul_le_mul_right (3 + szs c) (show j + 1 ≤ i by omega)
      rw [Nat.add_mul] at this
      omega
  · have := stt_mono cs (show c' + 1 ≤ c by omega) (by omega); omega
theorem IsC.one {cs : List Nat} {c c' u : Nat} (h : IsC cs c u) (h' : IsC cs c' u) : c = c' := by
  rcases h.apart h' with ⟨-, e⟩ | e | e
  · exact e
  · omega
  · omega
theorem cell_apart {cs : List Nat} {c u v : Nat} (h : IsC cs c u) (h' : Base cs v) : u = v ∨ u + 3 + szs c ≤ v ∨ v + 3 ≤ u := by
  rcases h' with ⟨h1, h2⟩ | ⟨c', h'⟩
  · have := h.ge; omega
  · rcases h.apart h' with ⟨e, -⟩ | e | e
    · exact Or.inl e
    · exact Or.inr (Or.inl e)
    · exact Or.inr (Or.inr (by omega))
instance sepBase (cs : List Nat) : Sep (Base cs) where
  sep := by
    intro u v hu hv
    rcases hu with hu | ⟨c, hu⟩
    · rcases hv with hv | ⟨c', hv⟩
      · omega
      · have := hv.ge; omega
    · have := cell_apart hu hv
      omega
theorem head_base (cs : List Nat) {c l : Nat} (hc : c < 4) (hl : l < 4) : Base cs (thead c l) := Or.inl ⟨by unfold thead; omega, by unfold thead; omega⟩
theorem thead_lt {c l : Nat} (hc : c < 4) (hl : l < 4) : thead c l + 3 ≤ 48 := by unfold thead; omega
theorem thead_inj {c l c' l' : Nat} (hl : l < 4) (hl' : l' < 4) (h : thead c l = thead c' l') : c = c' ∧ l = l' := by unfold thead at h; omega
/-- A field's word is no link. -/
theorem field_ne {cs : List Nat} {c u v i j : Nat} (h : IsC cs c u) (hi : i < szs c) (hv : Base cs v) (hj : j ≤ 2) : v + j ≠ u + 3 + i := by
  have := cell_apart h hv
  omega
theorem header_ne {cs : List Nat} {c u v j : Nat} (h : IsC cs c u) (hv : Base cs v) (h1 : 1 ≤ j) (hj : j ≤ 2) : v + j ≠ u := by
  have := cell_apart h hv
  omega

theorem hform_hdr {f t m n : Nat} (hf : f < 4) (ht : t < 16) (hm : m < 4) (hn' : n < 256) : hform (hdr f t m n) = f := by unfold hform hdr; omega
theorem htag_hdr {f t m n : Nat} (hf : f < 4) (ht : t < 16) (hm : m < 4) (hn' : n < 256) : htag (hdr f t m n) = t := by unfold htag hdr; omega
theorem hmark_hdr {f t m n : Nat} (hf : f < 4) (ht : t < 16) (hm : m < 4) (hn' : n < 256) : hmark (hdr f t m n) = m := by unfold hmark hdr; omega
theorem hn_hdr {f t m n : Nat} (hf : f < 4) (ht : t < 16) (hm : m < 4) (hn' : n < 256) : hn (hdr f t m n) = n := by unfold hn hdr; omega
theorem hdr_lt {f t m n : Nat} (hf : f < 4) (ht : t < 16) (hm : m < 4) (hn' : n < 256) : hdr f t m n < 65536 := by unfold hdr; omega
theorem hform_lt (h : Nat) : hform h < 4 := by unfold hform; omega
theorem htag_lt (h : Nat) : htag h < 16 := by unfold htag; omega
theorem hmark_lt (h : Nat) : hmark h < 4 := by unfold hmark; omega
theorem hn_lt (h : Nat) : hn h < 256 := by unfold hn; omega

/-- The words W hold the lists L as rings; headers are headers. -/
structure RL (cs : List Nat) (W : List Nat) (L : Nat → Nat → List Nat) : Prop where
  wl : W.length = stt cs 4
  ring : ∀ c l, c < 4 → l < 4 → Ring (Base cs) W (thead c l) (L c l)
  mem : ∀ c l u, c < 4 → l < 4 → u ∈ L c l → IsC cs c u
  disj : ∀ c l l' u, c < 4 → l < 4 → l' < 4 → u ∈ L c l → u ∈ L c l' → l = l'
  hdr : ∀ c u, IsC cs c u → wat W u < 65536
/-- Headers but u's, and all fields, are the same. -/
structure Fr (cs : List Nat) (W W' : List Nat) (X : Nat → Prop) : Prop where
  hdr : ∀ c v, IsC cs c v → ¬ X v → wat W' v = wat W v
  fld : ∀ c v i, IsC cs c v → i < szs c → wat W' (v + 3 + i) = wat W (v + 3 + i)
theorem Fr.refl (cs W : List Nat) (X : Nat → Prop) : Fr cs W W X := ⟨fun _ _ _ _ => rfl, fun _ _ _ _ _ => rfl⟩
theorem Fr.trans {cs A B C : List Nat} {X : Nat → Prop} (h : Fr cs A B X) (k : Fr cs B C X) : Fr cs A C X :=
  ⟨fun c v hv hx => (k.hdr c v hv hx).trans (h.hdr c v hv hx), fun c v i hv hi => (k.fld c v i hv hi).trans (h.fld c v i hv hi)⟩
theorem Fr.mono {cs A B : List Nat} {X Y : Nat → Prop} (h : Fr cs A B X) (hxy : ∀ v, X v → Y v) : Fr cs A B Y :=
  ⟨fun c v hv hx => h.hdr c v hv (fun e => hx (hxy v e)), h.fld⟩
theorem fr_setAll {cs W : List Nat} {l : List Tie} (h : ∀ t ∈ l, Base cs t.1 ∧ 1 ≤ t.2.1 ∧ t.2.1 ≤ 2) (X : Nat → Prop) : Fr cs W (setAll W l) X :=
  ⟨fun c v hv _ => wat_setAll (fun t ht => header_ne hv (h t ht).1 (h t ht).2.1 (h t ht).2.2), fun c v i hv hi => wat_setAll (fun t ht => field_ne hv hi (h t ht).1 (h t ht).2.2)⟩
theorem fr_header {cs W : List Nat} {c u x : Nat} (hu : IsC cs c u) (hw : u < W.length) : Fr cs W (W.set u x) (fun v => v = u) :=
  ⟨fun c' v hv hx => by rw [wat_set _ _ _ _ hw, if_neg hx], fun c' v i hv hi => by
    rw [wat_set _ _ _ _ hw, if_neg (fun e => field_ne hv hi (Or.inr ⟨c, hu⟩) (Nat.zero_le 2) (by omega))]⟩

def mv (L : Nat → Nat → List Nat) (c l l' u : Nat) : Nat → Nat → List Nat :=
  fun c2 l2 => if c2 = c then (if l2 = l then (L c l).erase u else if l2 = l' then u :: L c l' else L c l2) else L c2 l2
theorem split_mem {L : List Nat} {u : Nat} (h : u ∈ L) (hn : L.Nodup) : ∃ A B, L = A ++ u :: B ∧ L.erase u = A ++ B := by
  obtain ⟨A, B, e⟩ := List.append_of_mem h
  refine ⟨A, B, e, ?_⟩
  subst e
  have hA : u ∉ A := fun hm => (List.nodup_append.1 hn).2.2 u hm u (by simp) rfl
  rw [List.erase_append_right _ hA]
  simp

section
variable {cs W : List Nat} {L : Nat → Nat → List Nat}
theorem RL.node (h : RL cs W L) {u : Nat} (hu : Base cs u) : Node (Base cs) W u := by
  refine ⟨hu, ?_⟩
  rw [h.wl]
  rcases hu with hu | ⟨c, hu⟩
  · have := stt_ge cs (Nat.le_refl 4); omega
  · have := hu.lt; omega
theorem RL.mem_base (h : RL cs W L) {c l : Nat} (hc : c < 4) (hl : l < 4) {u : Nat} (hu : u ∈ thead c l :: L c l) : Base cs u := ((h.ring c l hc hl).node u hu).1
theorem RL.apart (h : RL cs W L) {c l c' l' : Nat} (hc : c < 4) (hl : l < 4) (hc' : c' < 4) (hl' : l' < 4) (hne : ¬ (c = c' ∧ l = l')) : ∀ u ∈ thead c l :: L c l, u ∉ thead c' l' :: L c' l' := by
  intro u hu hu'
  rcases List.mem_cons.1 hu with e | e <;> rcases List.mem_cons.1 hu' with e' | e'
  · exact hne (thead_inj hl hl' (e.symm.trans e'))
  · have := (h.mem c' l' u hc' hl' e').ge
    have := thead_lt hc hl
    omega
  · have := (h.mem c l u hc hl e).ge
    have := thead_lt hc' hl'
    omega
  · have a := h.mem c l u hc hl e
    have b := h.mem c' l' u hc' hl' e'
    have e2 := a.one b
    subst e2
    exact hne ⟨rfl, h.disj c l l' u hc hl hl' e e'⟩
theorem RL.nodup (h : RL cs W L) {c l : Nat} (hc : c < 4) (hl : l < 4) : (L c l).Nodup := (List.nodup_cons.1 (h.ring c l hc hl).nodup).2
theorem RL.header (h : RL cs W L) {c u x : Nat} (hu : IsC cs c u) (hx : x < 65536) : RL cs (W.set u x) L := by
  have hw : u < W.length := by have := (h.node (Or.inr ⟨c, hu⟩)).2; omega
  refine ⟨by simpa using h.wl, fun c' l hc' hl => ?_, h.mem, h.disj, fun c' v hv => ?_⟩
  · refine (h.ring c' l hc' hl).frame (by simp) (fun v hv => ?_) (fun v hv => ?_)
    · rw [wat_set _ _ _ _ hw, if_neg (header_ne hu (h.mem_base hc' hl hv) (by omega) (by omega))]
    · rw [wat_set _ _ _ _ hw, if_neg (header_ne hu (h.mem_base hc' hl hv) (by omega) (by omega))]
  · rw [wat_set _ _ _ _ hw]
    split
    · exact hx
    · exact h.hdr c' v hv
end

/-- A cell goes from one list of its size to another one. -/
theorem rl_move {cs W : List Nat} {L : Nat → Nat → List Nat} (h : RL cs W L) {c l l' u x : Nat} (hc : c < 4) (hl : l < 4) (hl' : l' < 4) (hne : l ≠ l') (hu : u ∈ L c l) (hx : x < 65536) :
    ∃ W1 W2 W3, wrt W u x = some W1 ∧ oRemove W1 u = some W2 ∧ oInsert W2 (thead c l') u = some W3 ∧ RL cs W3 (mv L c l l' u) ∧ Fr cs W W3 (fun v => v = u) ∧ wat W3 u = x := by
  have huc := h.mem c l u hc hl hu
  have hw : u < W.length := by have := (h.node (Or.inr ⟨c, huc⟩)).2; omega
  have h1 := h.header huc hx
  have f1 := fr_header (x := x) huc hw
  have x1 : wat (W.set u x) u = x := by rw [wat_set _ _ _ _ hw, if_pos rfl]
  refine ⟨W.set u x, ?_⟩
  have e1 : wrt W u x = some (W.set u x) := by unfold wrt; rw [if_pos hw]
  generalize W.set u x = W1 at *
  obtain ⟨A, B, hAB, her⟩ := split_mem hu (h1.nodup hc hl)
  have hr := h1.ring c l hc hl
  rw [hAB] at hr
  obtain ⟨r1, r2⟩ := ring_around hr
  obtain ⟨q1, q2⟩ := ring_remove hr
  have ham : lastOf (thead c l) A ∈ thead c l :: (A ++ u :: B) := by
    rcases List.mem_cons.1 (lastOf_mem (thead c l) A) with h | h
    · rw [h]; simp
    · exact List.mem_cons_of_mem _ (List.mem_append_left _ h)
  have hxm : headOr (thead c l) B ∈ thead c l :: (A ++ u :: B) := by
    cases B with
    | nil => simp [headOr]
    | cons y B => simp [headOr]
  have na := hr.node _ ham
  have nx := hr.node _ hxm
  have nu := hr.node u (by simp)
  have e2 : oRemove W1 u = some (setAll W1 [(lastOf (thead c l) A, 2, headOr (thead c l) B), (headOr (thead c l) B, 1, lastOf (thead c l) A), (u, 1, u), (u, 2, u)]) := by
    unfold oRemove isPlace
    rw [r1, r2]
    simp [na.2, nx.2, nu.2]
  have hother : ∀ c' l', c' < 4 → l' < 4 → ¬ (c' = c ∧ l' = l) → Ring (Base cs) (setAll W1 [(lastOf (thead c l) A, 2, headOr (thead c l) B), (headOr (thead c l) B, 1, lastOf (thead c l) A), (u, 1, u), (u, 2, u)]) (thead c' l') (L c' l') := by
    intro c' l' hc' hl' hne'
    refine remove_other hr (h1.ring c' l' hc' hl') (fun v hv => ?_)
    have := h1.apart hc' hl' hc hl hne' v hv
    rwa [hAB] at this
  have f2 : Fr cs W1 (setAll W1 [(lastOf (thead c l) A, 2, headOr (thead c l) B), (headOr (thead c l) B, 1, lastOf (thead c l) A), (u, 1, u), (u, 2, u)]) (fun v => v = u) := by
    refine fr_setAll (fun t ht => ?_) _
    simp only [List.mem_cons, List.not_mem_nil, or_false] at ht
    rcases ht with rfl | rfl | rfl | rfl
    · exact ⟨na.1, by simp, by simp⟩
    · exact ⟨nx.1, by simp, by simp⟩
    · exact ⟨nu.1, by simp, by simp⟩
    · exact ⟨nu.1, by simp, by simp⟩
  have x2 : wat (setAll W1 [(lastOf (thead c l) A, 2, headOr (thead c l) B), (headOr (thead c l) B, 1, lastOf (thead c l) A), (u, 1, u), (u, 2, u)]) u = x := by
    rw [wat_setAll, x1]
    intro t ht
    simp only [List.mem_cons, List.not_mem_nil, or_false] at ht
    rcases ht with rfl | rfl | rfl | rfl
    · exact header_ne huc na.1 (by simp) (by simp)
    · exact header_ne huc nx.1 (by simp) (by simp)
    · exact header_ne huc nu.1 (by simp) (by simp)
    · exact header_ne huc nu.1 (by simp) (by simp)
  have l2 := setAll_length W1 [(lastOf (thead c l) A, 2, headOr (thead c l) B), (headOr (thead c l) B, 1, lastOf (thead c l) A), (u, 1, u), (u, 2, u)]
  have e2' := e2
  clear e2
  generalize setAll W1 [(lastOf (thead c l) A, 2, headOr (thead c l) B), (headOr (thead c l) B, 1, lastOf (thead c l) A), (u, 1, u), (u, 2, u)] = W2 at *
  refine ⟨W2, ?_⟩
  have hr' := hother c l' hc hl' (fun e => hne e.2.symm)
  have hnu : u ∉ thead c l' :: L c l' := h1.apart hc hl hc hl' (fun e => hne e.2) u (List.mem_cons_of_mem _ hu)
  have nu2 : Node (Base cs) W2 u := ⟨nu.1, by rw [l2]; exact nu.2⟩
  have i1 := ring_insert hr' nu2 hnu
  have hxm2 : wat W2 (thead c l' + 2) ∈ thead c l' :: L c l' := ring_next hr' (by simp)
  have np2 := hr'.node (thead c l') (by simp)
  have nx2 := hr'.node _ hxm2
  have e3 : oInsert W2 (thead c l') u = some (setAll W2 [(u, 1, thead c l'), (u, 2, wat W2 (thead c l' + 2)), (thead c l', 2, u), (wat W2 (thead c l' + 2), 1, u)]) := by
    unfold oInsert isPlace
    simp [np2.2, nx2.2, nu2.2]
  refine ⟨_, e1, e2', e3, ⟨?_, ?_, ?_, ?_, ?_⟩, ?_, ?_⟩
  · rw [setAll_length, l2]; exact h1.wl
  · intro c2 l2' hc2 hl2
    unfold mv
    by_cases ec : c2 = c
    · subst ec
      rw [if_pos rfl]
      by_cases el : l2' = l
      · subst el
        rw [if_pos rfl, her]
        refine insert_other hr' nu2 q1 (fun v hv => ⟨fun hv' => ?_, ?_⟩)
        · have hv2 : v ∈ thead c2 l2' :: L c2 l2' := by
            rw [hAB]
            simp only [List.mem_cons, List.mem_append] at hv ⊢
            rcases hv with e | e | e
            · exact Or.inl e
            · exact Or.inr (Or.inl e)
            · exact Or.inr (Or.inr (Or.inr e))
          exact h1.apart hc hl hc hl' (fun e => hne e.2) v hv2 hv'
        · intro e
          subst e
          have hnd := hr.nodup
          rw [List.nodup_cons, List.nodup_append] at hnd
          obtain ⟨n1, n2, n3, n4⟩ := hnd
          rcases List.mem_cons.1 hv with e | e
          · exact n1 (by rw [← e]; simp)
          · rcases List.mem_append.1 e with e | e
            · exact n4 v e v (by simp) rfl
            · exact (List.nodup_cons.1 n3).1 e
      · rw [if_neg el]
        by_cases el' : l2' = l'
        · subst el'
          rw [if_pos rfl]
          exact i1
        · rw [if_neg el']
          refine insert_other hr' nu2 (hother c2 l2' hc hl2 (fun e => el e.2)) (fun v hv => ⟨h1.apart hc hl2 hc hl' (fun e => el' e.2) v hv, ?_⟩)
          intro e
          subst e
          exact h1.apart hc hl2 hc hl (fun e => el e.2) v hv (List.mem_cons_of_mem _ hu)
    · rw [if_neg ec]
      refine insert_other hr' nu2 (hother c2 l2' hc2 hl2 (fun e => ec e.1)) (fun v hv => ⟨h1.apart hc2 hl2 hc hl' (fun e => ec e.1) v hv, ?_⟩)
      intro e
      subst e
      exact h1.apart hc2 hl2 hc hl (fun e => ec e.1) v hv (List.mem_cons_of_mem _ hu)
  · intro c2 l2' v hc2 hl2 hv
    unfold mv at hv
    by_cases ec : c2 = c
    · subst ec
      rw [if_pos rfl] at hv
      by_cases el : l2' = l
      · rw [if_pos el] at hv
        exact h1.mem c2 l v hc hl (List.mem_of_mem_erase hv)
      · rw [if_neg el] at hv
        by_cases el' : l2' = l'
        · rw [if_pos el'] at hv
          rcases List.mem_cons.1 hv with e | e
          · rw [e]; exact huc
          · exact h1.mem c2 l' v hc hl' e
        · rw [if_neg el'] at hv
          exact h1.mem c2 l2' v hc hl2 hv
    · rw [if_neg ec] at hv
      exact h1.mem c2 l2' v hc2 hl2 hv
  · intro c2 la lb v hc2 hla hlb hva hvb
    have key : ∀ l2', l2' < 4 → v ∈ mv L c l l' u c2 l2' → (c2 = c ∧ v = u ∧ l2' = l') ∨ (v ∈ L c2 l2' ∧ ¬ (c2 = c ∧ v = u)) := by
      intro l2' hl2 hv
      unfold mv at hv
      by_cases ec : c2 = c
      · subst ec
        rw [if_pos rfl] at hv
        by_cases el : l2' = l
        · subst el
          rw [if_pos rfl] at hv
          refine Or.inr ⟨List.mem_of_mem_erase hv, fun e => ?_⟩
          rw [e.2] at hv
          exact List.Nodup.not_mem_erase (h1.nodup hc hl) hv
        · rw [if_neg el] at hv
          by_cases el' : l2' = l'
          · subst el'
            rw [if_pos rfl] at hv
            rcases List.mem_cons.1 hv with e | e
            · exact Or.inl ⟨rfl, e, rfl⟩
            · refine Or.inr ⟨e, fun e2 => ?_⟩
              rw [e2.2] at e
              exact hnu (List.mem_cons_of_mem _ e)
          · rw [if_neg el'] at hv
            refine Or.inr ⟨hv, fun e => ?_⟩
            rw [e.2] at hv
            exact el (h1.disj c2 l2' l u hc hl2 hl hv hu)
      · rw [if_neg ec] at hv
        exact Or.inr ⟨hv, fun e => ec e.1⟩
    rcases key la hla hva with ⟨a1, a2, a3⟩ | ⟨a1, a2⟩ <;> rcases key lb hlb hvb with ⟨b1, b2, b3⟩ | ⟨b1, b2⟩
    · rw [a3, b3]
    · exact absurd ⟨a1, a2⟩ b2
    · exact absurd ⟨b1, b2⟩ a2
    · exact h1.disj c2 la lb v hc2 hla hlb a1 b1
  · intro c2 v hv
    rw [wat_setAll]
    · by_cases e : v = u
      · rw [e, x2]; exact hx
      · rw [f2.hdr c2 v hv e]
        exact h1.hdr c2 v hv
    · intro t ht
      simp only [List.mem_cons, List.not_mem_nil, or_false] at ht
      rcases ht with rfl | rfl | rfl | rfl
      · exact header_ne hv nu2.1 (by simp) (by simp)
      · exact header_ne hv nu2.1 (by simp) (by simp)
      · exact header_ne hv np2.1 (by simp) (by simp)
      · exact header_ne hv nx2.1 (by simp) (by simp)
  · refine (f1.trans f2).trans (fr_setAll (fun t ht => ?_) _)
    simp only [List.mem_cons, List.not_mem_nil, or_false] at ht
    rcases ht with rfl | rfl | rfl | rfl
    · exact ⟨nu2.1, by simp, by simp⟩
    · exact ⟨nu2.1, by simp, by simp⟩
    · exact ⟨np2.1, by simp, by simp⟩
    · exact ⟨nx2.1, by simp, by simp⟩
  · rw [wat_setAll, x2]
    intro t ht
    simp only [List.mem_cons, List.not_mem_nil, or_false] at ht
    rcases ht with rfl | rfl | rfl | rfl
    · exact header_ne huc nu2.1 (by simp) (by simp)
    · exact header_ne huc nu2.1 (by simp) (by simp)
    · exact header_ne huc np2.1 (by simp) (by simp)
    · exact header_ne huc nx2.1 (by simp) (by simp)

end Go.Proofs.Ytbjlapfcnldpoaa
