/- A collector's step keeps what is reached: shade and scan. No program in sight. -/
import Derived.Test.YtbjlapfcnldpoaaTRep2
import Derived.Test.YtbjlapfcnldpoaaTGraph
namespace Go.Proofs.Ytbjlapfcnldpoaa
set_option linter.unusedVariables false
set_option linter.unusedSimpArgs false
open Go.RowKit

def inl (L : Nat → Nat → List Nat) (l v : Nat) : Bool := (List.range 4).any fun c => (L c l).contains v
/-- A cell's colour, by the list that it stands in. -/
def colOf (L : Nat → Nat → List Nat) (v : Nat) : Nat := if inl L 1 v then 1 else if inl L 2 v then 2 else if inl L 3 v then 3 else 0
theorem inl_iff {L : Nat → Nat → List Nat} {l v : Nat} : inl L l v = true ↔ ∃ c, c < 4 ∧ v ∈ L c l := by simp [inl]
theorem colOf_le (L : Nat → Nat → List Nat) (v : Nat) : colOf L v ≤ 3 := by unfold colOf; split <;> (try split) <;> (try split) <;> omega
theorem col_mem {cs W : List Nat} {L : Nat → Nat → List Nat} (h : RL cs W L) {c l v : Nat} (hc : c < 4) (hl : l < 4) (hv : v ∈ L c l) : colOf L v = l := by
  have key : ∀ l2, l2 < 4 → inl L l2 v = true → l2 = l := by
    intro l2 hl2 hi
    obtain ⟨c2, hc2, hv2⟩ := inl_iff.1 hi
    have e := (h.mem c2 l2 v hc2 hl2 hv2).one (h.mem c l v hc hl hv)
    subst e
    exact h.disj c2 l2 l v hc hl2 hl hv2 hv
  have hin : inl L l v = true := inl_iff.2 ⟨c, hc, hv⟩
  have no : ∀ l2, l2 < 4 → l2 ≠ l → inl L l2 v = false := by
    intro l2 hl2 hne
    cases hi : inl L l2 v with
    | false => rfl
    | true => exact absurd (key l2 hl2 hi) hne
  unfold colOf
  have : l = 0 ∨ l = 1 ∨ l = 2 ∨ l = 3 := by omega
  rcases this with rfl | rfl | rfl | rfl
  · rw [no 1 (by omega) (by omega), no 2 (by omega) (by omega), no 3 (by omega) (by omega)]; rfl
  · rw [hin]; rfl
  · rw [no 1 (by omega) (by omega), hin]; rfl
  · rw [no 1 (by omega) (by omega), no 2 (by omega) (by omega), hin]; rfl
theorem col_ne0 {L : Nat → Nat → List Nat} {v k : Nat} (h : colOf L v = k) (hk : k ≠ 0) : ∃ c, c < 4 ∧ v ∈ L c k := by
  unfold colOf at h
  split at h
  · rename_i hi; subst h; exact inl_iff.1 hi
  · split at h
    · rename_i hi; subst h; exact inl_iff.1 hi
    · split at h
      · rename_i hi; subst h; exact inl_iff.1 hi
      · exact absurd h.symm hk
theorem col_out {cs W : List Nat} {L : Nat → Nat → List Nat} (h : RL cs W L) {v : Nat} (hv : ∀ c l, c < 4 → l < 4 → v ∉ L c l) : colOf L v = 0 := by
  cases hk : colOf L v with
  | zero => rfl
  | succ k =>
    obtain ⟨c, hc, hm⟩ := col_ne0 hk (by omega)
    have := colOf_le L v
    exact absurd hm (hv c (k + 1) hc (by omega))
theorem col_mv {cs W W' : List Nat} {L : Nat → Nat → List Nat} {c l l' u : Nat} (h : RL cs W L) (h' : RL cs W' (mv L c l l' u)) (hc : c < 4) (hl : l < 4) (hl' : l' < 4) (hne : l ≠ l') (hu : u ∈ L c l) :
    colOf (mv L c l l' u) = updc (colOf L) u l' := by
  funext v
  by_cases e : v = u
  · subst e
    rw [updc_at]
    exact col_mem h' hc hl' (mv_self hne)
  · rw [updc_ne _ _ e]
    by_cases hin : ∃ c2 l2, c2 < 4 ∧ l2 < 4 ∧ v ∈ L c2 l2
    · obtain ⟨c2, l2, hc2, hl2, hv⟩ := hin
      rw [col_mem h hc2 hl2 hv]
      exact col_mem h' hc2 hl2 (mv_mem hv hne (fun e' => e e'.2.2))
    · rw [col_out h (fun c2 l2 hc2 hl2 hv => hin ⟨c2, l2, hc2, hl2, hv⟩)]
      refine col_out h' (fun c2 l2 hc2 hl2 hv => ?_)
      rcases mem_mv (h.nodup hc hl) hne hv with ⟨_, _, e'⟩ | ⟨hv', -⟩
      · exact e e'
      · exact hin ⟨c2, l2, hc2, hl2, hv'⟩
theorem mv_free {L : Nat → Nat → List Nat} {c l l' u : Nat} (h : 1 ≤ l) (h' : 1 ≤ l') (c2 : Nat) : mv L c l l' u c2 0 = L c2 0 := by
  unfold mv
  by_cases ec : c2 = c
  · subst ec
    rw [if_pos rfl, if_neg (by omega), if_neg (by omega)]
  · rw [if_neg ec]

/-- A plain cell's field names a cell. -/
def edgeW (cs W : List Nat) (u v : Nat) : Prop := (∃ c i, IsC cs c u ∧ hform (wat W u) = 1 ∧ i < hn (wat W u) ∧ i < szs c ∧ wat W (u + 3 + i) = 8 * v + 1) ∧ ∃ c, IsC cs c v
theorem edge_same {cs W W' : List Nat} (h : Same cs W W') (u v : Nat) : edgeW cs W' u v ↔ edgeW cs W u v := by
  constructor
  · rintro ⟨⟨c, i, hu, h1, h2, h3, h4⟩, hv⟩
    obtain ⟨a, -, b⟩ := h.shape c u hu
    exact ⟨⟨c, i, hu, by rw [← a]; exact h1, by rw [← b]; exact h2, h3, by rw [← h.fld c u i hu h3]; exact h4⟩, hv⟩
  · rintro ⟨⟨c, i, hu, h1, h2, h3, h4⟩, hv⟩
    obtain ⟨a, -, b⟩ := h.shape c u hu
    exact ⟨⟨c, i, hu, by rw [a]; exact h1, by rw [b]; exact h2, h3, by rw [h.fld c u i hu h3]; exact h4⟩, hv⟩

/-- Shadings, one behind the other. -/
inductive Shd (col : Nat → Nat) : (Nat → Nat) → Prop where
  | refl : Shd col col
  | step {col' : Nat → Nat} {u : Nat} (h : Shd col col') (hu : col' u = 2) : Shd col (updc col' u 3)
theorem Shd.trans {a b c : Nat → Nat} (h : Shd a b) (k : Shd b c) : Shd a c := by
  induction k with
  | refl => exact h
  | step _ hu ih => exact .step ih hu
theorem Shd.gi {a b : Nat → Nat} {edge : Nat → Nat → Prop} {root : Nat → Prop} (h : Shd a b) (g : GI a edge root) : GI b edge root := by
  induction h with
  | refl => exact g
  | step _ hu ih => exact ih.shade hu
theorem Shd.ok {a b : Nat → Nat} {edge : Nat → Nat → Prop} {v : Nat} (h : Shd a b) (g : OK a edge v) : OK b edge v := by
  induction h with
  | refl => exact g
  | step _ hu ih => exact ok_shade hu ih
theorem Shd.keep {a b : Nat → Nat} (h : Shd a b) (v : Nat) : (a v ≠ 2 → b v = a v) ∧ (a v = 2 → b v = 2 ∨ b v = 3) := by
  induction h with
  | refl => exact ⟨fun _ => rfl, fun h => Or.inl h⟩
  | @step col' u _ hu ih =>
    by_cases e : v = u
    · subst e
      rw [updc_at]
      refine ⟨fun h => ?_, fun _ => Or.inr rfl⟩
      have := ih.1 h
      rw [hu] at this
      exact absurd this.symm h
    · rw [updc_ne _ _ e]; exact ih
theorem Shd.zero {a b : Nat → Nat} (h : Shd a b) (v : Nat) : b v = 0 ↔ a v = 0 := by
  have k := h.keep v
  constructor
  · intro e
    by_cases h2 : a v = 2
    · have := k.2 h2; omega
    · rw [← k.1 h2]; exact e
  · intro e; rw [k.1 (by omega)]; exact e
theorem Shd.not2 {a b : Nat → Nat} (h : Shd a b) {v : Nat} (hv : a v ≠ 2) : b v ≠ 2 := by rw [(h.keep v).1 hv]; exact hv

/-- The words that may be shaded: what they name isn't free. -/
def Safe (cs : List Nat) (L : Nat → Nat → List Nat) (x : Nat) : Prop := x < 18446744073709551616 ∧ ∀ c u, IsC cs c u → x = 8 * u + 1 → u ∉ L c 0
structure Shaded (s s' : TH) (L L' : Nat → Nat → List Nat) (d : Nat → Nat → Nat) : Prop where
  rep : Rep s' L' d
  same : Same s.count s.W s'.W
  eq : s' = { s with lists := s'.lists, W := s'.W }
  free : ∀ c, L' c 0 = L c 0
  shd : Shd (colOf L) (colOf L')
theorem Shaded.refl {s : TH} {L : Nat → Nat → List Nat} {d : Nat → Nat → Nat} (h : Rep s L d) : Shaded s s L L d := ⟨h, Same.refl _ _, rfl, fun _ => rfl, .refl⟩
theorem Shaded.trans {a b c : TH} {L L' M : Nat → Nat → List Nat} {d : Nat → Nat → Nat} (h : Shaded a b L L' d) (k : Shaded b c L' M d) : Shaded a c L M d :=
  ⟨k.rep, h.same.trans (by have := k.same; rw [h.eq] at this; exact this), by rw [k.eq, h.eq], fun c => (k.free c).trans (h.free c), h.shd.trans k.shd⟩
theorem Shaded.stat {a b : TH} {L L' : Nat → Nat → List Nat} {d : Nat → Nat → Nat} (h : Shaded a b L L' d) : b.count = a.count ∧ b.roots = a.roots ∧ b.now = a.now ∧ b.marking = a.marking ∧ b.k = a.k ∧ b.cycles = a.cycles := by
  rw [h.eq]; exact ⟨rfl, rfl, rfl, rfl, rfl, rfl⟩

theorem rep_less {s : TH} {L : Nat → Nat → List Nat} {d : Nat → Nat → Nat} (h : Rep s L d) {c l : Nat} (hc : c < 4) (hl : l < 4) (hd : d c l = 0) (hn : L c l ≠ []) (z : Nat) :
    Rep { lset s c l (lget s c l - 1) with tries := z } L (fun c2 l2 => d c2 l2 + if c2 = c ∧ l2 = l then 1 else 0) := by
  refine ⟨⟨h.ls.a, h.ls.b, by simpa [lset] using h.ls.c, h.ls.d⟩, h.st, h.big, ?_, h.wait, h.now, h.rl, h.cov, h.tot, h.mark, h.form⟩
  intro c2 l2 hc2 hl2
  have hcn := h.cnt c2 l2 hc2 hl2
  have hlg : lget { lset s c l (lget s c l - 1) with tries := z } c2 l2 = if c2 = c ∧ l2 = l then lget s c l - 1 else lget s c2 l2 := lget_lset h.ls hc hl hl2
  rw [hlg]
  by_cases e : c2 = c ∧ l2 = l
  · obtain ⟨rfl, rfl⟩ := e
    simp only [and_self, if_true]
    have := List.length_pos_iff.2 hn
    omega
  · simp only [if_neg e]
    omega

theorem rep_shade {s : TH} {L : Nat → Nat → List Nat} {d : Nat → Nat → Nat} (h : Rep s L d) (hd : ∀ c, d c 2 = 0) {x : Nat} (hx : Safe s.count L x) :
    ∃ s' L', tshade s x = some s' ∧ Shaded s s' L L' d ∧ (∀ c u, IsC s.count c u → x = 8 * u + 1 → colOf L' u ≠ 2) ∧ ∀ v, colOf L' v = 3 → colOf L v = 3 ∨ x = 8 * v + 1 := by
  unfold tshade
  rw [if_neg (by have := hx.1; omega)]
  cases hp : tplace s x with
  | none =>
    refine ⟨s, L, rfl, Shaded.refl h, fun c u hu e => ?_, fun v hv => Or.inl hv⟩
    have := h.tplace.2 ⟨e, hu⟩
    rw [hp] at this
    cases this
  | some p =>
    obtain ⟨u, c⟩ := p
    obtain ⟨ex, huc⟩ := h.tplace.1 hp
    obtain ⟨l, hl, hul⟩ := h.cov c u huc
    have hc := huc.1
    have hl0 : l ≠ 0 := fun e => hx.2 c u huc ex (e ▸ hul)
    have hmk := h.mark c l u hc hl hul
    have hnow := h.now
    simp only [Option.bind_eq_bind, h.rdh huc, Option.bind_some]
    by_cases hl2 : l = 2
    · subst hl2
      have hm := hmk.2.1 rfl
      have hcn := h.cnt c 2 hc (by omega)
      have hpos := List.length_pos_of_mem hul
      have hle := h.lget_le hc (show 2 < 4 by omega)
      have hd2 := hd c
      have hr := rep_less h hc (by omega) hd2 (List.ne_nil_of_mem hul) s.tries
      obtain ⟨t', hmv, hrep, hsame, heq, -, -⟩ := rep_move hr hc (by omega) (by omega) (by omega) (by omega) (show 2 ≠ 3 by omega) hul (by simp) (show 2 < 4 by omega) (fun e => by omega) (fun e => by omega) (fun _ => rfl)
      have hdd : (fun c2 l2 => (d c2 l2 + if c2 = c ∧ l2 = 2 then 1 else 0) - if c2 = c ∧ l2 = 2 then 1 else 0) = d := by
        funext c2 l2; split <;> omega
      rw [hdd] at hrep
      refine ⟨t', mv L c 2 3 u, ?_, ⟨hrep, hsame, heq, fun c2 => mv_free (by omega) (by omega) c2, ?_⟩, fun c' v hv e => ?_, fun v hv => ?_⟩
      · rw [hm]
        simp only [ne_eq, not_true_eq_false, if_false]
        unfold req
        rw [if_pos (by simp; omega), Option.bind_some, if_pos (by simp; omega), Option.bind_some]
        exact hmv
      · have hcnt : t'.count = s.count := by rw [heq]; rfl
        have hrl' := hrep.rl
        rw [hcnt] at hrl'
        rw [col_mv h.rl hrl' hc (by omega) (by omega) (by omega) hul]
        exact .step .refl (col_mem h.rl hc (by omega) hul)
      · have : v = u := by omega
        subst this
        have hcnt : t'.count = s.count := by rw [heq]; rfl
        have hrl' := hrep.rl
        rw [hcnt] at hrl'
        rw [col_mv h.rl hrl' hc (by omega) (by omega) (by omega) hul, updc_at]
        omega
      · have hcnt : t'.count = s.count := by rw [heq]; rfl
        have hrl' := hrep.rl
        rw [hcnt] at hrl'
        rw [col_mv h.rl hrl' hc (by omega) (by omega) (by omega) hul] at hv
        by_cases e : v = u
        · exact Or.inr (by rw [e]; exact ex)
        · rw [updc_ne _ _ e] at hv
          exact Or.inl hv
    · have hm : hmark (wat s.W u) ≠ 1 - s.now := by
        have : l = 1 ∨ l = 3 := by omega
        rcases this with rfl | rfl
        · rw [hmk.1 rfl]; omega
        · rw [hmk.2.2 rfl]; omega
      refine ⟨s, L, by rw [if_pos hm]; rfl, Shaded.refl h, fun c' v hv e => ?_, fun v hv => Or.inl hv⟩
      have : v = u := by omega
      subst this
      rw [col_mem h.rl hc hl hul]
      exact hl2

theorem shadeF_ok {c u : Nat} {d : Nat → Nat → Nat} (hd : ∀ c, d c 2 = 0) : ∀ (m j : Nat) (s : TH) (L : Nat → Nat → List Nat), Rep s L d → IsC s.count c u → j + m ≤ szs c →
    (∀ i, j ≤ i → i < j + m → Safe s.count L (wat s.W (u + 3 + i))) →
    ∃ s' L', shadeFields s u m j = some s' ∧ Shaded s s' L L' d ∧ ∀ i, j ≤ i → i < j + m → ∀ c' v, IsC s.count c' v → wat s.W (u + 3 + i) = 8 * v + 1 → colOf L' v ≠ 2 := by
  intro m
  induction m with
  | zero => intro j s L h hu hj hs; exact ⟨s, L, rfl, Shaded.refl h, fun i h1 h2 => by omega⟩
  | succ m ih =>
    intro j s L h hu hj hs
    obtain ⟨t, L1, e1, sh1, c1, -⟩ := rep_shade h hd (hs j (Nat.le_refl _) (by omega))
    have hcnt : t.count = s.count := sh1.stat.1
    have hfld : ∀ i, i < szs c → wat t.W (u + 3 + i) = wat s.W (u + 3 + i) := fun i hi => sh1.same.fld c u i hu hi
    obtain ⟨s', L', e2, sh2, c2⟩ := ih (j + 1) t L1 sh1.rep (by rw [hcnt]; exact hu) (by omega) (fun i h1 h2 => by
      rw [hfld i (by omega), hcnt]
      have := hs i (by omega) (by omega)
      exact ⟨this.1, fun c' v hv e => by rw [sh1.free]; exact this.2 c' v hv e⟩)
    refine ⟨s', L', ?_, sh1.trans sh2, fun i h1 h2 c' v hv e => ?_⟩
    · simp only [shadeFields, Option.bind_eq_bind]
      have hlt := hu.lt
      have hwl := h.rl.wl
      have : rd s.W (u + 3 + j) = some (wat s.W (u + 3 + j)) := by unfold rd; rw [if_pos (by omega)]
      rw [this, Option.bind_some, e1, Option.bind_some]
      exact e2
    · by_cases ei : i = j
      · subst ei
        exact sh2.shd.not2 (c1 c' v hv e)
      · exact c2 i (by omega) (by omega) c' v (by rw [hcnt]; exact hv) (by rw [hfld i (by omega)]; exact e)
theorem shadeAll_ok {d : Nat → Nat → Nat} (hd : ∀ c, d c 2 = 0) : ∀ (l : List Nat) (s : TH) (L : Nat → Nat → List Nat), Rep s L d → (∀ x ∈ l, Safe s.count L x) →
    ∃ s' L', shadeAll l s = some s' ∧ Shaded s s' L L' d ∧ (∀ x ∈ l, ∀ c' v, IsC s.count c' v → x = 8 * v + 1 → colOf L' v ≠ 2) ∧ ∀ v, colOf L' v = 3 → colOf L v = 3 ∨ ∃ x ∈ l, x = 8 * v + 1 := by
  intro l
  induction l with
  | nil => intro s L h hs; exact ⟨s, L, rfl, Shaded.refl h, (fun x hx => by cases hx), fun v hv => Or.inl hv⟩
  | cons y l ih =>
    intro s L h hs
    obtain ⟨t, L1, e1, sh1, c1, g1⟩ := rep_shade h hd (hs y List.mem_cons_self)
    have hcnt : t.count = s.count := sh1.stat.1
    obtain ⟨s', L', e2, sh2, c2, g2⟩ := ih t L1 sh1.rep (fun x hx => by
      rw [hcnt]
      have := hs x (List.mem_cons_of_mem _ hx)
      exact ⟨this.1, fun c' v hv e => by rw [sh1.free]; exact this.2 c' v hv e⟩)
    refine ⟨s', L', ?_, sh1.trans sh2, fun x hx c' v hv e => ?_, fun v hv => ?_⟩
    · simp only [shadeAll]
      rw [e1, Option.bind_some]
      exact e2
    · rcases List.mem_cons.1 hx with rfl | hx
      · exact sh2.shd.not2 (c1 c' v hv e)
      · exact c2 x hx c' v (by rw [hcnt]; exact hv) e
    · rcases g2 v hv with e | ⟨x, hx, e⟩
      · rcases g1 v e with e | e
        · exact Or.inl e
        · exact Or.inr ⟨y, List.mem_cons_self, e⟩
      · exact Or.inr ⟨x, List.mem_cons_of_mem _ hx, e⟩

/-- Who is named by a register. -/
def rootP (s : TH) (v : Nat) : Prop := 8 * v + 1 ∈ s.roots ∧ ∃ c, IsC s.count c v
/-- All is as it should be, between a program's doings. -/
structure St (s : TH) (L : Nat → Nat → List Nat) : Prop where
  rep : Rep s L d0
  gi : GI (colOf L) (edgeW s.count s.W) (rootP s)
  idle : s.marking = false → ∀ c, c < 4 → L c 2 = [] ∧ L c 3 = []
  wf : ∀ c u i, IsC s.count c u → i < szs c → wat s.W (u + 3 + i) < 18446744073709551616
  wr : ∀ x ∈ s.roots, x < 18446744073709551616
theorem safe_of {s : TH} {L : Nat → Nat → List Nat} {d : Nat → Nat → Nat} (h : Rep s L d) {x : Nat} (hx : x < 18446744073709551616) (hv : ∀ c v, IsC s.count c v → x = 8 * v + 1 → colOf L v ≠ 0) : Safe s.count L x :=
  ⟨hx, fun c u hu e hm => hv c u hu e (col_mem h.rl hu.1 (by omega) hm)⟩

theorem ring_first {cs W : List Nat} {L : Nat → Nat → List Nat} (h : RL cs W L) (hb : stt cs 4 ≤ 720051) {c l u : Nat} {M : List Nat} (hc : c < 4) (hl : l < 4) (he : L c l = u :: M) : oBehind W (thead c l) = some u := by
  have hr := h.ring c l hc hl
  rw [he] at hr
  have e : wat W (thead c l + 2) = u := hr.path.1.1
  have n1 := hr.node (thead c l) (by simp)
  have n2 := hr.node u (by simp)
  have := h.wl
  unfold oBehind isPlace
  rw [e]
  have h1 := n1.2
  have h2 := n2.2
  rw [if_pos (by simp; omega)]

theorem scanAt_ok {s : TH} {L : Nat → Nat → List Nat} (h : St s L) {c : Nat} (hc : c < 4) (hne : lget s c 3 ≠ 0) :
    ∃ s' L', tscanAt s c = some s' ∧ Rep s' L' d0 ∧ GI (colOf L') (edgeW s'.count s'.W) (rootP s') ∧ Same s.count s.W s'.W ∧ s' = { s with lists := s'.lists, W := s'.W, tries := 0 } ∧ ∀ c2, L' c2 0 = L c2 0 := by
  have hR := h.rep
  have hcn := hR.cnt c 3 hc (by omega)
  have hle := hR.lget_le hc (show 3 < 4 by omega)
  simp only [d0, Nat.add_zero] at hcn
  cases hL : L c 3 with
  | nil => rw [hL] at hcn; simp at hcn; omega
  | cons u M =>
    have hu : u ∈ L c 3 := by rw [hL]; simp
    have huc := hR.rl.mem c 3 u hc (by omega) hu
    have hbe := ring_first hR.rl (stt4_le hR.big) hc (by omega) hL
    have hr := rep_less hR hc (by omega) (show d0 c 3 = 0 from rfl) (List.ne_nil_of_mem hu) 0
    have hcol : colOf L u = 3 := col_mem hR.rl hc (by omega) hu
    obtain ⟨hform, hnl⟩ := hR.form c 3 u hc (by omega) (by omega) hu
    unfold tscanAt
    simp only [Option.bind_eq_bind, hbe, hR.rdh huc, Option.bind_some]
    have hreq : req (decide (lget s c 3 < 1000000)) = some () := by unfold req; rw [if_pos (by simp; omega)]
    rw [hreq, Option.bind_some]
    have hd0 : (fun c2 l2 => (d0 c2 l2 + if c2 = c ∧ l2 = 3 then 1 else 0) - if c2 = c ∧ l2 = 3 then 1 else 0) = d0 := by
      funext c2 l2; unfold d0; split <;> rfl
    rcases hform with hf | hf
    · rw [if_neg (by omega), if_pos hf]
      have hsafe : ∀ i, 0 ≤ i → i < 0 + hn (wat s.W u) → Safe s.count L (wat s.W (u + 3 + i)) := by
        intro i _ hi
        refine safe_of hR (h.wf c u i huc (by omega)) (fun c' v hv e => ?_)
        exact h.gi.alive u v (by omega) ⟨⟨c, i, huc, hf, by omega, by omega, e⟩, c', hv⟩
      obtain ⟨s2, L2, e2, sh, hnw⟩ := shadeF_ok (c := c) (u := u) (d := fun c2 l2 => d0 c2 l2 + if c2 = c ∧ l2 = 3 then 1 else 0) (fun c2 => by simp [d0]) (hn (wat s.W u)) 0 _ L hr huc (by omega) hsafe
      have hst := sh.stat
      have hcnt : s2.count = s.count := hst.1
      have hnow2 : s2.now = s.now := hst.2.2.1
      have hcol2 : colOf L2 u = 3 := by rw [(sh.shd.keep u).1 (by omega)]; exact hcol
      obtain ⟨c', hc', hu2⟩ := col_ne0 hcol2 (by omega)
      have hcc : c' = c := by
        have h1 := sh.rep.rl.mem c' 3 u hc' (by omega) hu2
        rw [hcnt] at h1
        exact h1.one huc
      subst hcc
      obtain ⟨t', hmv, hrep, hsame, heq, -, -⟩ := rep_move sh.rep hc' (by omega) (by omega) (by omega) (by omega) (show 3 ≠ 1 by omega) hu2 (by simp) (show s2.now < 4 by have := sh.rep.now; omega) (fun _ => rfl) (fun e => by omega) (fun e => by omega)
      rw [hd0] at hrep
      have hsame1 : Same s.count s.W s2.W := sh.same
      have hsame2 : Same s.count s.W t'.W := by
        rw [hcnt] at hsame
        exact hsame1.trans hsame
      have hcnt' : t'.count = s.count := by rw [heq]; exact hcnt
      have hroots' : t'.roots = s.roots := by rw [heq]; exact hst.2.1
      refine ⟨t', mv L2 c' 3 1 u, ?_, hrep, ?_, hsame2, ?_, fun c2 => ?_⟩
      · show (shadeFields _ u (hn (wat s.W u)) 0).bind _ = _
        have : shadeFields { lset s c' 3 (lget s c' 3 - 1) with tries := 0 } u (hn (wat s.W u)) 0 = some s2 := e2
        rw [this, Option.bind_some]
        exact hmv
      · have hrl' := hrep.rl
        rw [hcnt', ← hcnt] at hrl'
        rw [col_mv sh.rep.rl hrl' hc' (by omega) (by omega) (by omega) hu2]
        have g1 : GI (colOf L2) (edgeW s.count s.W) (rootP s) := sh.shd.gi h.gi
        have g2 := g1.toBlack hcol2 (fun v hv => by
          obtain ⟨⟨c2, i, hu3, f1, f2, f3, f4⟩, c3, hv3⟩ := hv
          exact hnw i (Nat.zero_le _) (by omega) c3 v hv3 f4) (colOf_le L2)
        have g3 : GI (updc (colOf L2) u 1) (edgeW t'.count t'.W) (rootP s) := by
          rw [hcnt']
          exact g2.edge_iff (fun a b => edge_same hsame2 a b)
        have hrp : rootP t' = rootP s := by funext v; unfold rootP; rw [hcnt', hroots']
        rw [hrp]
        exact g3
      · rw [heq, sh.eq]; rfl
      · rw [mv_free (by omega) (by omega)]
        exact sh.free c2
    · rw [if_neg (by omega), if_neg (by omega), if_pos hf]
      obtain ⟨t', hmv, hrep, hsame, heq, -, -⟩ := rep_move hr hc (by omega) (by omega) (by omega) (by omega) (show 3 ≠ 1 by omega) hu (by simp) (show s.now < 4 by have := hR.now; omega) (fun _ => rfl) (fun e => by omega) (fun e => by omega)
      rw [hd0] at hrep
      have hcnt' : t'.count = s.count := by rw [heq]; rfl
      have hroots' : t'.roots = s.roots := by rw [heq]; rfl
      refine ⟨t', mv L c 3 1 u, hmv, hrep, ?_, hsame, ?_, fun c2 => mv_free (by omega) (by omega) c2⟩
      · have hrl' := hrep.rl
        rw [hcnt'] at hrl'
        rw [col_mv hR.rl hrl' hc (by omega) (by omega) (by omega) hu]
        have g2 := h.gi.toBlack hcol (fun v hv => by
          obtain ⟨⟨c2, i, hu3, f1, f2, f3, f4⟩, c3, hv3⟩ := hv
          omega) (colOf_le L)
        have g3 : GI (updc (colOf L) u 1) (edgeW t'.count t'.W) (rootP s) := by
          rw [hcnt']
          exact g2.edge_iff (fun a b => edge_same hsame a b)
        have hrp : rootP t' = rootP s := by funext v; unfold rootP; rw [hcnt', hroots']
        rw [hrp]
        exact g3
      · rw [heq]; rfl

end Go.Proofs.Ytbjlapfcnldpoaa
