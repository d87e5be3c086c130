/- A collector's step keeps what is reached: flip, end, increments. No program in sight. -/
import Derived.Test.YtbjlapfcnldpoaaTStep
namespace Go.Proofs.Ytbjlapfcnldpoaa
set_option linter.unusedVariables false
set_option linter.unusedSimpArgs false
open Go.RowKit

theorem jn_at {L : Nat → Nat → List Nat} {c p q : Nat} (hne : p ≠ q) (c2 l2 : Nat) : jn L c p q c2 l2 = if c2 = c ∧ l2 = p then L c p ++ L c q else if c2 = c ∧ l2 = q then [] else L c2 l2 := by
  unfold jn
  by_cases ec : c2 = c
  · subst ec
    by_cases e1 : l2 = p
    · subst e1; simp
    · by_cases e2 : l2 = q
      · subst e2; simp [e1]
      · simp [e1, e2]
  · simp [ec]

/-- Headers and fields are word by word the same. -/
def Eqw (cs W W' : List Nat) : Prop := (∀ c v, IsC cs c v → wat W' v = wat W v) ∧ ∀ c v i, IsC cs c v → i < szs c → wat W' (v + 3 + i) = wat W (v + 3 + i)
theorem Eqw.same {cs W W' : List Nat} (h : Eqw cs W W') : Same cs W W' := ⟨fun c v hv => by rw [h.1 c v hv]; exact ⟨rfl, rfl, rfl⟩, h.2⟩
theorem Eqw.trans {cs A B C : List Nat} (h : Eqw cs A B) (k : Eqw cs B C) : Eqw cs A C := ⟨fun c v hv => (k.1 c v hv).trans (h.1 c v hv), fun c v i hv hi => (k.2 c v i hv hi).trans (h.2 c v i hv hi)⟩

/-- The lists when k sizes' black ones have become white. -/
def flipL (L : Nat → Nat → List Nat) (k : Nat) : Nat → Nat → List Nat := fun c l => if c < k then (if l = 2 then L c 1 else if l = 1 then [] else L c l) else L c l
theorem flipL_step {L : Nat → Nat → List Nat} {k : Nat} (h2 : L k 2 = []) : jn (flipL L k) k 2 1 = flipL L (k + 1) := by
  funext c l
  rw [jn_at (by omega)]
  have e1 : flipL L k k 2 = [] := by unfold flipL; rw [if_neg (by omega)]; exact h2
  have e2 : flipL L k k 1 = L k 1 := by unfold flipL; rw [if_neg (by omega)]
  rw [e1, e2, List.nil_append]
  by_cases ec : c = k
  · subst ec
    by_cases el : l = 2
    · subst el; simp [flipL]
    · by_cases el1 : l = 1
      · subst el1; simp [flipL]
      · simp [flipL, el, el1]
  · have hk : (c < k + 1) ↔ (c < k) := by omega
    simp [flipL, ec, hk]

theorem flipN_ok {t : TH} {L : Nat → Nat → List Nat} (hls : THlen t) (hrl : RL t.count t.W L) (hcnt : ∀ c l, c < 4 → l < 4 → lget t c l = (L c l).length) (h2 : ∀ c, c < 4 → L c 2 = []) :
    ∀ k, k ≤ 4 → ∃ tk, tflipN k t = some tk ∧ tk = { t with lists := tk.lists, W := tk.W } ∧ THlen tk ∧ RL t.count tk.W (flipL L k) ∧ (∀ c l, c < 4 → l < 4 → lget tk c l = (flipL L k c l).length) ∧ Eqw t.count t.W tk.W := by
  intro k
  induction k with
  | zero => intro _; exact ⟨t, rfl, rfl, hls, hrl, hcnt, fun _ _ _ => rfl, fun _ _ _ _ _ => rfl⟩
  | succ k ih =>
    intro hk
    obtain ⟨tk, e1, e2, h3, h4, h5, h6⟩ := ih (by omega)
    obtain ⟨W', j1, j2, j3, j4⟩ := rl_join h4 (show k < 4 by omega) (show 2 < 4 by omega) (show 1 < 4 by omega) (by omega)
    rw [flipL_step (h2 k (by omega))] at j2
    refine ⟨lset (lset { tk with W := W' } k 2 (lget tk k 1)) k 1 0, ?_, ?_, ⟨h3.a, h3.b, by simpa [lset] using h3.c, h3.d⟩, j2, ?_, h6.trans ⟨j4, (j3 (fun _ => False)).fld⟩⟩
    · simp only [tflipN]
      rw [e1, Option.bind_some]
      unfold tflip1
      simp only [Option.bind_eq_bind, j1, Option.bind_some]
      rfl
    · rw [e2]; rfl
    · intro c l hc hl
      have g1 : lget (lset (lset { tk with W := W' } k 2 (lget tk k 1)) k 1 0) c l = if c = k ∧ l = 1 then 0 else if c = k ∧ l = 2 then lget tk k 1 else lget tk c l := by
        rw [lget_lset (len_lset (s := { tk with W := W' }) ⟨h3.a, h3.b, h3.c, h3.d⟩ _ _ _) (by omega) (by omega) hl]
        rw [lget_lset (s := { tk with W := W' }) ⟨h3.a, h3.b, h3.c, h3.d⟩ (by omega) (by omega) hl]
        rfl
      rw [g1]
      have g2 := h5 c l hc hl
      have g3 := h5 k 1 (by omega) (by omega)
      by_cases ec : c = k
      · subst ec
        have e0 : ∀ l, flipL L c c l = L c l := fun l => by simp [flipL]
        rw [e0] at g2 g3
        by_cases el : l = 1
        · subst el; simp [flipL]
        · by_cases el2 : l = 2
          · subst el2; simp [flipL, g3]
          · simp [flipL, el, el2, g2]
      · have hk2 : (c < k + 1) ↔ (c < k) := by omega
        have e0 : flipL L (k + 1) c l = flipL L k c l := by simp [flipL, hk2]
        rw [e0, ← g2]
        simp [ec]

theorem col_flip {cs W W' : List Nat} {L : Nat → Nat → List Nat} (h : RL cs W L) (h' : RL cs W' (flipL L 4)) (h2 : ∀ c, c < 4 → L c 2 = []) : colOf (flipL L 4) = flipc (colOf L) := by
  funext v
  unfold flipc
  by_cases hin : ∃ c l, c < 4 ∧ l < 4 ∧ v ∈ L c l
  · obtain ⟨c, l, hc, hl, hv⟩ := hin
    rw [col_mem h hc hl hv]
    by_cases e1 : l = 1
    · subst e1
      rw [if_pos rfl]
      refine col_mem h' hc (show 2 < 4 by omega) ?_
      unfold flipL
      rw [if_pos hc, if_pos rfl]
      exact hv
    · rw [if_neg e1]
      have e2 : l ≠ 2 := fun e => by subst e; rw [h2 c hc] at hv; cases hv
      refine col_mem h' hc hl ?_
      unfold flipL
      rw [if_pos hc, if_neg e2, if_neg e1]
      exact hv
  · rw [col_out h (fun c l hc hl hv => hin ⟨c, l, hc, hl, hv⟩)]
    refine col_out h' (fun c l hc hl hv => ?_)
    unfold flipL at hv
    rw [if_pos hc] at hv
    split at hv
    · exact hin ⟨c, 1, hc, by omega, hv⟩
    · split at hv
      · cases hv
      · exact hin ⟨c, l, hc, hl, hv⟩

/-- What is the same behind a step. -/
structure Kept (s s' : TH) : Prop where
  count : s'.count = s.count
  roots : s'.roots = s.roots
  k : s'.k = s.k
  cyc : s'.cycles ≤ s.cycles + 1
  same : Same s.count s.W s'.W
  free : ∀ c, c < 4 → lget s c 0 ≤ lget s' c 0

theorem rootP_eq {s s' : TH} (h1 : s'.count = s.count) (h2 : s'.roots = s.roots) : rootP s' = rootP s := by funext v; unfold rootP; rw [h1, h2]
theorem wf_same {s s' : TH} {L : Nat → Nat → List Nat} (h : St s L) (hc : s'.count = s.count) (hs : Same s.count s.W s'.W) : ∀ c u i, IsC s'.count c u → i < szs c → wat s'.W (u + 3 + i) < 18446744073709551616 := by
  intro c u i hu hi
  rw [hc] at hu
  rw [hs.fld c u i hu hi]
  exact h.wf c u i hu hi

/-- The lists are as the flip, or the end, lays them. -/
theorem flip_ok {s : TH} {L : Nat → Nat → List Nat} (h : St s L) (hm : s.marking = false) :
    ∃ s' L', tflip s = some s' ∧ St s' L' ∧ Kept s s' ∧ s'.marking = true ∧ s'.cycles = s.cycles ∧ (∀ c, L' c 0 = L c 0) ∧ Shd (flipc (colOf L)) (colOf L') ∧ (NC s.roots → ∀ v, colOf L' v ≠ 3) := by
  have hR := h.rep
  have hidle := h.idle hm
  have hcnt0 : ∀ c l, c < 4 → l < 4 → lget s c l = (L c l).length := fun c l hc hl => by have := hR.cnt c l hc hl; simpa [d0] using this
  obtain ⟨t4, e1, e2, h3, h4, h5, h6⟩ := flipN_ok (t := { s with now := 1 - s.now }) (L := L) ⟨hR.ls.a, hR.ls.b, hR.ls.c, hR.ls.d⟩ hR.rl hcnt0 (fun c hc => (hidle c hc).1) 4 (Nat.le_refl _)
  have hcol := col_flip hR.rl h4 (fun c hc => (hidle c hc).1)
  have hle : ∀ c l, c < 4 → flipL L 4 c l = if l = 2 then L c 1 else if l = 1 then [] else L c l := fun c l hc => by unfold flipL; rw [if_pos hc]
  -- the state behind the joins
  have ht4c : t4.count = s.count := by rw [e2]
  have hrep : Rep { t4 with marking := true, tries := 0 } (flipL L 4) d0 := by
    refine ⟨⟨h3.a, h3.b, h3.c, h3.d⟩, ?_, ?_, ?_, ?_, ?_, ?_, ?_, ?_, ?_, ?_⟩
    · show t4.start = starts t4.count
      rw [e2]; exact hR.st
    · show ∀ c, t4.count.getD c 0 ≤ 4000
      rw [ht4c]; exact hR.big
    · intro c l hc hl
      have := h5 c l hc hl
      simp only [d0, Nat.add_zero]
      exact this
    · show t4.wait = 0
      rw [e2]; exact hR.wait
    · show t4.now ≤ 1
      rw [e2]; show 1 - s.now ≤ 1; omega
    · show RL t4.count t4.W (flipL L 4)
      rw [ht4c]; exact h4
    · show ∀ c u, IsC t4.count c u → _
      rw [ht4c]
      intro c u hu
      obtain ⟨l, hl, hul⟩ := hR.cov c u hu
      by_cases el : l = 1
      · subst el
        exact ⟨2, by omega, by rw [hle c 2 hu.1, if_pos rfl]; exact hul⟩
      · have el2 : l ≠ 2 := fun e => by subst e; rw [(hidle c hu.1).1] at hul; cases hul
        exact ⟨l, hl, by rw [hle c l hu.1, if_neg el2, if_neg el]; exact hul⟩
    · show ∀ c, c < 4 → _ = t4.count.getD c 0
      rw [ht4c]
      intro c hc
      have := hR.tot c hc
      rw [hle c 0 hc, hle c 1 hc, hle c 2 hc, hle c 3 hc]
      rw [(hidle c hc).1] at this
      simpa using this
    · intro c l u hc hl hu
      show (_ → hmark (wat t4.W u) = t4.now) ∧ (_ → hmark (wat t4.W u) = 1 - t4.now) ∧ (_ → hmark (wat t4.W u) = 2)
      have hnow : t4.now = 1 - s.now := by rw [e2]
      have hn1 := hR.now
      rw [hle c l hc] at hu
      refine ⟨fun e => ?_, fun e => ?_, fun e => ?_⟩
      · subst e
        rw [if_neg (by omega), if_pos rfl] at hu; cases hu
      · subst e
        rw [if_pos rfl] at hu
        have huc := hR.rl.mem c 1 u hc (by omega) hu
        rw [h6.1 c u huc, hnow]
        have := (hR.mark c 1 u hc (by omega) hu).1 rfl
        rw [show ({ s with now := 1 - s.now } : TH).W = s.W from rfl, this]
        omega
      · subst e
        rw [if_neg (by omega), if_neg (by omega), (hidle c hc).2] at hu; cases hu
    · intro c l u hc h1 hl hu
      show (hform (wat t4.W u) = 1 ∨ hform (wat t4.W u) = 2) ∧ hn (wat t4.W u) ≤ szs c
      rw [hle c l hc] at hu
      split at hu
      · have huc := hR.rl.mem c 1 u hc (by omega) hu
        rw [h6.1 c u huc]
        exact hR.form c 1 u hc (by omega) (by omega) hu
      · split at hu
        · cases hu
        · have huc := hR.rl.mem c l u hc hl hu
          rw [h6.1 c u huc]
          exact hR.form c l u hc h1 hl hu
  have hW6 : Same s.count s.W t4.W := h6.same
  have hroots4 : t4.roots = s.roots := by rw [e2]
  have hcol0 : ∀ v, colOf (flipL L 4) v = 0 ↔ colOf L v = 0 := by
    intro v
    rw [hcol]
    unfold flipc
    split
    · rename_i e; rw [e]; simp
    · rfl
  have hsafe : ∀ x ∈ t4.roots, Safe ({ t4 with marking := true, tries := 0 } : TH).count (flipL L 4) x := by
    intro x hx
    rw [hroots4] at hx
    refine safe_of hrep (h.wr x hx) (fun c v hv e => ?_)
    have hv' : IsC s.count c v := by rw [← ht4c]; exact hv
    intro e0
    exact (h.gi.root v ⟨by rw [← e]; exact hx, c, hv'⟩).ne0 ((hcol0 v).1 e0)
  obtain ⟨s', L', e7, sh, hnw, hng⟩ := shadeAll_ok (d := d0) (fun _ => rfl) t4.roots _ _ hrep hsafe
  have hst := sh.stat
  have hcnt' : s'.count = s.count := hst.1.trans ht4c
  have hroots' : s'.roots = s.roots := hst.2.1.trans hroots4
  have hsame' : Same s.count s.W s'.W := by
    refine hW6.trans ?_
    have := sh.same
    rw [show ({ t4 with marking := true, tries := 0 } : TH).count = s.count from ht4c] at this
    exact this
  have hmk' : s'.marking = true := hst.2.2.2.1
  have hcyc' : s'.cycles = s.cycles := by rw [hst.2.2.2.2.2]; show t4.cycles = s.cycles; rw [e2]
  refine ⟨s', L', ?_, ⟨sh.rep, ?_, (fun e => by rw [hmk'] at e; cases e), wf_same h hcnt' hsame', by rw [hroots']; exact h.wr⟩, ⟨hcnt', hroots', ?_, by rw [hcyc']; omega, hsame', fun c hc => ?_⟩, hmk', hcyc', fun c => ?_, ?_, fun hnc => ?_⟩
  · rw [tflip_def, e1, Option.bind_some]
    exact e7
  · rw [rootP_eq hcnt' hroots', hcnt']
    refine GI.edge_iff (edge := edgeW s.count s.W) ?_ (fun a b => edge_same hsame' a b)
    refine GI.of_grey (fun u v hu he e0 => ?_) (fun u e => ?_) (fun v hv => ?_)
    · have hu' : colOf L u ≠ 0 := fun e => hu ((sh.shd.zero u).2 ((hcol0 u).2 e))
      exact h.gi.alive u v hu' he ((hcol0 v).1 ((sh.shd.zero v).1 e0))
    · have k := sh.shd.keep u
      have h1 : colOf (flipL L 4) u ≠ 1 := by
        rw [hcol]; unfold flipc; split
        · omega
        · assumption
      by_cases e2' : colOf (flipL L 4) u = 2
      · have := k.2 e2'; omega
      · rw [k.1 e2'] at e; exact h1 e
    · obtain ⟨hv1, c, hv2⟩ := hv
      have hn2 := hnw (8 * v + 1) (by rw [hroots4]; exact hv1) c v (by rw [show ({ t4 with marking := true, tries := 0 } : TH).count = s.count from ht4c]; exact hv2) rfl
      have hne0 := (h.gi.root v ⟨hv1, c, hv2⟩).ne0
      have hz : colOf L' v ≠ 0 := fun e => hne0 ((hcol0 v).1 ((sh.shd.zero v).1 e))
      have hle3 := colOf_le L' v
      have hn1 : colOf L' v ≠ 1 := by
        intro e
        have k := sh.shd.keep v
        have h1 : colOf (flipL L 4) v ≠ 1 := by
          rw [hcol]; unfold flipc; split
          · omega
          · assumption
        by_cases e2' : colOf (flipL L 4) v = 2
        · have := k.2 e2'; omega
        · rw [k.1 e2'] at e; exact h1 e
      omega
  · rw [hst.2.2.2.2.1]; show t4.k = s.k; rw [e2]
  · have h1 := sh.rep.cnt c 0 hc (by omega)
    have h2 := hcnt0 c 0 hc (by omega)
    simp only [d0, Nat.add_zero] at h1
    rw [h1, h2, sh.free c, hle c 0 hc, if_neg (by omega), if_neg (by omega)]
    exact Nat.le_refl _
  · rw [sh.free c]
    unfold flipL
    split
    · rfl
    · rfl
  · rw [← hcol]; exact sh.shd
  · intro v e3
    rcases hng v e3 with e | ⟨x, hx, e⟩
    · rw [hcol] at e
      unfold flipc at e
      split at e
      · omega
      · obtain ⟨c, hc, hv⟩ := col_ne0 e (by omega)
        rw [(hidle c hc).2] at hv
        cases hv
    · rw [hroots4] at hx
      have h1 := (hnc x hx).1
      obtain ⟨c, hc, hv⟩ := col_ne0 e3 (by omega)
      have hvc := sh.rep.rl.mem c 3 v hc (by omega) hv
      have h2 := hvc.lt
      have h3 := stt4_le sh.rep.big
      unfold tcell at h1
      simp only [Bool.and_eq_false_iff, beq_eq_false_iff_ne, decide_eq_false_iff_not] at h1
      omega

/-- The lists when k sizes' white ones have become free. -/
def endL (L : Nat → Nat → List Nat) (k : Nat) : Nat → Nat → List Nat := fun c l => if c < k then (if l = 0 then L c 0 ++ L c 2 else if l = 2 then [] else L c l) else L c l
theorem endL_step {L : Nat → Nat → List Nat} {k : Nat} : jn (endL L k) k 0 2 = endL L (k + 1) := by
  funext c l
  rw [jn_at (by omega)]
  have e0 : ∀ l, endL L k k l = L k l := fun l => by simp [endL]
  rw [e0, e0]
  by_cases ec : c = k
  · subst ec
    by_cases el : l = 0
    · subst el; simp [endL]
    · by_cases el1 : l = 2
      · subst el1; simp [endL]
      · simp [endL, el, el1]
  · have hk : (c < k + 1) ↔ (c < k) := by omega
    simp [endL, ec, hk]
theorem endN_ok {t : TH} {L : Nat → Nat → List Nat} (hls : THlen t) (hrl : RL t.count t.W L) (hcnt : ∀ c l, c < 4 → l < 4 → lget t c l = (L c l).length) (hb : ∀ c l, c < 4 → l < 4 → (L c l).length ≤ 4000) :
    ∀ k, k ≤ 4 → ∃ tk, tendN k t = some tk ∧ tk = { t with lists := tk.lists, W := tk.W } ∧ THlen tk ∧ RL t.count tk.W (endL L k) ∧ (∀ c l, c < 4 → l < 4 → lget tk c l = (endL L k c l).length) ∧ Eqw t.count t.W tk.W := by
  intro k
  induction k with
  | zero => intro _; exact ⟨t, rfl, rfl, hls, hrl, hcnt, fun _ _ _ => rfl, fun _ _ _ _ _ => rfl⟩
  | succ k ih =>
    intro hk
    obtain ⟨tk, e1, e2, h3, h4, h5, h6⟩ := ih (by omega)
    obtain ⟨W', j1, j2, j3, j4⟩ := rl_join h4 (show k < 4 by omega) (show 0 < 4 by omega) (show 2 < 4 by omega) (by omega)
    rw [endL_step] at j2
    have e0 : ∀ l, endL L k k l = L k l := fun l => by simp [endL]
    have g0 := h5 k 0 (by omega) (by omega)
    have g2 := h5 k 2 (by omega) (by omega)
    rw [e0] at g0 g2
    have b0 := hb k 0 (by omega) (by omega)
    have b2 := hb k 2 (by omega) (by omega)
    refine ⟨lset (lset { tk with W := W' } k 0 (lget tk k 0 + lget tk k 2)) k 2 0, ?_, ?_, ⟨h3.a, h3.b, by simpa [lset] using h3.c, h3.d⟩, j2, ?_, h6.trans ⟨j4, (j3 (fun _ => False)).fld⟩⟩
    · simp only [tendN]
      rw [e1, Option.bind_some]
      unfold tend1
      simp only [Option.bind_eq_bind, j1, Option.bind_some]
      unfold req
      rw [if_pos (by simp; omega)]
      rfl
    · rw [e2]; rfl
    · intro c l hc hl
      have g1 : lget (lset (lset { tk with W := W' } k 0 (lget tk k 0 + lget tk k 2)) k 2 0) c l = if c = k ∧ l = 2 then 0 else if c = k ∧ l = 0 then lget tk k 0 + lget tk k 2 else lget tk c l := by
        rw [lget_lset (len_lset (s := { tk with W := W' }) ⟨h3.a, h3.b, h3.c, h3.d⟩ _ _ _) (by omega) (by omega) hl]
        rw [lget_lset (s := { tk with W := W' }) ⟨h3.a, h3.b, h3.c, h3.d⟩ (by omega) (by omega) hl]
        rfl
      rw [g1]
      have g3 := h5 c l hc hl
      by_cases ec : c = k
      · subst ec
        rw [e0] at g3
        by_cases el : l = 2
        · subst el; simp [endL]
        · by_cases el2 : l = 0
          · subst el2; simp [endL, g0, g2]
          · simp [endL, el, el2, g3]
      · have hk2 : (c < k + 1) ↔ (c < k) := by omega
        have e0 : endL L (k + 1) c l = endL L k c l := by simp [endL, hk2]
        rw [e0, ← g3]
        simp [ec]
theorem col_end {cs W W' : List Nat} {L : Nat → Nat → List Nat} (h : RL cs W L) (h' : RL cs W' (endL L 4)) : colOf (endL L 4) = endc (colOf L) := by
  funext v
  unfold endc
  by_cases hin : ∃ c l, c < 4 ∧ l < 4 ∧ v ∈ L c l
  · obtain ⟨c, l, hc, hl, hv⟩ := hin
    rw [col_mem h hc hl hv]
    by_cases e2 : l = 2
    · subst e2
      rw [if_pos rfl]
      refine col_mem h' hc (show 0 < 4 by omega) ?_
      unfold endL
      rw [if_pos hc, if_pos rfl]
      exact List.mem_append_right _ hv
    · rw [if_neg e2]
      by_cases e0 : l = 0
      · subst e0
        refine col_mem h' hc (show 0 < 4 by omega) ?_
        unfold endL
        rw [if_pos hc, if_pos rfl]
        exact List.mem_append_left _ hv
      · refine col_mem h' hc hl ?_
        unfold endL
        rw [if_pos hc, if_neg e0, if_neg e2]
        exact hv
  · rw [col_out h (fun c l hc hl hv => hin ⟨c, l, hc, hl, hv⟩)]
    refine col_out h' (fun c l hc hl hv => ?_)
    unfold endL at hv
    rw [if_pos hc] at hv
    split at hv
    · rcases List.mem_append.1 hv with e | e
      · exact hin ⟨c, 0, hc, by omega, e⟩
      · exact hin ⟨c, 2, hc, by omega, e⟩
    · split at hv
      · cases hv
      · exact hin ⟨c, l, hc, hl, hv⟩

theorem end_ok {s : TH} {L : Nat → Nat → List Nat} (h : St s L) (hg : ∀ c, c < 4 → L c 3 = []) (hcy : s.cycles < 1000000) :
    ∃ s', tend s = some s' ∧ St s' (endL L 4) ∧ Kept s s' ∧ s'.marking = false ∧ colOf (endL L 4) = endc (colOf L) := by
  have hR := h.rep
  have hcnt0 : ∀ c l, c < 4 → l < 4 → lget s c l = (L c l).length := fun c l hc hl => by have := hR.cnt c l hc hl; simpa [d0] using this
  obtain ⟨t4, e1, e2, h3, h4, h5, h6⟩ := endN_ok hR.ls hR.rl hcnt0 (fun c l hc hl => hR.len_le hc hl) 4 (Nat.le_refl _)
  have hcol := col_end hR.rl h4
  have hle : ∀ c l, c < 4 → endL L 4 c l = if l = 0 then L c 0 ++ L c 2 else if l = 2 then [] else L c l := fun c l hc => by unfold endL; rw [if_pos hc]
  have ht4c : t4.count = s.count := by rw [e2]
  have ht4r : t4.roots = s.roots := by rw [e2]
  have hdef : tend s = some { t4 with marking := false, cycles := t4.cycles + 1 } := by
    have hcy4 : t4.cycles = s.cycles := by rw [e2]
    have : tend s = (tendN 4 s).bind fun s => (req (s.cycles < 1000000)).bind fun _ => some { s with marking := false, cycles := s.cycles + 1 } := by
      unfold tend
      simp only [tendN, Option.bind_eq_bind, Option.bind_some, Option.bind_assoc, Option.pure_def]
    rw [this, e1, Option.bind_some]
    unfold req
    rw [if_pos (by simp; omega), Option.bind_some]
  refine ⟨_, hdef, ⟨⟨⟨h3.a, h3.b, h3.c, h3.d⟩, ?_, ?_, ?_, ?_, ?_, ?_, ?_, ?_, ?_, ?_⟩, ?_, ?_, ?_, ?_⟩, ⟨ht4c, ht4r, by rw [e2], by rw [e2]; exact Nat.le_refl _, h6.same, ?_⟩, rfl, hcol⟩
  · show t4.start = starts t4.count
    rw [e2]; exact hR.st
  · show ∀ c, t4.count.getD c 0 ≤ 4000
    rw [ht4c]; exact hR.big
  · intro c l hc hl
    have := h5 c l hc hl
    simp only [d0, Nat.add_zero]
    exact this
  · show t4.wait = 0
    rw [e2]; exact hR.wait
  · show t4.now ≤ 1
    rw [e2]; exact hR.now
  · show RL t4.count t4.W (endL L 4)
    rw [ht4c]; exact h4
  · show ∀ c u, IsC t4.count c u → _
    rw [ht4c]
    intro c u hu
    obtain ⟨l, hl, hul⟩ := hR.cov c u hu
    by_cases el : l = 2
    · subst el
      exact ⟨0, by omega, by rw [hle c 0 hu.1, if_pos rfl]; exact List.mem_append_right _ hul⟩
    · refine ⟨l, hl, ?_⟩
      rw [hle c l hu.1]
      split
      · rename_i e; subst e; exact List.mem_append_left _ hul
      · exact hul
  · show ∀ c, c < 4 → _ = t4.count.getD c 0
    rw [ht4c]
    intro c hc
    have := hR.tot c hc
    rw [hle c 0 hc, hle c 1 hc, hle c 2 hc, hle c 3 hc]
    have e1 : (if (1 : Nat) = 0 then L c 0 ++ L c 2 else if (1 : Nat) = 2 then [] else L c 1) = L c 1 := rfl
    have e2 : (if (2 : Nat) = 0 then L c 0 ++ L c 2 else if (2 : Nat) = 2 then [] else L c 2) = [] := rfl
    have e3 : (if (3 : Nat) = 0 then L c 0 ++ L c 2 else if (3 : Nat) = 2 then [] else L c 3) = L c 3 := rfl
    rw [if_pos rfl, e1, e2, e3, List.length_append, List.length_nil]
    omega
  · intro c l u hc hl hu
    show (_ → hmark (wat t4.W u) = t4.now) ∧ (_ → hmark (wat t4.W u) = 1 - t4.now) ∧ (_ → hmark (wat t4.W u) = 2)
    have hnow : t4.now = s.now := by rw [e2]
    rw [hle c l hc] at hu
    rw [hnow]
    by_cases e0 : l = 0
    · subst e0; exact ⟨fun e => by omega, fun e => by omega, fun e => by omega⟩
    · rw [if_neg e0] at hu
      split at hu
      · cases hu
      · have huc := hR.rl.mem c l u hc hl hu
        rw [h6.1 c u huc]
        exact hR.mark c l u hc hl hu
  · intro c l u hc h1 hl hu
    show (hform (wat t4.W u) = 1 ∨ hform (wat t4.W u) = 2) ∧ hn (wat t4.W u) ≤ szs c
    rw [hle c l hc, if_neg (by omega)] at hu
    split at hu
    · cases hu
    · have huc := hR.rl.mem c l u hc hl hu
      rw [h6.1 c u huc]
      exact hR.form c l u hc h1 hl hu
  · show GI (colOf (endL L 4)) (edgeW t4.count t4.W) (rootP _)
    have hrp : rootP { t4 with marking := false, cycles := t4.cycles + 1 } = rootP s := rootP_eq ht4c ht4r
    rw [hrp, hcol, ht4c]
    refine GI.edge_iff (edge := edgeW s.count s.W) (h.gi.ends (fun v e => ?_) (colOf_le L)) (fun a b => edge_same h6.same a b)
    obtain ⟨c, hc, hv⟩ := col_ne0 e (by omega)
    rw [hg c hc] at hv
    cases hv
  · intro _ c hc
    rw [hle c 2 hc, hle c 3 hc]
    exact ⟨rfl, by simpa using hg c hc⟩
  · exact wf_same (s' := { t4 with marking := false, cycles := t4.cycles + 1 }) h ht4c h6.same
  · show ∀ x ∈ t4.roots, _
    rw [ht4r]; exact h.wr
  · intro c hc
    show lget s c 0 ≤ lget t4 c 0
    rw [hcnt0 c 0 hc (by omega), h5 c 0 hc (by omega), hle c 0 hc, if_pos rfl, List.length_append]
    omega

theorem Kept.refl (s : TH) : Kept s s := ⟨rfl, rfl, rfl, Nat.le_succ _, Same.refl _ _, fun _ _ => Nat.le_refl _⟩
/-- A step. -/
theorem step_ok {s : TH} {L : Nat → Nat → List Nat} (h : St s L) (hcy : s.cycles < 1000000) : ∃ s' L', tstep s = some s' ∧ St s' L' ∧ Kept s s' := by
  unfold tstep
  by_cases hm : s.marking = true
  · rw [if_pos hm]
    have hR := h.rep
    have hcnt0 : ∀ c l, c < 4 → l < 4 → lget s c l = (L c l).length := fun c l hc hl => by have := hR.cnt c l hc hl; simpa [d0] using this
    have hscan : ∀ c, c < 4 → lget s c 3 ≠ 0 → ∃ s' L', tscanAt s c = some s' ∧ St s' L' ∧ Kept s s' := by
      intro c hc hne
      obtain ⟨s', L', e1, hrep, hgi, hsame, heq, hfree⟩ := scanAt_ok h hc hne
      have hc' : s'.count = s.count := by rw [heq]
      have hr' : s'.roots = s.roots := by rw [heq]
      refine ⟨s', L', e1, ⟨hrep, hgi, fun e => ?_, wf_same h hc' hsame, by rw [hr']; exact h.wr⟩, ⟨hc', hr', by rw [heq], by rw [heq]; exact Nat.le_succ _, hsame, fun c2 hc2 => ?_⟩⟩
      · have : s'.marking = s.marking := by rw [heq]
        rw [this, hm] at e
        cases e
      · have h1 := hrep.cnt c2 0 hc2 (by omega)
        simp only [d0, Nat.add_zero] at h1
        rw [h1, hcnt0 c2 0 hc2 (by omega), hfree c2]
        exact Nat.le_refl _
    show ∃ s' L', ((tscan s).bind _) = some s' ∧ St s' L' ∧ Kept s s'
    unfold tscan
    by_cases z0 : lget s 0 3 ≠ 0
    · obtain ⟨s', L', e1, h1, h2⟩ := hscan 0 (by omega) z0
      exact ⟨s', L', by rw [if_pos z0, e1]; rfl, h1, h2⟩
    rw [if_neg z0]
    by_cases z1 : lget s 1 3 ≠ 0
    · obtain ⟨s', L', e1, h1, h2⟩ := hscan 1 (by omega) z1
      exact ⟨s', L', by rw [if_pos z1, e1]; rfl, h1, h2⟩
    rw [if_neg z1]
    by_cases z2 : lget s 2 3 ≠ 0
    · obtain ⟨s', L', e1, h1, h2⟩ := hscan 2 (by omega) z2
      exact ⟨s', L', by rw [if_pos z2, e1]; rfl, h1, h2⟩
    rw [if_neg z2]
    by_cases z3 : lget s 3 3 ≠ 0
    · obtain ⟨s', L', e1, h1, h2⟩ := hscan 3 (by omega) z3
      exact ⟨s', L', by rw [if_pos z3, e1]; rfl, h1, h2⟩
    rw [if_neg z3]
    have hg : ∀ c, c < 4 → L c 3 = [] := by
      intro c hc
      have hz : lget s c 3 = 0 := by
        have : c = 0 ∨ c = 1 ∨ c = 2 ∨ c = 3 := by omega
        rcases this with rfl | rfl | rfl | rfl <;> omega
      rw [hcnt0 c 3 hc (by omega)] at hz
      exact List.length_eq_zero_iff.1 hz
    obtain ⟨s', e1, h1, h2, -, -⟩ := end_ok h hg hcy
    refine ⟨s', _, ?_, h1, h2⟩
    show ((tlook s).bind _) = some s'
    have : tlook s = some none := by unfold tlook; rw [if_pos hR.wait]
    rw [this]
    exact e1
  · rw [if_neg hm]
    obtain ⟨s', L', e1, h1, h2, -⟩ := flip_ok h (by simpa using hm)
    exact ⟨s', L', e1, h1, h2⟩
/-- What is the same behind n steps. -/
structure KeptN (n : Nat) (s s' : TH) : Prop where
  count : s'.count = s.count
  roots : s'.roots = s.roots
  k : s'.k = s.k
  cyc : s'.cycles ≤ s.cycles + n
  same : Same s.count s.W s'.W
  free : ∀ c, c < 4 → lget s c 0 ≤ lget s' c 0
theorem incr_ok : ∀ (n : Nat) {s : TH} {L : Nat → Nat → List Nat}, St s L → s.cycles + n ≤ 1000000 → ∃ s' L', tincr n s = some s' ∧ St s' L' ∧ KeptN n s s' := by
  intro n
  induction n with
  | zero => intro s L h _; exact ⟨s, L, rfl, h, rfl, rfl, rfl, Nat.le_refl _, Same.refl _ _, fun _ _ => Nat.le_refl _⟩
  | succ n ih =>
    intro s L h hcy
    obtain ⟨t, L1, e1, h1, k1⟩ := step_ok h (by omega)
    obtain ⟨s', L', e2, h2, k2⟩ := ih h1 (by have := k1.cyc; omega)
    refine ⟨s', L', ?_, h2, k2.count.trans k1.count, k2.roots.trans k1.roots, k2.k.trans k1.k, by have := k1.cyc; have := k2.cyc; omega, k1.same.trans (by have := k2.same; rwa [k1.count] at this), fun c hc => Nat.le_trans (k1.free c hc) (k2.free c hc)⟩
    simp only [tincr]
    rw [e1, Option.bind_some]
    exact e2

end Go.Proofs.Ytbjlapfcnldpoaa
