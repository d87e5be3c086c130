/- A cell is given out, a field and a register are set: what is reached is kept. No program in sight. -/
import Derived.Test.YtbjlapfcnldpoaaTStep2
namespace Go.Proofs.Ytbjlapfcnldpoaa
set_option linter.unusedVariables false
set_option linter.unusedSimpArgs false
open Go.RowKit

theorem RL.field {cs W : List Nat} {L : Nat → Nat → List Nat} (h : RL cs W L) {c u i : Nat} (hu : IsC cs c u) (hi : i < szs c) (x : Nat) : RL cs (W.set (u + 3 + i) x) L := by
  have hw : u + 3 + i < W.length := by rw [h.wl]; have := hu.lt; omega
  refine ⟨by simpa using h.wl, fun c' l hc' hl => ?_, h.mem, h.disj, fun c' v hv => ?_⟩
  · refine (h.ring c' l hc' hl).frame (by simp) (fun v hv => ?_) (fun v hv => ?_)
    · rw [wat_set _ _ _ _ hw, if_neg (field_ne hu hi (h.mem_base hc' hl hv) (by omega))]
    · rw [wat_set _ _ _ _ hw, if_neg (field_ne hu hi (h.mem_base hc' hl hv) (by omega))]
  · rw [wat_set _ _ _ _ hw, if_neg (fun e => field_ne hu hi (Or.inr ⟨c', hv⟩) (Nat.zero_le 2) (by omega))]
    exact h.hdr c' v hv
/-- A field's word is another's only if it is the same field. -/
theorem field_inj {cs : List Nat} {c c' u v i j : Nat} (hu : IsC cs c u) (hv : IsC cs c' v) (hi : i < szs c) (hj : j < szs c') (h : u + 3 + i = v + 3 + j) : u = v ∧ i = j := by
  have := hu.apart hv
  omega

/-- The fields from i on are x, m of them. -/
theorem fillF_ok {cs : List Nat} {L : Nat → Nat → List Nat} {c u x : Nat} (hu : IsC cs c u) : ∀ (m i : Nat) (W : List Nat), RL cs W L → i + m ≤ szs c →
    ∃ W', fillF W u x m i = some W' ∧ RL cs W' L ∧ (∀ c v, IsC cs c v → wat W' v = wat W v) ∧ ∀ c' v j, IsC cs c' v → j < szs c' → wat W' (v + 3 + j) = if v = u ∧ i ≤ j ∧ j < i + m then x else wat W (v + 3 + j) := by
  intro m
  induction m with
  | zero => intro i W h hi; exact ⟨W, rfl, h, fun _ _ _ => rfl, fun c' v j hv hj => by rw [if_neg (by omega)]⟩
  | succ m ih =>
    intro i W h hi
    have hw : u + 3 + i < W.length := by rw [h.wl]; have := hu.lt; omega
    obtain ⟨W', e1, e2, e3, e4⟩ := ih (i + 1) _ (h.field hu (show i < szs c by omega) x) (by omega)
    refine ⟨W', ?_, e2, fun c' v hv => ?_, fun c' v j hv hj => ?_⟩
    · simp only [fillF]
      have : wrt W (u + 3 + i) x = some (W.set (u + 3 + i) x) := by unfold wrt; rw [if_pos hw]
      rw [this, Option.bind_some]
      exact e1
    · rw [e3 c' v hv, wat_set _ _ _ _ hw, if_neg (fun e => field_ne hu (show i < szs c by omega) (Or.inr ⟨c', hv⟩) (Nat.zero_le 2) (by omega))]
    · rw [e4 c' v j hv hj]
      by_cases e : v = u
      · subst e
        have := hu.one hv
        subst this
        rw [wat_set _ _ _ _ hw]
        by_cases hj' : j = i
        · subst hj'
          rw [if_neg (by omega), if_pos rfl, if_pos (by omega)]
        · rw [if_neg (show ¬ v + 3 + j = v + 3 + i by omega)]
          by_cases h1 : i + 1 ≤ j ∧ j < i + 1 + m
          · rw [if_pos ⟨rfl, h1⟩, if_pos ⟨rfl, by omega⟩]
          · rw [if_neg (fun e => h1 e.2), if_neg (fun e => h1 (by omega))]
      · rw [if_neg (fun e' => e e'.1), if_neg (fun e' => e e'.1), wat_set _ _ _ _ hw, if_neg (fun e' => e (field_inj hv hu hj (by omega) e').1)]

theorem szs_tcls {n : Nat} (h : n ≤ 127) : n ≤ szs (tcls n) := by
  unfold tcls
  split
  · simpa [szs] using by assumption
  · split
    · simpa [szs] using by assumption
    · split
      · simpa [szs] using by assumption
      · simpa [szs] using h
theorem wat_set_self (W : List Nat) (p : Nat) (h : p < W.length) : W.set p (wat W p) = W := by
  apply List.ext_getElem?
  intro i
  by_cases e : i = p
  · subst e
    rw [List.getElem?_set_self h]
    unfold wat
    simp [List.getD, h]
  · rw [List.getElem?_set_ne (by omega)]

/-- It won't be lost. -/
def IsOK (s : TH) (L : Nat → Nat → List Nat) (v : Nat) : Prop := OK (colOf L) (edgeW s.count s.W) v
/-- What is in a new cell's state, and what stays. -/
structure Took (s s' : TH) (L L' : Nat → Nat → List Nat) (u form tag n fill : Nat) : Prop where
  st : St s' L'
  isC : IsC s.count (tcls n) u
  was : colOf L u = 0
  ok : IsOK s' L' u
  hdr : wat s'.W u = hdr form tag s.now n
  fld : ∀ i, i < n → wat s'.W (u + 3 + i) = fill
  count : s'.count = s.count
  roots : s'.roots = s.roots
  k : s'.k = s.k
  cyc : s'.cycles = s.cycles
  marking : s'.marking = s.marking
  othH : ∀ c v, IsC s.count c v → v ≠ u → wat s'.W v = wat s.W v
  othF : ∀ c v i, IsC s.count c v → v ≠ u → i < szs c → wat s'.W (v + 3 + i) = wat s.W (v + 3 + i)
  oks : ∀ v, IsOK s L v → IsOK s' L' v
  col : colOf L' = updc (colOf L) u 1
  free : ∀ c, c < 4 → lget s c 0 ≤ lget s' c 0 + (if c = tcls n then 1 else 0)

theorem take_ok {s : TH} {L : Nat → Nat → List Nat} (h : St s L) {form tag n : Nat} (hf : form = 1 ∨ form = 2) (ht : tag < 16) (hn : n ≤ 127) (hpos : 0 < lget s (tcls n) 0) :
    ∃ s' L' u, ttake s form tag n = some (s', 8 * u + 1) ∧ Took s s' L L' u form tag n (if form = 2 then 0 else 12) := by
  have hR := h.rep
  have hc := tcls_lt n
  have hsz := szs_tcls hn
  obtain ⟨c, hce⟩ : ∃ c, tcls n = c := ⟨_, rfl⟩
  obtain ⟨fill, hfill⟩ : ∃ x, (if form = 2 then 0 else 12) = x := ⟨_, rfl⟩
  rw [hce] at hc hsz hpos
  have hfb : fill = 0 ∨ fill = 12 := by rw [← hfill]; split <;> omega
  have hcnt0 : ∀ c l, c < 4 → l < 4 → lget s c l = (L c l).length := fun c l hc hl => by have := hR.cnt c l hc hl; simpa [d0] using this
  cases hL : L c 0 with
  | nil => rw [hcnt0 c 0 hc (by omega), hL] at hpos; simp at hpos
  | cons u M =>
    have hu : u ∈ L c 0 := by rw [hL]; simp
    have huc := hR.rl.mem c 0 u hc (by omega) hu
    have hbe := ring_first hR.rl (stt4_le hR.big) hc (by omega) hL
    have hw : u < s.W.length := by have := (hR.rl.node (Or.inr ⟨c, huc⟩)).2; omega
    obtain ⟨W1, W2, W3, e1, e2, e3, hrl, hfr, hx⟩ := rl_move hR.rl hc (show 0 < 4 by omega) (show 1 < 4 by omega) (by omega) hu (hR.rl.hdr c u huc)
    have e1' : W1 = s.W := by
      unfold wrt at e1
      rw [if_pos hw, wat_set_self _ _ hw] at e1
      injection e1 with e1
      exact e1.symm
    subst e1'
    have hhd : hdr form tag s.now n < 65536 := hdr_lt (by omega) ht (by have := hR.now; omega) (by omega)
    have hrl4 := hrl.header huc hhd
    have hw3 : u < W3.length := by have := (hrl.node (Or.inr ⟨c, huc⟩)).2; omega
    have hfr4 := fr_header (x := hdr form tag s.now n) huc hw3
    have hu4 : wat (W3.set u (hdr form tag s.now n)) u = hdr form tag s.now n := by rw [wat_set _ _ _ _ hw3, if_pos rfl]
    have e4 : wrt W3 u (hdr form tag s.now n) = some (W3.set u (hdr form tag s.now n)) := by unfold wrt; rw [if_pos hw3]
    generalize W3.set u (hdr form tag s.now n) = W4 at *
    obtain ⟨W5, e5, hrl5, g1, g2⟩ := fillF_ok (x := fill) huc n 0 W4 hrl4 (by omega)
    have hcol : colOf (mv L c 0 1 u) = updc (colOf L) u 1 := col_mv hR.rl hrl5 hc (by omega) (by omega) (by omega) hu
    have hcu : colOf L u = 0 := col_mem hR.rl hc (by omega) hu
    have hle0 := hR.lget_le hc (show 0 < 4 by omega)
    have hle1 := hR.lget_le hc (show 1 < 4 by omega)
    have hgu : wat W5 u = hdr form tag s.now n := by rw [g1 c u huc, hu4]
    have othH : ∀ c v, IsC s.count c v → v ≠ u → wat W5 v = wat s.W v := by
      intro c' v hv hne
      rw [g1 c' v hv, hfr4.hdr c' v hv hne, hfr.hdr c' v hv hne]
    have othF : ∀ c v i, IsC s.count c v → v ≠ u → i < szs c → wat W5 (v + 3 + i) = wat s.W (v + 3 + i) := by
      intro c' v i hv hne hi
      rw [g2 c' v i hv hi, if_neg (fun e => hne e.1), hfr4.fld c' v i hv hi, hfr.fld c' v i hv hi]
    have fldu : ∀ i, i < n → wat W5 (u + 3 + i) = fill := by
      intro i hi
      rw [g2 c u i huc (by omega), if_pos ⟨rfl, by omega, by omega⟩]
    have hE : ∀ a b, a ≠ u → (edgeW s.count W5 a b ↔ edgeW s.count s.W a b) := by
      intro a b hne
      constructor
      · rintro ⟨⟨c', i, ha, f1, f2, f3, f4⟩, hb⟩
        rw [othH c' a ha hne] at f1 f2
        rw [othF c' a i ha hne f3] at f4
        exact ⟨⟨c', i, ha, f1, f2, f3, f4⟩, hb⟩
      · rintro ⟨⟨c', i, ha, f1, f2, f3, f4⟩, hb⟩
        exact ⟨⟨c', i, ha, by rw [othH c' a ha hne]; exact f1, by rw [othH c' a ha hne]; exact f2, f3, by rw [othF c' a i ha hne f3]; exact f4⟩, hb⟩
    have hN : ∀ b, ¬ edgeW s.count W5 u b := by
      rintro b ⟨⟨c', i, ha, f1, f2, f3, f4⟩, hb⟩
      rw [hgu, hn_hdr (by omega) ht (by have := hR.now; omega) (by omega)] at f2
      rw [fldu i f2] at f4
      omega
    have hgi := h.gi.alloc hcu hE hN
    have hroot : rootP { took s c with W := W5 } = rootP s := rfl
    have hlg : ∀ c2 l2, c2 < 4 → l2 < 4 → lget { took s c with W := W5 } c2 l2 = if c2 = c ∧ l2 = 1 then lget s c 1 + 1 else if c2 = c ∧ l2 = 0 then lget s c 0 - 1 else lget s c2 l2 := by
      intro c2 l2 hc2 hl2
      show lget (took s c) c2 l2 = _
      unfold took
      rw [lget_lset (len_lset hR.ls _ _ _) hc (by omega) hl2, lget_lset hR.ls hc (by omega) hl2]
    have hrep : Rep { took s c with W := W5 } (mv L c 0 1 u) d0 := by
      refine ⟨⟨hR.ls.a, hR.ls.b, by simpa [took, lset] using hR.ls.c, hR.ls.d⟩, hR.st, hR.big, ?_, hR.wait, hR.now, hrl5, ?_, ?_, ?_, ?_⟩
      · intro c2 l2 hc2 hl2
        rw [hlg c2 l2 hc2 hl2]
        have hml := mv_length hu (show 0 ≠ 1 by omega) c2 l2
        have hcn := hcnt0 c2 l2 hc2 hl2
        have hcn0 := hcnt0 c 0 hc (by omega)
        simp only [d0, Nat.add_zero]
        by_cases a1 : c2 = c ∧ l2 = 1
        · obtain ⟨rfl, rfl⟩ := a1
          rw [if_pos ⟨rfl, rfl⟩]
          simp at hml
          omega
        · rw [if_neg a1]
          by_cases a0 : c2 = c ∧ l2 = 0
          · obtain ⟨rfl, rfl⟩ := a0
            rw [if_pos ⟨rfl, rfl⟩]
            simp at hml
            omega
          · rw [if_neg a0]
            rw [if_neg a0, if_neg a1] at hml
            omega
      · intro c2 v hv
        obtain ⟨l2, hl2, hv2⟩ := hR.cov c2 v hv
        by_cases e : c2 = c ∧ v = u
        · obtain ⟨rfl, rfl⟩ := e
          exact ⟨1, by omega, mv_self (by omega)⟩
        · exact ⟨l2, hl2, mv_mem hv2 (by omega) (fun e' => e ⟨e'.1, e'.2.2⟩)⟩
      · intro c2 hc2
        have ht := hR.tot c2 hc2
        have m0 := mv_length hu (show 0 ≠ 1 by omega) c2 0
        have m1 := mv_length hu (show 0 ≠ 1 by omega) c2 1
        have m2 := mv_length hu (show 0 ≠ 1 by omega) c2 2
        have m3 := mv_length hu (show 0 ≠ 1 by omega) c2 3
        show _ = s.count.getD c2 0
        by_cases ec : c2 = c
        · subst ec; simp at m0 m1 m2 m3; omega
        · simp only [ec, false_and, if_false] at m0 m1 m2 m3; omega
      · intro c2 l2 v hc2 hl2 hv
        show (_ → hmark (wat W5 v) = s.now) ∧ (_ → hmark (wat W5 v) = 1 - s.now) ∧ (_ → hmark (wat W5 v) = 2)
        rcases mem_mv (hR.rl.nodup hc (by omega)) (by omega) hv with ⟨rfl, rfl, rfl⟩ | ⟨hv2, hnn⟩
        · rw [hgu, hmark_hdr (by omega) ht (by have := hR.now; omega) (by omega)]
          exact ⟨fun _ => rfl, fun e => by omega, fun e => by omega⟩
        · have hvc := hR.rl.mem c2 l2 v hc2 hl2 hv2
          have hvu : v ≠ u := by
            intro e
            subst e
            have e1 := huc.one hvc
            subst e1
            exact hnn ⟨rfl, hR.rl.disj c l2 0 v hc hl2 (by omega) hv2 hu, rfl⟩
          rw [othH c2 v hvc hvu]
          exact hR.mark c2 l2 v hc2 hl2 hv2
      · intro c2 l2 v hc2 h1 hl2 hv
        show (hform (wat W5 v) = 1 ∨ hform (wat W5 v) = 2) ∧ Go.Proofs.Ytbjlapfcnldpoaa.hn (wat W5 v) ≤ szs c2
        rcases mem_mv (hR.rl.nodup hc (by omega)) (by omega) hv with ⟨rfl, rfl, rfl⟩ | ⟨hv2, hnn⟩
        · rw [hgu, hform_hdr (by omega) ht (by have := hR.now; omega) (by omega), hn_hdr (by omega) ht (by have := hR.now; omega) (by omega)]
          exact ⟨hf, by omega⟩
        · have hvc := hR.rl.mem c2 l2 v hc2 hl2 hv2
          have hvu : v ≠ u := by
            intro e
            subst e
            have e1 := huc.one hvc
            subst e1
            exact hnn ⟨rfl, hR.rl.disj c l2 0 v hc hl2 (by omega) hv2 hu, rfl⟩
          rw [othH c2 v hvc hvu]
          exact hR.form c2 l2 v hc2 h1 hl2 hv2
    refine ⟨{ took s c with W := W5 }, mv L c 0 1 u, u, ?_, ⟨⟨hrep, ?_, ?_, ?_, h.wr⟩, by rw [hce]; exact huc, hcu, ?_, hgu, by rw [hfill]; exact fldu, rfl, rfl, rfl, rfl, rfl, othH, othF, ?_, hcol, ?_⟩⟩
    · unfold ttake
      rw [hce, hfill]
      have r1 : req (decide (lget s c 0 > 0)) = some () := by unfold req; rw [if_pos (by simp; omega)]
      have r2 : req (decide (lget s c 0 < 1000000)) = some () := by unfold req; rw [if_pos (by simp; omega)]
      have r3 : req (decide (lget s c 1 < 1000000)) = some () := by unfold req; rw [if_pos (by simp; omega)]
      simp only [Option.bind_eq_bind, r1, r2, r3, hbe, Option.bind_some]
      have q1 : oRemove (lset (lset s c 0 (lget s c 0 - 1)) c 1 (lget (lset s c 0 (lget s c 0 - 1)) c 1 + 1)).W u = some W2 := e2
      rw [q1, Option.bind_some, e3, Option.bind_some]
      have q2 : wrt W3 u (hdr form tag (lset (lset s c 0 (lget s c 0 - 1)) c 1 (lget (lset s c 0 (lget s c 0 - 1)) c 1 + 1)).now n) = some W4 := e4
      rw [q2, Option.bind_some, e5, Option.bind_some, lget_lset_ne (by omega)]
      rfl
    · rw [hroot]
      show GI (colOf (mv L c 0 1 u)) (edgeW s.count W5) (rootP s)
      rw [hcol]
      exact hgi
    · intro hm c2 hc2
      have := h.idle hm c2 hc2
      have m2 : mv L c 0 1 u c2 2 = L c2 2 := by unfold mv; split <;> simp_all
      have m3 : mv L c 0 1 u c2 3 = L c2 3 := by unfold mv; split <;> simp_all
      rw [m2, m3]
      exact this
    · intro c2 v i hv hi
      show wat W5 (v + 3 + i) < _
      by_cases e : v = u
      · subst e
        rw [g2 c2 v i hv hi]
        split
        · omega
        · rw [hfr4.fld c2 v i hv hi, hfr.fld c2 v i hv hi]
          exact h.wf c2 v i hv hi
      · rw [othF c2 v i hv e hi]
        exact h.wf c2 v i hv hi
    · unfold IsOK
      rw [hcol]
      exact Or.inl (updc_at _ _ _)
    · intro v hv
      unfold IsOK
      rw [hcol]
      exact ok_alloc hcu hE hv
    · intro c2 hc2
      rw [hlg c2 0 hc2 (by omega), if_neg (by omega), hce]
      by_cases e : c2 = c
      · subst e; simp; omega
      · simp [e]

/-- A register is set. -/
theorem setRoot_ok {s : TH} {L : Nat → Nat → List Nat} (h : St s L) {i x : Nat} (hx : x < 18446744073709551616) (hok : ∀ c v, IsC s.count c v → x = 8 * v + 1 → IsOK s L v) : St (setRoot s i x) L := by
  have hmem : ∀ y, y ∈ s.roots.set i x → y = x ∨ y ∈ s.roots := by
    intro y hy
    rcases List.mem_or_eq_of_mem_set hy with e | e
    · exact Or.inr e
    · exact Or.inl e
  refine ⟨⟨⟨h.rep.ls.a, h.rep.ls.b, h.rep.ls.c, by simpa [setRoot] using h.rep.ls.d⟩, h.rep.st, h.rep.big, h.rep.cnt, h.rep.wait, h.rep.now, h.rep.rl, h.rep.cov, h.rep.tot, h.rep.mark, h.rep.form⟩, ?_, h.idle, h.wf, ?_⟩
  · refine h.gi.roots (fun v hv => ?_)
    obtain ⟨h1, c, h2⟩ := hv
    rcases hmem _ h1 with e | e
    · exact hok c v h2 e.symm
    · exact h.gi.root v ⟨e, c, h2⟩
  · intro y hy
    rcases hmem y hy with e | e
    · rw [e]; exact hx
    · exact h.wr y e

end Go.Proofs.Ytbjlapfcnldpoaa
