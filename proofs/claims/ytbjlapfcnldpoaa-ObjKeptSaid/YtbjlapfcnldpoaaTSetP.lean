/- A field is set: what is reached is kept. No program in sight. -/
import Derived.Test.YtbjlapfcnldpoaaTTake
namespace Go.Proofs.Ytbjlapfcnldpoaa
set_option linter.unusedVariables false
set_option linter.unusedSimpArgs false
open Go.RowKit

/-- What Set does, where it refuses nothing. -/
def tset (s : TH) (u i x : Nat) : Option TH :=
  (rdh s.W u).bind fun h => (rd s.W (u + 3 + i)).bind fun old => (if hform h = 1 ∧ s.marking = true then tshade s old else some s).bind fun s1 => (wrt s1.W (u + 3 + i) x).map fun W => { s1 with W := W }
structure SetTo (s s' : TH) (L L' : Nat → Nat → List Nat) (u i x : Nat) : Prop where
  st : St s' L'
  shape : ∀ c v, IsC s.count c v → hform (wat s'.W v) = hform (wat s.W v) ∧ htag (wat s'.W v) = htag (wat s.W v) ∧ hn (wat s'.W v) = hn (wat s.W v)
  fld : ∀ c v j, IsC s.count c v → j < szs c → wat s'.W (v + 3 + j) = if v = u ∧ j = i then x else wat s.W (v + 3 + j)
  count : s'.count = s.count
  roots : s'.roots = s.roots
  k : s'.k = s.k
  cyc : s'.cycles = s.cycles
  marking : s'.marking = s.marking
  free : ∀ c, c < 4 → lget s c 0 ≤ lget s' c 0
  oks : ∀ v, IsOK s L v → IsOK s' L' v
  alive : ∀ v, colOf L v ≠ 0 → colOf L' v ≠ 0
  grey : ∀ v, colOf L' v = 3 → colOf L v = 3 ∨ wat s.W (u + 3 + i) = 8 * v + 1

theorem shaded_st {s s1 : TH} {L L1 : Nat → Nat → List Nat} (h : St s L) (sh : Shaded s s1 L L1 d0) (hid : s.marking = true) : St s1 L1 := by
  have hst := sh.stat
  refine ⟨sh.rep, ?_, fun e => ?_, wf_same h hst.1 sh.same, by rw [hst.2.1]; exact h.wr⟩
  · rw [rootP_eq hst.1 hst.2.1, hst.1]
    exact (sh.shd.gi h.gi).edge_iff (fun a b => edge_same sh.same a b)
  · rw [hst.2.2.2.1, hid] at e
    cases e

/-- The store itself, where no white one is named by the old word. -/
theorem store_ok {s : TH} {L : Nat → Nat → List Nat} (h : St s L) {c u i x : Nat} (hu : IsC s.count c u) (hi : i < szs c) (hx : x < 18446744073709551616)
    (hold : hform (wat s.W u) = 1 → ∀ c' v, IsC s.count c' v → wat s.W (u + 3 + i) = 8 * v + 1 → colOf L v ≠ 2) (hok : hform (wat s.W u) = 1 → ∀ c' v, IsC s.count c' v → x = 8 * v + 1 → IsOK s L v) :
    ∃ s', (wrt s.W (u + 3 + i) x).map (fun W => ({ s with W := W } : TH)) = some s' ∧ SetTo s s' L L u i x := by
  have hR := h.rep
  have hw : u + 3 + i < s.W.length := by rw [hR.rl.wl]; have := hu.lt; omega
  have e1 : wrt s.W (u + 3 + i) x = some (s.W.set (u + 3 + i) x) := by unfold wrt; rw [if_pos hw]
  have hdr : ∀ c v, IsC s.count c v → wat (s.W.set (u + 3 + i) x) v = wat s.W v := fun c' v hv => by
    rw [wat_set _ _ _ _ hw, if_neg (fun e => field_ne hu hi (Or.inr ⟨c', hv⟩) (Nat.zero_le 2) (by omega))]
  have fld : ∀ c v j, IsC s.count c v → j < szs c → wat (s.W.set (u + 3 + i) x) (v + 3 + j) = if v = u ∧ j = i then x else wat s.W (v + 3 + j) := fun c' v j hv hj => by
    rw [wat_set _ _ _ _ hw]
    by_cases e : v = u ∧ j = i
    · rw [if_pos e, if_pos (by rw [e.1, e.2])]
    · rw [if_neg e, if_neg (fun e' => e (field_inj hv hu hj hi e'))]
  have hrl := hR.rl.field hu hi x
  generalize s.W.set (u + 3 + i) x = W1 at *
  have hE : ∀ a b, a ≠ u → (edgeW s.count W1 a b ↔ edgeW s.count s.W a b) := by
    intro a b hne
    constructor
    · rintro ⟨⟨c', j, ha, f1, f2, f3, f4⟩, hb⟩
      rw [hdr c' a ha] at f1 f2
      rw [fld c' a j ha f3, if_neg (fun e => hne e.1)] at f4
      exact ⟨⟨c', j, ha, f1, f2, f3, f4⟩, hb⟩
    · rintro ⟨⟨c', j, ha, f1, f2, f3, f4⟩, hb⟩
      exact ⟨⟨c', j, ha, by rw [hdr c' a ha]; exact f1, by rw [hdr c' a ha]; exact f2, f3, by rw [fld c' a j ha f3, if_neg (fun e => hne e.1)]; exact f4⟩, hb⟩
  have hK : ∀ b, edgeW s.count s.W u b → colOf L b = 2 → edgeW s.count W1 u b := by
    rintro b ⟨⟨c', j, ha, f1, f2, f3, f4⟩, c2, hb⟩ hb2
    have ec := ha.one hu
    subst ec
    by_cases ej : j = i
    · subst ej
      exact absurd hb2 (hold f1 c2 b hb f4)
    · exact ⟨⟨c', j, ha, by rw [hdr c' u ha]; exact f1, by rw [hdr c' u ha]; exact f2, f3, by rw [fld c' u j ha f3, if_neg (fun e => ej e.2)]; exact f4⟩, c2, hb⟩
  have hN : ∀ b, edgeW s.count W1 u b → edgeW s.count s.W u b ∨ OK (colOf L) (edgeW s.count s.W) b := by
    rintro b ⟨⟨c', j, ha, f1, f2, f3, f4⟩, c2, hb⟩
    rw [hdr c' u ha] at f1 f2
    rw [fld c' u j ha f3] at f4
    by_cases ej : j = i
    · rw [if_pos ⟨rfl, ej⟩] at f4
      exact Or.inr (hok f1 c2 b hb f4)
    · rw [if_neg (fun e => ej e.2)] at f4
      exact Or.inl ⟨⟨c', j, ha, f1, f2, f3, f4⟩, c2, hb⟩
  refine ⟨{ s with W := W1 }, by rw [e1]; rfl, ⟨⟨⟨⟨hR.ls.a, hR.ls.b, hR.ls.c, hR.ls.d⟩, hR.st, hR.big, hR.cnt, hR.wait, hR.now, hrl, hR.cov, hR.tot, ?_, ?_⟩, h.gi.write hE hK hN, h.idle, ?_, h.wr⟩, fun c' v hv => by rw [hdr c' v hv]; exact ⟨rfl, rfl, rfl⟩, fld, rfl, rfl, rfl, rfl, rfl, fun _ _ => Nat.le_refl _, ?_, fun v hv => hv, fun v hv => Or.inl hv⟩⟩
  · intro c2 l v hc2 hl hv
    show (_ → hmark (wat W1 v) = s.now) ∧ (_ → hmark (wat W1 v) = 1 - s.now) ∧ (_ → hmark (wat W1 v) = 2)
    rw [hdr c2 v (hR.rl.mem c2 l v hc2 hl hv)]
    exact hR.mark c2 l v hc2 hl hv
  · intro c2 l v hc2 h1 hl hv
    show (hform (wat W1 v) = 1 ∨ hform (wat W1 v) = 2) ∧ hn (wat W1 v) ≤ szs c2
    rw [hdr c2 v (hR.rl.mem c2 l v hc2 hl hv)]
    exact hR.form c2 l v hc2 h1 hl hv
  · intro c2 v j hv hj
    show wat W1 (v + 3 + j) < _
    rw [fld c2 v j hv hj]
    split
    · exact hx
    · exact h.wf c2 v j hv hj
  · intro v hv
    refine ok_edges (fun a b hab h2 => ?_) hv
    by_cases e : a = u
    · subst e; exact hK b hab h2
    · exact (hE a b e).2 hab

theorem set_ok {s : TH} {L : Nat → Nat → List Nat} (h : St s L) {c u i x : Nat} (hu : IsC s.count c u) (ha : colOf L u ≠ 0) (hi : i < hn (wat s.W u)) (hx : x < 18446744073709551616)
    (hok : hform (wat s.W u) = 1 → ∀ c' v, IsC s.count c' v → x = 8 * v + 1 → IsOK s L v) :
    ∃ s' L', tset s u i x = some s' ∧ SetTo s s' L L' u i x := by
  have hR := h.rep
  obtain ⟨c', hc', hul⟩ := col_ne0 (k := colOf L u) rfl ha
  have hle := colOf_le L u
  have ec := (hR.rl.mem c' _ u hc' (by omega) hul).one hu
  subst ec
  have hfm := hR.form c' _ u hc' (by omega) (by omega) hul
  have hisz : i < szs c' := by omega
  have hw : u + 3 + i < s.W.length := by rw [hR.rl.wl]; have := hu.lt; omega
  unfold tset
  rw [hR.rdh hu, Option.bind_some]
  have e1 : rd s.W (u + 3 + i) = some (wat s.W (u + 3 + i)) := by unfold rd; rw [if_pos hw]
  rw [e1, Option.bind_some]
  by_cases hm : hform (wat s.W u) = 1 ∧ s.marking = true
  · rw [if_pos hm]
    have hsafe : Safe s.count L (wat s.W (u + 3 + i)) := safe_of hR (h.wf c' u i hu hisz) (fun c2 v hv e => h.gi.alive u v ha ⟨⟨c', i, hu, hm.1, hi, hisz, e⟩, c2, hv⟩)
    obtain ⟨s1, L1, e2, sh, hnw, hgr⟩ := rep_shade hR (fun _ => rfl) hsafe
    rw [e2, Option.bind_some]
    have hst := sh.stat
    have h1 := shaded_st h sh hm.2
    have hoks : ∀ v, IsOK s L v → IsOK s1 L1 v := by
      intro v hv
      unfold IsOK
      rw [hst.1]
      refine ok_edges (fun a b hab _ => (edge_same sh.same a b).2 hab) (sh.shd.ok hv)
    obtain ⟨s2, e3, k⟩ := store_ok h1 (c := c') (u := u) (i := i) (x := x) (by rw [hst.1]; exact hu) hisz hx
      (fun _ c2 v hv e => by
        rw [hst.1] at hv
        rw [sh.same.fld c' u i hu hisz] at e
        exact hnw c2 v hv e)
      (fun hf c2 v hv e => by
        rw [hst.1] at hv
        exact hoks v (hok hm.1 c2 v hv e))
    refine ⟨s2, L1, e3, ⟨k.st, fun c2 v hv => ?_, fun c2 v j hv hj => ?_, k.count.trans hst.1, k.roots.trans hst.2.1, k.k.trans hst.2.2.2.2.1, k.cyc.trans hst.2.2.2.2.2, k.marking.trans hst.2.2.2.1, fun c2 hc2 => ?_, fun v hv => k.oks v (hoks v hv), fun v hv => ?_, fun v hv => hgr v hv⟩⟩
    · have a := k.shape c2 v (by rw [hst.1]; exact hv)
      have b := sh.same.shape c2 v hv
      exact ⟨a.1.trans b.1, a.2.1.trans b.2.1, a.2.2.trans b.2.2⟩
    · rw [k.fld c2 v j (by rw [hst.1]; exact hv) hj, sh.same.fld c2 v j hv hj]
    · refine Nat.le_trans ?_ (k.free c2 hc2)
      have a := hR.cnt c2 0 hc2 (by omega)
      have b := sh.rep.cnt c2 0 hc2 (by omega)
      rw [sh.free] at b
      simp only [d0, Nat.add_zero] at a b
      omega
    · exact k.alive v (fun e => hv ((sh.shd.zero v).1 e))
  · rw [if_neg hm, Option.bind_some]
    obtain ⟨s2, e3, k⟩ := store_ok h (c := c') (u := u) (i := i) (x := x) hu hisz hx
      (fun hf c2 v hv e e2 => by
        have hmf : s.marking = false := by
          cases hb : s.marking with
          | false => rfl
          | true => exact absurd ⟨hf, hb⟩ hm
        obtain ⟨c3, hc3, hv3⟩ := col_ne0 e2 (by omega)
        rw [(h.idle hmf c3 hc3).1] at hv3
        cases hv3)
      hok
    exact ⟨s2, L, e3, k⟩

end Go.Proofs.Ytbjlapfcnldpoaa
