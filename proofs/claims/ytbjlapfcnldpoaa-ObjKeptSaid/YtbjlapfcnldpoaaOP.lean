/- What registers reach, and what objects are: what stays of them. No program in sight. -/
import Derived.Test.YtbjlapfcnldpoaaTFreshP
namespace Go.Proofs.Ytbjlapfcnldpoaa
set_option linter.unusedVariables false
set_option linter.unusedSimpArgs false
open Go.RowKit

/-- Reached from the registers. -/
inductive Rch (s : TH) : Nat → Prop where
  | root {v : Nat} (h : rootP s v) : Rch s v
  | step {u v : Nat} (h : Rch s u) (e : edgeW s.count s.W u v) : Rch s v
theorem Rch.isC {s : TH} {v : Nat} (h : Rch s v) : ∃ c, IsC s.count c v := by
  cases h with
  | root h => exact h.2
  | step _ e => exact e.2
theorem Rch.ok {s : TH} {L : Nat → Nat → List Nat} (h : St s L) {v : Nat} (hr : Rch s v) : IsOK s L v := by
  induction hr with
  | root h1 => exact h.gi.root _ h1
  | step _ e ih => exact ok_edge h.gi (colOf_le L) ih e
/-- What is reached has what it had. -/
structure Evo (s s' : TH) : Prop where
  count : s'.count = s.count
  k : s'.k = s.k
  shape : ∀ c v, IsC s.count c v → Rch s v → hform (wat s'.W v) = hform (wat s.W v) ∧ htag (wat s'.W v) = htag (wat s.W v) ∧ hn (wat s'.W v) = hn (wat s.W v)
  fld : ∀ c v i, IsC s.count c v → Rch s v → i < szs c → wat s'.W (v + 3 + i) = wat s.W (v + 3 + i)
theorem Evo.refl (s : TH) : Evo s s := ⟨rfl, rfl, fun _ _ _ _ => ⟨rfl, rfl, rfl⟩, fun _ _ _ _ _ _ => rfl⟩
theorem Evo.rch {s s' : TH} (h : Evo s s') (hr : ∀ v, rootP s v → Rch s' v) {v : Nat} (hv : Rch s v) : Rch s' v := by
  induction hv with
  | root h1 => exact hr _ h1
  | @step u v h1 e ih =>
    obtain ⟨⟨c, i, hu, f1, f2, f3, f4⟩, hv⟩ := e
    obtain ⟨a, -, b⟩ := h.shape c u hu h1
    refine .step ih ⟨⟨c, i, by rw [h.count]; exact hu, by rw [a]; exact f1, by rw [b]; exact f2, f3, by rw [h.fld c u i hu h1 f3]; exact f4⟩, ?_⟩
    rw [h.count]; exact hv
theorem rootP_of {s s' : TH} (hc : s'.count = s.count) (hr : s'.roots = s.roots) {v : Nat} (h : rootP s v) : Rch s' v := .root (by rw [rootP_eq hc hr]; exact h)
theorem Evo.trans {a b c : TH} (h : Evo a b) (hr : ∀ v, rootP a v → Rch b v) (k : Evo b c) : Evo a c :=
  ⟨k.count.trans h.count, k.k.trans h.k, fun c v hv hrv => by
    have x := h.shape c v hv hrv
    have y := k.shape c v (by rw [h.count]; exact hv) (h.rch hr hrv)
    exact ⟨y.1.trans x.1, y.2.1.trans x.2.1, y.2.2.trans x.2.2⟩, fun c v i hv hrv hi => (k.fld c v i (by rw [h.count]; exact hv) (h.rch hr hrv) hi).trans (h.fld c v i hv hrv hi)⟩
theorem KeptN.evo {n : Nat} {s s' : TH} (h : KeptN n s s') : Evo s s' := ⟨h.count, h.k, fun c v hv _ => h.same.shape c v hv, fun c v i hv _ hi => h.same.fld c v i hv hi⟩
theorem Took.evo {s s' : TH} {L L' : Nat → Nat → List Nat} {u form tag n fill : Nat} (h : Took s s' L L' u form tag n fill) (hs : St s L) : Evo s s' := by
  have hne : ∀ v, Rch s v → v ≠ u := fun v hv e => (hv.ok hs).ne0 (by rw [e]; exact h.was)
  exact ⟨h.count, h.k, fun c v hv hr => by rw [h.othH c v hv (hne v hr)]; exact ⟨rfl, rfl, rfl⟩, fun c v i hv hr hi => h.othF c v i hv (hne v hr) hi⟩
/-- Setting a field of what is not reached. -/
theorem SetTo.evo {s s' : TH} {L L' : Nat → Nat → List Nat} {u i x : Nat} (h : SetTo s s' L L' u i x) (hu : ¬ Rch s u) : Evo s s' :=
  ⟨h.count, h.k, fun c v hv hr => h.shape c v hv, fun c v j hv hr hj => by rw [h.fld c v j hv hj, if_neg (fun (e : v = u ∧ j = i) => hu (e.1 ▸ hr))]⟩

/-- A cell of n fields. -/
structure IsObj (s : TH) (L : Nat → Nat → List Nat) (u form tag n : Nat) (fs : Nat → Nat) : Prop where
  isC : IsC s.count (tcls n) u
  alive : colOf L u ≠ 0
  le : n ≤ 127
  f : hform (wat s.W u) = form
  t : htag (wat s.W u) = tag
  num : hn (wat s.W u) = n
  fld : ∀ i, i < n → wat s.W (u + 3 + i) = fs i
theorem IsObj.evo {s s' : TH} {L L' : Nat → Nat → List Nat} {u form tag n : Nat} {fs : Nat → Nat} (h : IsObj s L u form tag n fs) (hr : Rch s u) (he : Evo s s') (hs' : St s' L') (hr' : Rch s' u) : IsObj s' L' u form tag n fs := by
  obtain ⟨a, b, c⟩ := he.shape _ u h.isC hr
  exact ⟨by rw [he.count]; exact h.isC, (hr'.ok hs').ne0, h.le, a.trans h.f, b.trans h.t, c.trans h.num, fun i hi => (he.fld _ u i h.isC hr (by have := szs_tcls h.le; omega)).trans (h.fld i hi)⟩
section
variable {s : TH} {L : Nat → Nat → List Nat} {u form tag n : Nat} {fs : Nat → Nat}
theorem IsObj.place (h : IsObj s L u form tag n fs) (hs : St s L) : tplace s (8 * u + 1) = some (u, tcls n) := hs.rep.tplace.2 ⟨rfl, h.isC⟩
theorem IsObj.rdh (h : IsObj s L u form tag n fs) (hs : St s L) : rdh s.W u = some (wat s.W u) := hs.rep.rdh h.isC
theorem IsObj.small (h : IsObj s L u form tag n fs) (hs : St s L) : u ≤ 720051 ∧ 8 * u + 1 < 18446744073709551616 ∧ ∀ i, i < n → u + 3 + i < s.W.length := by
  have h1 := h.isC.lt
  have h2 := stt4_le hs.rep.big
  have h3 := hs.rep.rl.wl
  have h4 := szs_tcls h.le
  exact ⟨by omega, by omega, fun i hi => by omega⟩
theorem Took.obj {s' : TH} {L' : Nat → Nat → List Nat} {fill : Nat} (h : Took s s' L L' u form tag n fill) (hf : form = 1 ∨ form = 2) (ht : tag < 16) (hn' : n ≤ 127) (hnow : s.now ≤ 1) : IsObj s' L' u form tag n (fun _ => fill) :=
  ⟨by rw [h.count]; exact h.isC, h.ok.ne0, hn', by rw [h.hdr]; exact hform_hdr (by omega) ht (by omega) (by omega), by rw [h.hdr]; exact htag_hdr (by omega) ht (by omega) (by omega), by rw [h.hdr]; exact hn_hdr (by omega) ht (by omega) (by omega), h.fld⟩
theorem SetTo.obj {s' : TH} {L' : Nat → Nat → List Nat} {i x : Nat} (h : SetTo s s' L L' u i x) (ho : IsObj s L u form tag n fs) : IsObj s' L' u form tag n (fun j => if j = i then x else fs j) := by
  obtain ⟨a, b, c⟩ := h.shape _ u ho.isC
  refine ⟨by rw [h.count]; exact ho.isC, h.alive u ho.alive, ho.le, a.trans ho.f, b.trans ho.t, c.trans ho.num, fun j hj => ?_⟩
  rw [h.fld _ u j ho.isC (by have := szs_tcls ho.le; omega)]
  by_cases e : j = i
  · rw [if_pos ⟨rfl, e⟩, if_pos e]
  · rw [if_neg (fun e' => e e'.2), if_neg e]; exact ho.fld j hj
theorem IsObj.other {s' : TH} {L' : Nat → Nat → List Nat} {v i x : Nat} (ho : IsObj s L u form tag n fs) (h : SetTo s s' L L' v i x) (hne : u ≠ v) : IsObj s' L' u form tag n fs := by
  obtain ⟨a, b, c⟩ := h.shape _ u ho.isC
  refine ⟨by rw [h.count]; exact ho.isC, h.alive u ho.alive, ho.le, a.trans ho.f, b.trans ho.t, c.trans ho.num, fun j hj => ?_⟩
  rw [h.fld _ u j ho.isC (by have := szs_tcls ho.le; omega), if_neg (fun e => hne e.1)]
  exact ho.fld j hj
theorem IsObj.congr (h : IsObj s L u form tag n fs) {gs : Nat → Nat} (e : ∀ i, i < n → fs i = gs i) : IsObj s L u form tag n gs := ⟨h.isC, h.alive, h.le, h.f, h.t, h.num, fun i hi => (h.fld i hi).trans (e i hi)⟩
end
/-- A word that may be a value: no cell's, or one that a register names. -/
def GoodW (s : TH) (x : Nat) : Prop := x < 18446744073709551616 ∧ (tcell x = false ∨ ∃ v c, x = 8 * v + 1 ∧ IsC s.count c v ∧ x ∈ s.roots)
theorem GoodW.value {s : TH} {L : Nat → Nat → List Nat} {x : Nat} (h : GoodW s x) (hs : St s L) : tvalue s x = true := by
  unfold tvalue
  rcases h.2 with h | ⟨v, c, e, hv, -⟩
  · rw [h]; simp
  · rw [hs.rep.tplace.2 ⟨e, hv⟩]; rfl
theorem tcell_of {s : TH} {L : Nat → Nat → List Nat} (hs : St s L) {v c : Nat} (hv : IsC s.count c v) : tcell (8 * v + 1) = true := by
  have h1 := hv.lt
  have h2 := stt4_le hs.rep.big
  unfold tcell
  simp only [Bool.and_eq_true, beq_iff_eq, decide_eq_true_eq]
  omega
theorem GoodW.ok {s : TH} {L : Nat → Nat → List Nat} {x : Nat} (h : GoodW s x) (hs : St s L) : ∀ c v, IsC s.count c v → x = 8 * v + 1 → IsOK s L v := by
  intro c v hv e
  rcases h.2 with h | ⟨v', c', e', hv', hm⟩
  · rw [e, tcell_of hs hv] at h; cases h
  · have : v = v' := by omega
    subst this
    exact hs.gi.root v ⟨by rw [← e]; exact hm, c, hv⟩
theorem GoodW.eq {s s' : TH} {x : Nat} (h : GoodW s x) (hc : s'.count = s.count) (hr : s'.roots = s.roots) : GoodW s' x := by
  unfold GoodW at h ⊢
  rw [hc, hr]; exact h
theorem goodW_nc {s : TH} {x : Nat} (h : tcell x = false) (hx : x < 18446744073709551616) : GoodW s x := ⟨hx, Or.inl h⟩

end Go.Proofs.Ytbjlapfcnldpoaa
