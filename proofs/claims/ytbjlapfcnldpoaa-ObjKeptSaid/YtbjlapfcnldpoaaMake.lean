/- Make by its contract. -/
import Derived.Test.YtbjlapfcnldpoaaObj
namespace Go.Proofs.Ytbjlapfcnldpoaa
set_option linter.unusedVariables false
set_option linter.unusedSimpArgs false
open Go.RowKit

/-- All but u is the same. -/
structure Oth (s s' : TH) (u : Nat) : Prop where
  count : s'.count = s.count
  k : s'.k = s.k
  roots : s'.roots = s.roots
  cyc : s'.cycles = s.cycles
  shape : ∀ c v, IsC s.count c v → v ≠ u → hform (wat s'.W v) = hform (wat s.W v) ∧ htag (wat s'.W v) = htag (wat s.W v) ∧ hn (wat s'.W v) = hn (wat s.W v)
  fld : ∀ c v i, IsC s.count c v → v ≠ u → i < szs c → wat s'.W (v + 3 + i) = wat s.W (v + 3 + i)
theorem Oth.trans {a b c : TH} {u : Nat} (h : Oth a b u) (k : Oth b c u) : Oth a c u :=
  ⟨k.count.trans h.count, k.k.trans h.k, k.roots.trans h.roots, k.cyc.trans h.cyc, fun c v hv hne => by
    have x := h.shape c v hv hne
    have y := k.shape c v (by rw [h.count]; exact hv) hne
    exact ⟨y.1.trans x.1, y.2.1.trans x.2.1, y.2.2.trans x.2.2⟩, fun c v i hv hne hi => (k.fld c v i (by rw [h.count]; exact hv) hne hi).trans (h.fld c v i hv hne hi)⟩
theorem Took.oth {s s' : TH} {L L' : Nat → Nat → List Nat} {u form tag n fill : Nat} (h : Took s s' L L' u form tag n fill) : Oth s s' u :=
  ⟨h.count, h.k, h.roots, h.cyc, fun c v hv hne => by rw [h.othH c v hv hne]; exact ⟨rfl, rfl, rfl⟩, fun c v i hv hne hi => h.othF c v i hv hne hi⟩
theorem SetTo.oth {s s' : TH} {L L' : Nat → Nat → List Nat} {u i x : Nat} (h : SetTo s s' L L' u i x) : Oth s s' u :=
  ⟨h.count, h.k, h.roots, h.cyc, fun c v hv _ => h.shape c v hv, fun c v j hv hne hj => by rw [h.fld c v j hv hj, if_neg (fun (e : v = u ∧ j = i) => hne e.1)]⟩
theorem Oth.evo {s s' : TH} {L : Nat → Nat → List Nat} {u : Nat} (h : Oth s s' u) (hs : St s L) (hu : colOf L u = 0) : Evo s s' := by
  have hne : ∀ v, Rch s v → v ≠ u := fun v hv e => (hv.ok hs).ne0 (by rw [e]; exact hu)
  exact ⟨h.count, h.k, fun c v hv hr => h.shape c v hv (hne v hr), fun c v i hv hr hi => h.fld c v i hv (hne v hr) hi⟩

/-- The words ws, outside S. -/
def WsAt (w : World) (a : Option Addr) (n : Nat) (ws : Nat → Nat) (S : Nat → Prop) : Prop := ∀ i, i < n → ∃ rb ro, a = some ⟨rb, ro, none⟩ ∧ ¬ S rb ∧ rb < w.heap.size ∧ w.cell? ⟨rb, ro + i, none⟩ = some (.int .u64 (ws i : Nat))
theorem WsAt.keeps {w w' : World} {a : Option Addr} {n : Nat} {ws : Nat → Nat} {S : Nat → Prop} (h : WsAt w a n ws S) (k : Keeps S w w') : WsAt w' a n ws S := by
  intro i hi
  obtain ⟨rb, ro, h1, h2, h3, h4⟩ := h i hi
  exact ⟨rb, ro, h1, h2, by have := k.size; omega, k.cell h4 h2⟩
theorem WsAt.keeps0 {w w' : World} {a : Option Addr} {n : Nat} {ws : Nat → Nat} {S : Nat → Prop} (h : WsAt w a n ws S) (k : Keeps (fun _ => False) w w') : WsAt w' a n ws S := h.keeps (k.mono (fun _ _ h => h.elim))

/-- What Make leaves. -/
structure Made (s s' : TH) (L L' : Nat → Nat → List Nat) (u form tag n : Nat) (ws : Nat → Nat) : Prop where
  st : St s' L'
  obj : IsObj s' L' u form tag n ws
  ok : IsOK s' L' u
  evo : Evo s s'
  roots : s'.roots = s.roots
  cyc : s'.cycles ≤ s.cycles + s.k
  free : ∀ c, c < 4 → lget s c 0 ≤ lget s' c 0 + (if c = tcls n then 1 else 0)
structure MadeSaid (hb b g : Nat) (s : TH) (L : Nat → Nat → List Nat) (form tag n : Nat) (ws : Nat → Nat) (w : World) (e : Ending) (w' : World) : Prop where
  said : ∃ s' L' u, e = .returned (.tuple #[.int .u64 ((8 * u + 1 : Nat) : Int), .nilIface]) ∧ IsTH w' hb b g s' ∧ Made s s' L L' u form tag n ws
  keeps : Keeps (foot3 hb b g) w w'

set_option maxRecDepth 100000 in
set_option maxHeartbeats 4000000 in
theorem make_ok {hb b g : Nat} {s : TH} {L : Nat → Nat → List Nat} {w : World} {a : Option Addr} {n cap tag : Nat} {ws : Nat → Nat} (hI : IsTH w hb b g s) (hs : St s L) (hk : s.k ≤ 64) (hcy : s.cycles + s.k ≤ 1000000) (ht1 : 1 ≤ tag) (ht2 : tag ≤ 12) (ht3 : tag ≠ 2) (hn : n ≤ 120)
    (hw : WsAt w a n ws (foot3 hb b g)) (hg : ∀ i, i < n → GoodW s (ws i)) (hf : 0 < lget s (tcls n) 0) :
    Calls Try.prog 42 #[.pointer (some ⟨hb, 0, none⟩), .int .i64 tag, .slice a n cap] w fun e w' => MadeSaid hb b g s L 1 tag n ws w e w' := by
  obtain ⟨s1, L1, e1, st1, k1⟩ := incr_ok s.k hs hcy
  obtain ⟨s2, L2, u, e2, tk⟩ := take_ok st1 (form := 1) (tag := tag) (n := n) (Or.inl rfl) (by omega) (by omega) (by have := k1.free (tcls n) (tcls_lt n); omega)
  have tal := talloc_of e1 e2
  rw [if_neg (by decide)] at tk
  have ho2 : IsObj s2 L2 u 1 tag n (fun i => if i < 0 then ws i else 12) := (tk.obj (Or.inl rfl) (by omega) (by omega) st1.rep.now).congr (fun i _ => by rw [if_neg (by omega)])
  have HI := Box.mk hI
  have HS := Box.mk hs
  have HW := Box.mk hw
  have HG := Box.mk hg
  have Tal := Box.mk tal
  have St1 := Box.mk (And.intro st1 k1)
  have Tk := Box.mk tk
  have Ho2 := Box.mk ho2
  have Hb := Box.mk (And.intro hk hcy)
  have K0 := Box.mk (Keeps.refl (foot3 hb b g) w)
  have e2 : ((tag : Int) == 2) = false := by rw [beq_eq_false_iff_ne]; omega
  clear hI hs hw hg tal st1 k1 tk ho2 e1 hf hk hcy ht3
  go_enter Try.func42, Try.ntmps42
  go_wp2_with fail
  refine (makes_ok _ _ _ (by omega) (by omega) e2 (by omega)).mono ?_
  rintro e w' ⟨rfl, rfl⟩
  go_wp2_with fail
  go_loopw [25] (fun i wr => ∃ (j : Nat), j ≤ n ∧ i = .int .i64 j ∧ Box (IsTH wr hb b g s) ∧ Box (WsAt wr a n ws (foot3 hb b g)) ∧ Box (Keeps (foot3 hb b g) w' wr)) (fun i _ => n - (intOf i).toNat)
  case atStart => exact ⟨0, Nat.zero_le _, rfl, HI, HW, K0⟩
  case round =>
    clear HI HW K0
    obtain ⟨j, hj, rfl, HI, HW, K⟩ := hrel
    by_cases hjn : j < n
    · obtain ⟨rb, ro, rfl, hrb, hrl, hcell⟩ := HW.out j hjn
      have hgw := HG.out j hjn
      obtain ⟨x, hx⟩ : ∃ x, ws j = x := ⟨_, rfl⟩
      rw [hx] at hcell hgw
      have Hgw := Box.mk (And.intro hgw.1 (hgw.value HS.out))
      have hj0 : (0 : Int) ≤ (j : Int) := by omega
      clear hgw hx
      go_wp2_with fail
      refine (value_is HI.out Hgw.out.1).mono ?_
      rw [Hgw.out.2]
      rintro e w1 ⟨rfl, kv⟩
      have HI1 := Box.mk (HI.out.keeps0 kv)
      have HW1 := Box.mk (HW.out.keeps0 kv)
      have K1 := Box.mk (K.out.trans (kv.mono (S' := foot3 hb b g) (fun _ _ h => h.elim)))
      clear kv HI HW K hcell
      go_wp2_with fail
      go_roundw
      case rel => exact ⟨j + 1, by omega, by go_num, HI1, HW1, K1⟩
      case measure => simp [intOf]; omega
    · have hjn2 : ¬ ((j : Int) < (n : Int)) := by omega
      go_wp2_with fail
      refine (alloc_f (form := 1) (tag := tag) (n := n) HI.out Tal.out HS.out.rep.now Hb.out.1 (by decide) (by decide) (by omega) (by omega)).mono ?_
      rintro e w2 ⟨rfl, hI2, k2⟩
      have H2 := Box.mk hI2
      have HW2 := Box.mk (HW.out.keeps k2)
      have K2 := Box.mk (K.out.trans k2)
      clear hI2 k2 HI HW K hjn hjn2 hj
      go_wp2_with fail
      have Hst : Box (St s2 L2) := ⟨Tk.out.st⟩
      have Hok : Box (IsOK s2 L2 u) := ⟨Tk.out.ok⟩
      have Hot : Box (Oth s1 s2 u) := ⟨Tk.out.oth⟩
      have Hfr : Box (∀ c, c < 4 → lget s1 c 0 ≤ lget s2 c 0 + (if c = tcls n then 1 else 0)) := ⟨Tk.out.free⟩
      go_loopw [48] (fun i wr => ∃ (j : Nat) (sj : TH) (Lj : Nat → Nat → List Nat), j ≤ n ∧ i = .int .i64 j ∧ Box (St sj Lj) ∧ Box (IsObj sj Lj u 1 tag n (fun i => if i < j then ws i else 12)) ∧ Box (IsOK sj Lj u) ∧ Box (Oth s1 sj u) ∧ Box (∀ c, c < 4 → lget s1 c 0 ≤ lget sj c 0 + (if c = tcls n then 1 else 0)) ∧ Box (IsTH wr hb b g sj) ∧ Box (WsAt wr a n ws (foot3 hb b g)) ∧ Box (Keeps (foot3 hb b g) w' wr)) (fun i _ => n - (intOf i).toNat)
      case atStart => exact ⟨0, s2, L2, Nat.zero_le _, rfl, Hst, Ho2, Hok, Hot, Hfr, H2, HW2, K2⟩
      case round =>
        clear Hst Ho2 Hok Hot Hfr H2 HW2 K2
        obtain ⟨j, sj, Lj, hj, rfl, Hst, Ho, Hok, Hot, Hfr, HI, HW, K⟩ := hrel
        by_cases hjn : j < n
        · obtain ⟨rb, ro, rfl, hrb, hrl, hcell⟩ := HW.out j hjn
          have hgw : GoodW sj (ws j) := (HG.out j hjn).eq (Hot.out.count.trans St1.out.2.count) (Hot.out.roots.trans St1.out.2.roots)
          obtain ⟨x, hx⟩ : ∃ x, ws j = x := ⟨_, rfl⟩
          rw [hx] at hcell hgw
          obtain ⟨s5, L5, es5, k5⟩ := set_ok Hst.out (i := j) (x := x) Ho.out.isC Ho.out.alive (by rw [Ho.out.num]; exact hjn) hgw.1 (fun _ => hgw.ok Hst.out)
          have HT := Box.mk (set_is HI.out (Ho.out.small Hst.out).2.1 (Ho.out.place Hst.out) (Ho.out.rdh Hst.out) (by rw [Ho.out.num]; exact hjn) (by have := (Ho.out.small Hst.out).1; omega) Hst.out.rep.now hgw.1 es5 (Or.inl ⟨Ho.out.f, hgw.value Hst.out⟩))
          have Ho5 : Box (IsObj s5 L5 u 1 tag n (fun i => if i < j + 1 then ws i else 12)) := ⟨(k5.obj Ho.out).congr (fun i hi => by
            by_cases e : i = j
            · rw [if_pos e, if_pos (by omega), e, hx]
            · rw [if_neg e]
              by_cases h : i < j
              · rw [if_pos h, if_pos (by omega)]
              · rw [if_neg h, if_neg (by omega)])⟩
          have Hst5 := Box.mk k5.st
          have Hok5 : Box (IsOK s5 L5 u) := ⟨k5.oks u Hok.out⟩
          have Hot5 := Box.mk (Hot.out.trans k5.oth)
          have Hfr5 : Box (∀ c, c < 4 → lget s1 c 0 ≤ lget s5 c 0 + (if c = tcls n then 1 else 0)) := ⟨fun c hc => by have := Hfr.out c hc; have := k5.free c hc; omega⟩
          have hj0 : (0 : Int) ≤ (j : Int) := by omega
          clear k5 es5 hgw hx
          go_wp2_with fail
          refine HT.out.mono ?_
          rintro e w5 ⟨rfl, hI5, kk5⟩
          have H5 := Box.mk hI5
          have HW5 := Box.mk (HW.out.keeps kk5)
          have K5 := Box.mk (K.out.trans kk5)
          clear hI5 kk5 HI HW K HT hcell Hst Ho Hok Hot Hfr
          go_wp2_with fail
          go_roundw
          case rel => exact ⟨j + 1, s5, L5, by omega, by go_num, Hst5, Ho5, Hok5, Hot5, Hfr5, H5, HW5, K5⟩
          case measure => simp [intOf]; omega
        · have hjn2 : ¬ ((j : Int) < (n : Int)) := by omega
          go_wp2_with fail
          go_ret2
          refine ⟨⟨sj, Lj, u, rfl, HI.out, ⟨Hst.out, Ho.out.congr (fun i hi => by rw [if_pos (by omega)]), Hok.out, ?_, Hot.out.roots.trans St1.out.2.roots, by rw [Hot.out.cyc]; exact St1.out.2.cyc, fun c hc => ?_⟩⟩, K.out⟩
          · exact St1.out.2.evo.trans (fun v hv => rootP_of St1.out.2.count St1.out.2.roots hv) (Hot.out.evo St1.out.1 Tk.out.was)
          · have h1 := Hfr.out c hc
            have h2 := St1.out.2.free c hc
            omega

end Go.Proofs.Ytbjlapfcnldpoaa
