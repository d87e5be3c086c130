/- Law 6's awake. -/
import Derived.Test.YtbjlapfcnldpoaaList
import Derived.Test.YtbjlapfcnldpoaaFill
namespace Go.Proofs.Ytbjlapfcnldpoaa
set_option linter.unusedVariables false
set_option linter.unusedSimpArgs false
open Go.RowKit

theorem fix_is (n : Nat) (w : World) (h : n ≤ 1000000) : Calls Try.prog 52 #[.int .i64 n] w fun e w' => e = .returned (.tuple #[.int .u64 ((8 * n : Nat) : Int), .nilIface]) ∧ w' = w := by
  go_enter Try.func52, Try.ntmps52
  go_wp2_with fail
  refine (wput_is 0 n _ (by omega) (by omega)).mono ?_
  rintro e w1 ⟨rfl, rfl⟩
  have e1 : wput 0 (n : Int) = ((8 * n : Nat) : Int) := by unfold wput; omega
  rw [e1]
  go_wp2_with fail
  go_ret2
  exact ⟨rfl, rfl⟩

theorem IsObj.setRoot {s : TH} {L : Nat → Nat → List Nat} {u f t n i x : Nat} {fs : Nat → Nat} (h : IsObj s L u f t n fs) : IsObj (setRoot s i x) L u f t n fs := ⟨h.isC, h.alive, h.le, h.f, h.t, h.num, h.fld⟩
section
variable {s s' : TH} {L L' : Nat → Nat → List Nat} {u form tag n : Nat} {ws : Nat → Nat}
theorem Made.value (h : Made s s' L L' u form tag n ws) : tvalue s' (8 * u + 1) = true := by
  unfold tvalue
  rw [h.st.rep.tplace.2 ⟨rfl, h.obj.isC⟩]; rfl
theorem Made.rooted (h : Made s s' L L' u form tag n ws) (i : Nat) : St (Go.Proofs.Ytbjlapfcnldpoaa.setRoot s' i (8 * u + 1)) L' := setRoot_ok h.st (h.obj.small h.st).2.1 (fun c v hv e => by
  have : v = u := by omega
  subst this; exact h.ok)
theorem Made.rch (h : Made s s' L L' u form tag n ws) {i : Nat} (hi : i < s'.roots.length) : Rch (Go.Proofs.Ytbjlapfcnldpoaa.setRoot s' i (8 * u + 1)) u :=
  .root ⟨by
    show 8 * u + 1 ∈ s'.roots.set i (8 * u + 1)
    exact List.mem_iff_getElem.2 ⟨i, by simpa using hi, by simp⟩, _, h.obj.isC⟩
/-- What was reached is, and is the same. -/
theorem Made.kept (h : Made s s' L L' u form tag n ws) {v f t m : Nat} {fs : Nat → Nat} (ho : IsObj s L v f t m fs) (hr : Rch s v) : IsObj s' L' v f t m fs ∧ Rch s' v := by
  have hr' := h.evo.rch (fun v hv => rootP_of h.evo.count h.roots hv) hr
  exact ⟨ho.evo hr h.evo h.st hr', hr'⟩
theorem KeptN.kept {N : Nat} (k : KeptN N s s') (hs' : St s' L') {v f t m : Nat} {fs : Nat → Nat} (ho : IsObj s L v f t m fs) (hr : Rch s v) : IsObj s' L' v f t m fs ∧ Rch s' v := by
  have hr' := k.evo.rch (fun v hv => rootP_of k.count k.roots hv) hr
  exact ⟨ho.evo hr k.evo hs' hr', hr'⟩
end

/-- abc. -/
def abcS : ByteArray := ⟨#[97, 98, 99]⟩
theorem abc_size : abcS.size = 3 := rfl
def aw (i : Nat) : Nat := if i = 0 then 8 else 4

set_option maxRecDepth 100000 in
set_option maxHeartbeats 4000000 in
theorem awake06 (w : World) : Calls Try.prog 39 #[] w fun e w' => e = .returned (.bool true) ∧ Keeps (fun _ => False) w w' := by
  obtain ⟨s, L, hB⟩ := beg_ex
  have HB := Box.mk hB
  clear hB
  go_enter Try.func39, Try.ntmps39
  go_wp2_with fail
  refine (begun_is HB.out w).mono ?_
  rintro e w1 ⟨⟨hb, b, g, rfl, hI, hl1, hl2, hl3⟩, k1⟩
  have H1 := Box.mk hI
  have K1 := Box.mk k1
  have Hlt := Box.mk (And.intro hl1 (And.intro hl2 hl3))
  clear hI k1 hl1 hl2 hl3
  go_wp2_with fail
  refine (fix_is 1 _ (by decide)).mono ?_
  rintro e w2 ⟨rfl, rfl⟩
  go_wp2_with fail
  refine (wnil_is _).mono ?_
  rintro e w2' ⟨rfl, rfl⟩
  go_wp2_with fail
  have H2 := Box.mk (H1.out.keeps0 ((Keeps.refl _ w2').alloc (.cells #[.int .u64 8, .int .u64 4] 30)))
  have K2 := Box.mk (K1.out.alloc (.cells #[.int .u64 8, .int .u64 4] 30))
  have HW : Box (WsAt (w2'.alloc (.cells #[.int .u64 8, .int .u64 4] 30)) (some ⟨w2'.heap.size, 0, none⟩) 2 aw (foot3 hb b g)) := ⟨fun i hi => ⟨_, 0, rfl, by have := H1.out.lt; unfold foot3; omega, by simp, by
    rw [cell_of_heap (heap_alloc_new _ _)]
    have : i = 0 ∨ i = 1 := by omega
    rcases this with rfl | rfl <;> rfl⟩⟩
  clear H1 K1
  have hB := HB.out
  have hcy0 := hB.cyc
  have hk0 := hB.k
  refine (make_ok (tag := 1) (n := 2) (ws := aw) H2.out hB.st (by omega) (by omega) (by decide) (by decide) (by decide) (by decide) HW.out (fun i hi => goodW_nc (by
    have : i = 0 ∨ i = 1 := by omega
    rcases this with rfl | rfl <;> decide) (by unfold aw; split <;> decide)) (by have := hB.room 2; omega)).mono ?_
  rintro e w3 ⟨⟨s1, L1, u, rfl, hI3, hM⟩, k3⟩
  have H3 := Box.mk hI3
  have HM := Box.mk hM
  have K3 := Box.mk (K2.out.trans' k3 (by have := Hlt.out; intro i hi h; unfold foot3 at h; omega))
  have hr12 : s1.roots.length = 12 := by rw [hM.roots, hB.roots]; simp
  have Hst2 := Box.mk (hM.rooted 0)
  have Hr2 := Box.mk (hM.rch (i := 0) (by omega))
  have Ho2 : Box (IsObj (setRoot s1 0 (8 * u + 1)) L1 u 1 1 2 aw) := ⟨hM.obj.setRoot⟩
  have Hcy2 : Box ((setRoot s1 0 (8 * u + 1)).cycles ≤ 2 ∧ (setRoot s1 0 (8 * u + 1)).k = 2 ∧ 29 ≤ lget (setRoot s1 0 (8 * u + 1)) (tcls 2) 0) := ⟨by
    have h1 := hM.cyc
    have h2 := hM.evo.k
    have h3 := hM.free (tcls 2) (tcls_lt 2)
    have h4 := hB.room 2
    rw [if_pos rfl] at h3
    refine ⟨?_, ?_, ?_⟩
    · show s1.cycles ≤ 2
      omega
    · show s1.k = 2
      omega
    · show 29 ≤ lget s1 (tcls 2) 0
      omega⟩
  clear hI3 hM k3 H2 K2 HW hB hcy0 hk0 hr12
  go_wp2_with fail
  refine (setroot_is (i := 0) H3.out (by decide) (HM.out.obj.small HM.out.st).2.1 HM.out.value).mono ?_
  rintro e w4 ⟨rfl, hI4, k4⟩
  have H4 := Box.mk hI4
  have K4 := Box.mk (K3.out.trans' k4 (by have := Hlt.out; intro i hi h; unfold foot3 at h; omega))
  clear hI4 k4 H3 K3
  obtain ⟨s2, hs2⟩ : ∃ s2, setRoot s1 0 (8 * u + 1) = s2 := ⟨_, rfl⟩
  rw [hs2] at H4 Hst2 Hr2 Ho2 Hcy2
  clear hs2 HM
  go_wp2_with fail
  refine (oField_ok (i := 0) H4.out Hst2.out Ho2.out (by decide)).mono ?_
  rintro e w5 ⟨rfl, hI5, k5⟩
  have H5 := Box.mk hI5
  have K5 := Box.mk (K4.out.trans' k5 (by have := Hlt.out; intro i hi h; unfold foot3 at h; omega))
  clear hI5 k5 H4 K4
  rw [show aw 0 = 8 from rfl]
  go_wp2_with fail
  refine (oField_no (e9 := 9) (tg := 3) (i := 0) (fun W hW => ofield_type hW Hst2.out Ho2.out 3 0 (Or.inr (by decide))) H5.out).mono ?_
  rintro e w6 ⟨rfl, hI6, k6⟩
  have H6 := Box.mk hI6
  have K6 := Box.mk (K5.out.trans' k6 (by have := Hlt.out; intro i hi h; unfold foot3 at h; omega))
  clear hI6 k6 H5 K5
  go_wp2_with fail
  refine (oField_no (e9 := 13) (tg := 1) (i := 2) (fun W hW => ofield_index hW Hst2.out Ho2.out 2 (by decide)) H6.out).mono ?_
  rintro e w7 ⟨rfl, hI7, k7⟩
  have H7 := Box.mk hI7
  have K7 := Box.mk (K6.out.trans' k7 (by have := Hlt.out; intro i hi h; unfold foot3 at h; omega))
  clear hI7 k7 H6 K6
  go_wp2_with fail
  refine (str_ok (str := abcS) (n := 2) H7.out Hst2.out (by have := Hcy2.out; omega) (by have := Hcy2.out; omega) (by decide) (by decide) (by have := Hcy2.out; omega)).mono ?_
  rintro e w8 ⟨⟨s3, L3, v, rfl, hI8, hM8⟩, k8⟩
  have H8 := Box.mk hI8
  have HM8 := Box.mk hM8
  have K8 := Box.mk (K7.out.trans' k8 (by have := Hlt.out; intro i hi h; unfold foot3 at h; omega))
  have Ho8 := Box.mk (hM8.kept Ho2.out Hr2.out)
  clear hI8 hM8 k8 H7 K7 Hst2 Hr2 Ho2 Hcy2
  go_wp2_with fail
  refine (text_ok (str := abcS) (n := 2) H8.out HM8.out.st HM8.out.obj (by decide) (by decide)).mono ?_
  rintro e w9 ⟨rfl, hI9, k9⟩
  have H9 := Box.mk hI9
  have K9 := Box.mk (K8.out.trans' k9 (by have := Hlt.out; intro i hi h; unfold foot3 at h; omega))
  clear hI9 k9 H8 K8
  rw [show abcS = ⟨#[97, 98, 99]⟩ from rfl]
  go_wp2_with fail
  refine (olist_one H9.out HM8.out.st Ho8.out.1 rfl).mono ?_
  rintro e w10 ⟨⟨a, c, rfl⟩, hI10, k10⟩
  have H10 := Box.mk hI10
  have K10 := Box.mk (K9.out.trans' k10 (by have := Hlt.out; intro i hi h; unfold foot3 at h; omega))
  clear hI10 k10 H9 K9
  go_wp2_with fail
  refine (is_kind 9 9 _).mono ?_
  rintro e w11 ⟨rfl, rfl⟩
  go_wp2_with fail
  refine (is_kind 13 13 _).mono ?_
  rintro e w11 ⟨rfl, rfl⟩
  go_wp2_with fail
  refine (oLen_is H10.out HM8.out.st HM8.out.obj).mono ?_
  rintro e w12 ⟨rfl, hI12, k12⟩
  have H12 := Box.mk hI12
  have K12 := Box.mk (K10.out.trans' k12 (by have := Hlt.out; intro i hi h; unfold foot3 at h; omega))
  clear hI12 k12 H10 K10
  go_wp2_with fail
  refine (oTag_is H12.out HM8.out.st Ho8.out.1).mono ?_
  rintro e w13 ⟨rfl, hI13, k13⟩
  have K13 := Box.mk (K12.out.trans' k13 (by have := Hlt.out; intro i hi h; unfold foot3 at h; omega))
  clear hI13 k13 H12 K12
  go_wp2_with fail
  go_ret
  exact ⟨rfl, K13.out⟩

end Go.Proofs.Ytbjlapfcnldpoaa
