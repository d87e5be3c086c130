/- Objects by contract: makes, field, Field, SetField, Tag, Len. -/
import Derived.Test.YtbjlapfcnldpoaaOP
namespace Go.Proofs.Ytbjlapfcnldpoaa
set_option linter.unusedVariables false
set_option linter.unusedSimpArgs false
open Go.RowKit

theorem makes_ok {p : Addr} (tag n : Int) (w : World) (h1 : 1 ≤ tag) (h2 : tag ≤ 12) (h3 : (tag == 2) = false) (hn : n ≤ 120) :
    Calls Try.prog 87 #[.pointer (some p), .int .i64 tag, .int .i64 n] w fun e w' => e = .returned .nilIface ∧ w' = w := by
  go_enter Try.func87, Try.ntmps87
  go_wp2_with fail
  go_ret
  exact ⟨rfl, rfl⟩
theorem makes_no {p : Addr} (tag n : Int) (w : World) (h : tag < 1 ∨ tag = 2 ∨ 12 < tag ∨ 120 < n) :
    Calls Try.prog 87 #[.pointer (some p), .int .i64 tag, .int .i64 n] w fun e w' => e = .returned (.iface 97 (.int .i64 2)) ∧ w' = w := by
  by_cases h2 : tag = 2
  · have e2 : (tag == 2) = true := by rw [h2]; rfl
    clear h h2
    go_enter Try.func87, Try.ntmps87
    go_wp2_with fail
    go_ret
    exact ⟨rfl, rfl⟩
  · have e2 : (tag == 2) = false := by rw [beq_eq_false_iff_ne]; exact h2
    by_cases h1 : tag < 1
    · clear h h2
      go_enter Try.func87, Try.ntmps87
      go_wp2_with fail
      go_ret
      exact ⟨rfl, rfl⟩
    · by_cases h12 : 12 < tag
      · clear h h2
        go_enter Try.func87, Try.ntmps87
        go_wp2_with fail
        go_ret
        exact ⟨rfl, rfl⟩
      · have hn : 120 < n := by omega
        clear h h2
        go_enter Try.func87, Try.ntmps87
        go_wp2_with fail
        go_ret
        exact ⟨rfl, rfl⟩

section
variable {hb b g : Nat} {s : TH} {L : Nat → Nat → List Nat} {w : World} {u f t n : Nat} {fs : Nat → Nat}
theorem oshape (hI : IsTH w hb b g s) (hs : St s L) (ho : IsObj s L u f t n fs) :
    Calls Try.prog 22 #[.pointer (some ⟨hb, 0, none⟩), .int .u64 ((8 * u + 1 : Nat) : Int)] w fun e w' => e = .returned (.tuple #[.int .i64 (f : Int), .int .i64 (t : Int), .int .i64 (n : Int), .nilIface]) ∧ IsTH w' hb b g s ∧ Keeps (foot3 hb b g) w w' := by
  have := shape_is hI (ho.small hs).2.1 (ho.place hs) (ho.rdh hs)
  rw [ho.f, ho.t, ho.num] at this
  exact this

set_option maxRecDepth 100000 in
theorem ofield_ok (hI : IsTH w hb b g s) (hs : St s L) (ho : IsObj s L u 1 t n fs) {i : Nat} (hi : i < n) :
    Calls Try.prog 88 #[.pointer (some ⟨hb, 0, none⟩), .int .u64 ((8 * u + 1 : Nat) : Int), .int .i64 t, .int .i64 i] w fun e w' => e = .returned .nilIface ∧ IsTH w' hb b g s ∧ Keeps (foot3 hb b g) w w' := by
  have HS := Box.mk (oshape hI hs ho)
  have e1 : ((t : Int) != (t : Int)) = false := by simp
  have hn := ho.le
  clear hI hs ho
  go_enter Try.func88, Try.ntmps88
  go_wp2_with fail
  refine HS.out.mono ?_
  rintro e w1 ⟨rfl, hI1, k1⟩
  have H1 := Box.mk (And.intro hI1 k1)
  clear HS hI1 k1
  go_wp2_with fail
  go_ret
  exact ⟨rfl, H1.out⟩
set_option maxRecDepth 100000 in
theorem ofield_index (hI : IsTH w hb b g s) (hs : St s L) (ho : IsObj s L u 1 t n fs) (i : Int) (hi : i < 0 ∨ (n : Int) ≤ i) :
    Calls Try.prog 88 #[.pointer (some ⟨hb, 0, none⟩), .int .u64 ((8 * u + 1 : Nat) : Int), .int .i64 t, .int .i64 i] w fun e w' => e = .returned (.iface 97 (.int .i64 13)) ∧ IsTH w' hb b g s ∧ Keeps (foot3 hb b g) w w' := by
  have HS := Box.mk (oshape hI hs ho)
  have e1 : ((t : Int) != (t : Int)) = false := by simp
  clear hI hs ho
  by_cases h0 : i < 0
  · clear hi
    go_enter Try.func88, Try.ntmps88
    go_wp2_with fail
    refine HS.out.mono ?_
    rintro e w1 ⟨rfl, hI1, k1⟩
    have H1 := Box.mk (And.intro hI1 k1)
    clear HS hI1 k1
    go_wp2_with fail
    go_ret
    exact ⟨rfl, H1.out⟩
  · have hi2 : (n : Int) ≤ i := by omega
    clear hi
    go_enter Try.func88, Try.ntmps88
    go_wp2_with fail
    refine HS.out.mono ?_
    rintro e w1 ⟨rfl, hI1, k1⟩
    have H1 := Box.mk (And.intro hI1 k1)
    clear HS hI1 k1
    go_wp2_with fail
    go_ret
    exact ⟨rfl, H1.out⟩
set_option maxRecDepth 100000 in
theorem ofield_type (hI : IsTH w hb b g s) (hs : St s L) (ho : IsObj s L u f t n fs) (tg i : Int) (h : f ≠ 1 ∨ (t : Int) ≠ tg) :
    Calls Try.prog 88 #[.pointer (some ⟨hb, 0, none⟩), .int .u64 ((8 * u + 1 : Nat) : Int), .int .i64 tg, .int .i64 i] w fun e w' => e = .returned (.iface 97 (.int .i64 9)) ∧ IsTH w' hb b g s ∧ Keeps (foot3 hb b g) w w' := by
  have HS := Box.mk (oshape hI hs ho)
  clear hI hs ho
  by_cases h1 : f = 1
  · have e1 : ((f : Int) != 1) = false := by rw [h1]; rfl
    have e2 : ((t : Int) != tg) = true := by rw [bne_iff_ne]; exact h.resolve_left (fun e => e h1)
    clear h h1
    go_enter Try.func88, Try.ntmps88
    go_wp2_with fail
    refine HS.out.mono ?_
    rintro e w1 ⟨rfl, hI1, k1⟩
    have H1 := Box.mk (And.intro hI1 k1)
    clear HS hI1 k1
    go_wp2_with fail
    go_ret
    exact ⟨rfl, H1.out⟩
  · have e1 : ((f : Int) != 1) = true := by rw [bne_iff_ne]; omega
    clear h h1
    go_enter Try.func88, Try.ntmps88
    go_wp2_with fail
    refine HS.out.mono ?_
    rintro e w1 ⟨rfl, hI1, k1⟩
    have H1 := Box.mk (And.intro hI1 k1)
    clear HS hI1 k1
    go_wp2_with fail
    go_ret
    exact ⟨rfl, H1.out⟩

set_option maxRecDepth 100000 in
theorem oField_ok (hI : IsTH w hb b g s) (hs : St s L) (ho : IsObj s L u 1 t n fs) {i : Nat} (hi : i < n) :
    Calls Try.prog 46 #[.pointer (some ⟨hb, 0, none⟩), .int .u64 ((8 * u + 1 : Nat) : Int), .int .i64 t, .int .i64 i] w fun e w' => e = .returned (.tuple #[.int .u64 (fs i : Nat), .nilIface]) ∧ IsTH w' hb b g s ∧ Keeps (foot3 hb b g) w w' := by
  have HF := Box.mk (fun (W : World) (hW : IsTH W hb b g s) => ofield_ok hW hs ho hi)
  have HG := Box.mk (fun (W : World) (hW : IsTH W hb b g s) => get_is hW (ho.small hs).2.1 (ho.place hs) (ho.rdh hs) (by rw [ho.num]; exact hi) (by have := (ho.small hs).1; omega) (by rw [ho.f]; decide) ((ho.small hs).2.2 i hi) (ho.fld i hi))
  have H := Box.mk hI
  clear hI hs ho
  go_enter Try.func46, Try.ntmps46
  go_wp2_with fail
  refine (HF.out _ H.out).mono ?_
  rintro e w1 ⟨rfl, hI1, k1⟩
  have H1 := Box.mk hI1
  have K1 := Box.mk k1
  clear H hI1 k1 HF
  go_wp2_with fail
  refine (HG.out _ H1.out).mono ?_
  rintro e w2 ⟨rfl, hI2, k2⟩
  have H2 := Box.mk (And.intro hI2 (K1.out.trans k2))
  clear H1 K1 hI2 k2 HG
  go_wp2_with fail
  go_ret2
  exact ⟨rfl, H2.out⟩
set_option maxRecDepth 100000 in
theorem oField_no {e9 : Int} {tg i : Int} (hf : ∀ W, IsTH W hb b g s → Calls Try.prog 88 #[.pointer (some ⟨hb, 0, none⟩), .int .u64 ((8 * u + 1 : Nat) : Int), .int .i64 tg, .int .i64 i] W fun e w' => e = .returned (.iface 97 (.int .i64 e9)) ∧ IsTH w' hb b g s ∧ Keeps (foot3 hb b g) W w') (hI : IsTH w hb b g s) :
    Calls Try.prog 46 #[.pointer (some ⟨hb, 0, none⟩), .int .u64 ((8 * u + 1 : Nat) : Int), .int .i64 tg, .int .i64 i] w fun e w' => e = .returned (.tuple #[.int .u64 0, .iface 97 (.int .i64 e9)]) ∧ IsTH w' hb b g s ∧ Keeps (foot3 hb b g) w w' := by
  have HF := Box.mk hf
  have H := Box.mk hI
  clear hI hf
  go_enter Try.func46, Try.ntmps46
  go_wp2_with fail
  refine (HF.out _ H.out).mono ?_
  rintro e w1 ⟨rfl, hI1, k1⟩
  have H1 := Box.mk (And.intro hI1 k1)
  clear H hI1 k1 HF
  go_wp2_with fail
  go_ret2
  exact ⟨rfl, H1.out⟩
set_option maxRecDepth 100000 in
theorem oSetField_ok {s' : TH} {x : Nat} (hI : IsTH w hb b g s) (hs : St s L) (ho : IsObj s L u 1 t n fs) {i : Nat} (hi : i < n) (hx : x < 18446744073709551616) (hv : tvalue s x = true) (he : tset s u i x = some s') :
    Calls Try.prog 45 #[.pointer (some ⟨hb, 0, none⟩), .int .u64 ((8 * u + 1 : Nat) : Int), .int .i64 t, .int .i64 i, .int .u64 x] w fun e w' => e = .returned .nilIface ∧ IsTH w' hb b g s' ∧ Keeps (foot3 hb b g) w w' := by
  have HF := Box.mk (fun (W : World) (hW : IsTH W hb b g s) => ofield_ok hW hs ho hi)
  have HG := Box.mk (fun (W : World) (hW : IsTH W hb b g s) => set_is hW (ho.small hs).2.1 (ho.place hs) (ho.rdh hs) (by rw [ho.num]; exact hi) (by have := (ho.small hs).1; omega) hs.rep.now hx he (Or.inl ⟨ho.f, hv⟩))
  have H := Box.mk hI
  clear hI hs ho hx hv he
  go_enter Try.func45, Try.ntmps45
  go_wp2_with fail
  refine (HF.out _ H.out).mono ?_
  rintro e w1 ⟨rfl, hI1, k1⟩
  have H1 := Box.mk hI1
  have K1 := Box.mk k1
  clear H hI1 k1 HF
  go_wp2_with fail
  refine (HG.out _ H1.out).mono ?_
  rintro e w2 ⟨rfl, hI2, k2⟩
  have H2 := Box.mk (And.intro hI2 (K1.out.trans k2))
  clear H1 K1 hI2 k2 HG
  go_wp2_with fail
  go_ret
  exact ⟨rfl, H2.out⟩
set_option maxRecDepth 100000 in
theorem oSetField_no {e9 x : Int} {tg i : Int} (hf : ∀ W, IsTH W hb b g s → Calls Try.prog 88 #[.pointer (some ⟨hb, 0, none⟩), .int .u64 ((8 * u + 1 : Nat) : Int), .int .i64 tg, .int .i64 i] W fun e w' => e = .returned (.iface 97 (.int .i64 e9)) ∧ IsTH w' hb b g s ∧ Keeps (foot3 hb b g) W w') (hI : IsTH w hb b g s) :
    Calls Try.prog 45 #[.pointer (some ⟨hb, 0, none⟩), .int .u64 ((8 * u + 1 : Nat) : Int), .int .i64 tg, .int .i64 i, .int .u64 x] w fun e w' => e = .returned (.iface 97 (.int .i64 e9)) ∧ IsTH w' hb b g s ∧ Keeps (foot3 hb b g) w w' := by
  have HF := Box.mk hf
  have H := Box.mk hI
  clear hI hf
  go_enter Try.func45, Try.ntmps45
  go_wp2_with fail
  refine (HF.out _ H.out).mono ?_
  rintro e w1 ⟨rfl, hI1, k1⟩
  have H1 := Box.mk (And.intro hI1 k1)
  clear H hI1 k1 HF
  go_wp2_with fail
  go_ret
  exact ⟨rfl, H1.out⟩
theorem oTag_is (hI : IsTH w hb b g s) (hs : St s L) (ho : IsObj s L u f t n fs) :
    Calls Try.prog 47 #[.pointer (some ⟨hb, 0, none⟩), .int .u64 ((8 * u + 1 : Nat) : Int)] w fun e w' => e = .returned (.int .i64 t) ∧ IsTH w' hb b g s ∧ Keeps (foot3 hb b g) w w' := by
  have HS := Box.mk (oshape hI hs ho)
  clear hI hs ho
  go_enter Try.func47, Try.ntmps47
  go_wp2_with fail
  refine HS.out.mono ?_
  rintro e w1 ⟨rfl, hI1, k1⟩
  have H1 := Box.mk (And.intro hI1 k1)
  clear HS hI1 k1
  go_wp2_with fail
  go_ret
  exact ⟨rfl, H1.out⟩
theorem oLen_is (hI : IsTH w hb b g s) (hs : St s L) (ho : IsObj s L u f t n fs) :
    Calls Try.prog 48 #[.pointer (some ⟨hb, 0, none⟩), .int .u64 ((8 * u + 1 : Nat) : Int)] w fun e w' => e = .returned (.int .i64 n) ∧ IsTH w' hb b g s ∧ Keeps (foot3 hb b g) w w' := by
  have HS := Box.mk (oshape hI hs ho)
  clear hI hs ho
  go_enter Try.func48, Try.ntmps48
  go_wp2_with fail
  refine HS.out.mono ?_
  rintro e w1 ⟨rfl, hI1, k1⟩
  have H1 := Box.mk (And.intro hI1 k1)
  clear HS hI1 k1
  go_wp2_with fail
  go_ret
  exact ⟨rfl, H1.out⟩
end

end Go.Proofs.Ytbjlapfcnldpoaa
