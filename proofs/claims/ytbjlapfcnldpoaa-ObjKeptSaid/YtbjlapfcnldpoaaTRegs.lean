/- The heap's registers, sizes and shapes by contracts: Class, register, Root, SetRoot, Value, Free, Shape. -/
import Derived.Test.YtbjlapfcnldpoaaTIncr
namespace Go.Proofs.Ytbjlapfcnldpoaa
set_option linter.unusedVariables false
set_option linter.unusedSimpArgs false
open Go.RowKit

theorem szAt (k : Nat) (hk : k < 4) (w : World) : (Instr.index 28 (.agg #[.int .i64 3, .int .i64 7, .int .i64 31, .int .i64 127]) (.int .i64 k)).run Try.prog w = .ok (.int .i64 (szs k : Nat)) w := by
  have : k = 0 ∨ k = 1 ∨ k = 2 ∨ k = 3 := by omega
  rcases this with rfl | rfl | rfl | rfl
  · exact szAt0 w
  · exact szAt1 w
  · exact szAt2 w
  · exact szAt3 w

/-- How many of the first k sizes are too small for n fields. -/
def cnt (n : Nat) : Nat → Nat
  | 0 => 0
  | k + 1 => cnt n k + if szs k < n then 1 else 0
theorem cnt_cls (n : Nat) (hn : n ≤ 127) : cnt n 4 = tcls n := by
  have h : ∀ n : Fin 128, cnt n.1 4 = tcls n.1 := by decide +kernel
  exact h ⟨n, by omega⟩
theorem cnt_le (n k : Nat) : cnt n k ≤ k := by
  induction k with
  | zero => exact Nat.le_refl _
  | succ k ih => unfold cnt; split <;> omega

set_option maxRecDepth 100000 in
theorem cls_is (n : Nat) (w : World) (hn : n ≤ 127) :
    Calls Try.prog 60 #[.int .i64 n] w fun e w' => e = .returned (.int .i64 (tcls n : Nat)) ∧ Keeps (fun _ => False) w w' := by
  rw [← cnt_cls n hn]
  go_enter Try.func60, Try.ntmps60
  go_wp2_with fail
  refine (sizes_is _).mono ?_
  rintro e w1 ⟨rfl, k1⟩
  have K1 := Box.mk k1
  clear k1
  go_wp2_with fail
  go_loop [3, 13] (fun c i => ∃ k x : Nat, k ≤ 4 ∧ i = .int .i64 k ∧ c = .int .i64 x ∧ x ≤ 4 ∧ Box (cnt n k = x)) (fun _ i => 4 - (intOf i).toNat)
  case atStart => exact ⟨0, 0, Nat.zero_le _, rfl, rfl, by omega, ⟨rfl⟩⟩
  case round =>
    obtain ⟨k, x, hk, rfl, rfl, hx, HX⟩ := hrel
    by_cases hk4 : k < 4
    · have hix := szAt k hk4 w1
      have hx3 : x ≤ 3 := by have := cnt_le n k; rw [HX.out] at this; omega
      obtain ⟨m, hm⟩ : ∃ m, szs k = m := ⟨_, rfl⟩
      rw [hm] at hix
      have HM := Box.mk hm
      clear hm
      by_cases hlt : m < n
      · have HN : Box (cnt n (k + 1) = x + 1) := ⟨by simp only [cnt]; rw [HX.out, HM.out, if_pos hlt]⟩
        go_wp2_with fail
        go_round
        case rel => exact ⟨k + 1, x + 1, by omega, by go_num, by go_num, by omega, HN⟩
        case measure => simp [intOf]; omega
      · have HN : Box (cnt n (k + 1) = x) := ⟨by simp only [cnt]; rw [HX.out, HM.out, if_neg hlt]; omega⟩
        go_wp2_with fail
        go_round
        case rel => exact ⟨k + 1, x, by omega, by go_num, rfl, by omega, HN⟩
        case measure => simp [intOf]; omega
    · have hk5 : ¬ ((k : Int) < 4) := by omega
      have H4 : Box (k = 4) := ⟨by omega⟩
      clear hk4
      go_wp2_with fail
      go_ret
      exact ⟨by have h5 := HX.out; rw [H4.out] at h5; rw [h5]; rfl, K1.out⟩

theorem cls_no (n : Int) (w : World) (hn : n < 0 ∨ 127 < n) :
    Calls Try.prog 60 #[.int .i64 n] w fun e w' => e = .returned (.int .i64 (-1)) ∧ w' = w := by
  rcases hn with h | h
  · go_enter Try.func60, Try.ntmps60
    go_wp2_with fail
    go_ret
    exact ⟨rfl, rfl⟩
  · go_enter Try.func60, Try.ntmps60
    go_wp2_with fail
    go_ret
    exact ⟨rfl, rfl⟩

theorem register_ok (i : Int) (p : Addr) (w : World) (h : 0 ≤ i) (h2 : i < 12) :
    Calls Try.prog 62 #[.pointer (some p), .int .i64 i] w fun e w' => e = .returned .nilIface ∧ w' = w := by
  go_enter Try.func62, Try.ntmps62
  go_wp2_with fail
  go_ret
  exact ⟨rfl, rfl⟩
theorem register_no (i : Int) (p : Addr) (w : World) (h : i < 0 ∨ 12 ≤ i) :
    Calls Try.prog 62 #[.pointer (some p), .int .i64 i] w fun e w' => e = .returned (.iface 97 (.int .i64 3)) ∧ w' = w := by
  rcases h with h | h
  · go_enter Try.func62, Try.ntmps62
    go_wp2_with fail
    go_ret
    exact ⟨rfl, rfl⟩
  · go_enter Try.func62, Try.ntmps62
    go_wp2_with fail
    go_ret
    exact ⟨rfl, rfl⟩
theorem register_nil (i : Int) (w : World) :
    Calls Try.prog 62 #[.pointer none, .int .i64 i] w fun e w' => e = .returned (.iface 97 (.int .i64 1)) ∧ w' = w := by
  go_enter Try.func62, Try.ntmps62
  go_wp2_with fail
  go_ret
  exact ⟨rfl, rfl⟩

theorem root_is {hb b g i : Nat} {s : TH} {w : World} (hI : IsTH w hb b g s) (hi : i < 12) :
    Calls Try.prog 20 #[.pointer (some ⟨hb, 0, none⟩), .int .i64 i] w fun e w' => e = .returned (.tuple #[.int .u64 (s.roots.getD i 0 : Nat), .nilIface]) ∧ w' = w := by
  have hc := hI.roots hi
  clear hI
  go_enter Try.func20, Try.ntmps20
  go_wp2_with fail
  refine (register_ok _ _ _ (by omega) (by omega)).mono ?_
  rintro e w' ⟨rfl, rfl⟩
  go_wp2_with fail
  go_ret2
  exact ⟨rfl, rfl⟩
theorem root_nil (i : Int) (w : World) :
    Calls Try.prog 20 #[.pointer none, .int .i64 i] w fun e w' => e = .returned (.tuple #[.int .u64 0, .iface 97 (.int .i64 1)]) ∧ w' = w := by
  go_enter Try.func20, Try.ntmps20
  go_wp2_with fail
  refine (register_nil _ _).mono ?_
  rintro e w' ⟨rfl, rfl⟩
  go_wp2_with fail
  go_ret2
  exact ⟨rfl, rfl⟩

/-- May a word stand where values do? -/
def tvalue (s : TH) (x : Nat) : Bool := (tplace s x).isSome || !tcell x

theorem wkind_ne2 {x : Nat} (hx : x < 18446744073709551616) (h : tcell x = false) : (wkind (x : Int) != 2) = true := by
  rw [bne_iff_ne]
  intro e
  have := (wkind_cell x hx).1.1 e
  rw [h] at this
  cases this
theorem wkind_eq2 {x : Nat} (hx : x < 18446744073709551616) (h : tcell x = true) : (wkind (x : Int) != 2) = false := by
  rw [bne_eq_false_iff_eq]
  exact (wkind_cell x hx).1.2 h
theorem isWd_nat {x : Nat} (hx : x < 18446744073709551616) : IsWd (x : Int) := by unfold IsWd; omega

set_option maxRecDepth 100000 in
theorem value_is {hb b g x : Nat} {s : TH} {w : World} (hI : IsTH w hb b g s) (hx : x < 18446744073709551616) :
    Calls Try.prog 63 #[.pointer (some ⟨hb, 0, none⟩), .int .u64 x] w fun e w' => e = .returned (.bool (tvalue s x)) ∧ Keeps (fun _ => False) w w' := by
  have H := Box.mk hI
  have Hx := Box.mk hx
  have Hk := Box.mk (wkind_is (x : Int) · (isWd_nat hx))
  clear hI hx
  obtain ⟨v, hv⟩ : ∃ v, tvalue s x = v := ⟨_, rfl⟩
  rw [hv]
  have HV := Box.mk hv
  clear hv
  go_enter Try.func63, Try.ntmps63
  go_wp2_with fail
  refine (place_is x H.out Hx.out).mono ?_
  rintro e w1 ⟨⟨p, c, ok, rfl, hok, -⟩, k1⟩
  have HO := Box.mk hok
  have K1 := Box.mk k1
  clear hok k1
  cases ok with
  | true =>
    have hvt : v = true := by rw [← HV.out]; unfold tvalue; rw [← HO.out]; rfl
    subst hvt
    go_wp2_with fail
    go_ret
    exact ⟨rfl, K1.out⟩
  | false =>
    cases htc : tcell x with
    | true =>
      have hvt : v = false := by rw [← HV.out]; unfold tvalue; rw [← HO.out, htc]; rfl
      subst hvt
      have hk2 := wkind_eq2 Hx.out htc
      clear htc
      go_wp2_with fail
      refine (Hk.out _).mono ?_
      rintro e w' ⟨rfl, rfl⟩
      go_wp2_with fail
      go_ret
      exact ⟨rfl, K1.out⟩
    | false =>
      have hvt : v = true := by rw [← HV.out]; unfold tvalue; rw [htc]; simp
      subst hvt
      have hk2 := wkind_ne2 Hx.out htc
      clear htc
      go_wp2_with fail
      refine (Hk.out _).mono ?_
      rintro e w' ⟨rfl, rfl⟩
      go_wp2_with fail
      go_ret
      exact ⟨rfl, K1.out⟩

set_option maxRecDepth 100000 in
theorem setroot_is {hb b g i x : Nat} {s : TH} {w : World} (hI : IsTH w hb b g s) (hi : i < 12) (hx : x < 18446744073709551616) (hv : tvalue s x = true) :
    Calls Try.prog 17 #[.pointer (some ⟨hb, 0, none⟩), .int .i64 i, .int .u64 x] w fun e w' => e = .returned .nilIface ∧ IsTH w' hb b g (setRoot s i x) ∧ Keeps (foot3 hb b g) w w' := by
  have H := Box.mk hI
  have Hv := Box.mk (And.intro hx hv)
  clear hI hx hv
  go_enter Try.func17, Try.ntmps17
  go_wp2_with fail
  refine (register_ok _ _ _ (by omega) (by omega)).mono ?_
  rintro e w' ⟨rfl, rfl⟩
  go_wp2_with fail
  refine (value_is H.out Hv.out.1).mono ?_
  rw [Hv.out.2]
  rintro e w1 ⟨rfl, k1⟩
  have H1 := Box.mk (H.out.keeps0 k1)
  have K1 := Box.mk (k1.mono (S' := foot3 hb b g) (fun _ _ h => h.elim))
  clear k1
  have hc := H1.out.roots hi
  have hf := H1.out.frozen (26 + i)
  have HP := Box.mk (H1.out.putRoot hi x)
  have KP := Box.mk (K1.out.setCell (p := ⟨hb, 26 + i, none⟩) (fun _ => Or.inl rfl) (.int .u64 (x : Int)))
  clear H H1 K1
  go_wp2_with fail
  go_ret
  exact ⟨rfl, HP.out, KP.out⟩
theorem setroot_range {hb b g : Nat} (i x : Int) {s : TH} {w : World} (hI : IsTH w hb b g s) (hi : i < 0 ∨ 12 ≤ i) :
    Calls Try.prog 17 #[.pointer (some ⟨hb, 0, none⟩), .int .i64 i, .int .u64 x] w fun e w' => e = .returned (.iface 97 (.int .i64 3)) ∧ w' = w := by
  clear hI
  have Hi := Box.mk hi
  clear hi
  go_enter Try.func17, Try.ntmps17
  go_wp2_with fail
  refine (register_no _ _ _ Hi.out).mono ?_
  rintro e w' ⟨rfl, rfl⟩
  go_wp2_with fail
  go_ret
  exact ⟨rfl, rfl⟩
theorem setroot_nil (i x : Int) {w : World} :
    Calls Try.prog 17 #[.pointer none, .int .i64 i, .int .u64 x] w fun e w' => e = .returned (.iface 97 (.int .i64 1)) ∧ w' = w := by
  go_enter Try.func17, Try.ntmps17
  go_wp2_with fail
  refine (register_nil _ _).mono ?_
  rintro e w' ⟨rfl, rfl⟩
  go_wp2_with fail
  go_ret
  exact ⟨rfl, rfl⟩

theorem free_is {hb b g c : Nat} {s : TH} {w : World} (hI : IsTH w hb b g s) (hc : c < 4) :
    Calls Try.prog 36 #[.pointer (some ⟨hb, 0, none⟩), .int .i64 c] w fun e w' => e = .returned (.int .i64 (lget s c 0 : Nat)) ∧ w' = w := by
  have hcell := hI.lists (i := 4 * c + 0) (by omega)
  rw [show 10 + (4 * c + 0) = 10 + c * 4 by omega] at hcell
  unfold lget
  clear hI
  go_enter Try.func36, Try.ntmps36
  go_wp2_with fail
  go_ret
  exact ⟨rfl, rfl⟩
theorem free_nil (c : Int) {w : World} :
    Calls Try.prog 36 #[.pointer none, .int .i64 c] w fun e w' => e = .returned (.int .i64 0) ∧ w' = w := by
  go_enter Try.func36, Try.ntmps36
  go_wp2_with fail
  go_ret
  exact ⟨rfl, rfl⟩

theorem shape_nil (x : Int) (w : World) :
    Calls Try.prog 22 #[.pointer none, .int .u64 x] w fun e w' => e = .returned (.tuple #[.int .i64 0, .int .i64 0, .int .i64 0, .iface 97 (.int .i64 1)]) ∧ w' = w := by
  go_enter Try.func22, Try.ntmps22
  go_wp2_with fail
  exact bodyPost_ret (v := .tuple #[.int .i64 0, .int .i64 0, .int .i64 0, .iface 97 (.int .i64 1)]) (by simp [results, Try.results22, go_sem]) rfl ⟨rfl, rfl⟩
set_option maxRecDepth 100000 in
theorem shape_no {hb b g x : Nat} {s : TH} {w : World} (hI : IsTH w hb b g s) (hx : x < 18446744073709551616) (hp : tplace s x = none) :
    Calls Try.prog 22 #[.pointer (some ⟨hb, 0, none⟩), .int .u64 x] w fun e w' => e = .returned (.tuple #[.int .i64 0, .int .i64 0, .int .i64 0, .iface 97 (.int .i64 2)]) ∧ Keeps (fun _ => False) w w' := by
  have H := Box.mk (And.intro hI (And.intro hx hp))
  clear hI hx hp
  go_enter Try.func22, Try.ntmps22
  go_wp2_with fail
  refine (place_is x H.out.1 H.out.2.1).mono ?_
  rintro e w1 ⟨⟨p, c, ok, rfl, hok, -⟩, k1⟩
  rw [H.out.2.2] at hok
  subst hok
  have K1 := Box.mk k1
  clear k1 H
  simp only [Option.isSome_none]
  go_wp2_with fail
  exact bodyPost_ret (v := .tuple #[.int .i64 0, .int .i64 0, .int .i64 0, .iface 97 (.int .i64 2)]) (by simp [results, Try.results22, go_sem]) rfl ⟨rfl, K1.out⟩
set_option maxRecDepth 100000 in
theorem shape_is {hb b g x q k h : Nat} {s : TH} {w : World} (hI : IsTH w hb b g s) (hx : x < 18446744073709551616) (hp : tplace s x = some (q, k)) (hr : rdh s.W q = some h) :
    Calls Try.prog 22 #[.pointer (some ⟨hb, 0, none⟩), .int .u64 x] w fun e w' => e = .returned (.tuple #[.int .i64 (hform h : Nat), .int .i64 (htag h : Nat), .int .i64 (hn h : Nat), .nilIface]) ∧ IsTH w' hb b g s ∧ Keeps (foot3 hb b g) w w' := by
  have H := Box.mk (And.intro hI (And.intro hx hp))
  have HR := Box.mk hr
  obtain ⟨vf, hvf⟩ : ∃ vf, hform h = vf := ⟨_, rfl⟩
  obtain ⟨vt, hvt⟩ : ∃ vt, htag h = vt := ⟨_, rfl⟩
  obtain ⟨vm, hvm⟩ : ∃ vm, hmark h = vm := ⟨_, rfl⟩
  obtain ⟨vn, hvn⟩ : ∃ vn, hn h = vn := ⟨_, rfl⟩
  have Hat : Box (∀ W, IsTH W hb b g s → Calls Try.prog 77 #[.pointer (some ⟨hb, 0, none⟩), .int .i64 q] W fun e w' => e = .returned (.agg #[.int .i64 (vf : Int), .int .i64 (vt : Int), .int .i64 (vm : Int), .int .i64 (vn : Int)]) ∧ IsTH w' hb b g s ∧ Keeps (foot3 hb b g) W w') := ⟨fun W hW => by
    have := at_is q hW hr
    rw [hvf, hvt, hvm, hvn] at this
    exact this⟩
  rw [hvf, hvt, hvn]
  clear hI hx hp hr hvf hvt hvm hvn HR
  go_enter Try.func22, Try.ntmps22
  go_wp2_with fail
  refine (place_is x H.out.1 H.out.2.1).mono ?_
  rintro e w1 ⟨⟨p, c, ok, rfl, hok, hpc⟩, k1⟩
  obtain ⟨rfl, rfl⟩ := hpc _ _ H.out.2.2
  rw [H.out.2.2] at hok
  subst hok
  have H1 := Box.mk (H.out.1.keeps0 k1)
  have K1 := Box.mk (k1.mono (S' := foot3 hb b g) (fun _ _ h => h.elim))
  clear k1 H hpc
  simp only [Option.isSome_some]
  go_wp2_with fail
  refine (Hat.out _ H1.out).mono ?_
  rintro e w2 ⟨rfl, hI2, k2⟩
  have H2 := Box.mk (hI2.keeps0 ((Keeps.refl (fun _ => False) w2).alloc (.cells #[.int .i64 (vf : Int), .int .i64 (vt : Int), .int .i64 (vm : Int), .int .i64 (vn : Int)] 110)))
  have K2 := Box.mk ((K1.out.trans k2).alloc (.cells #[.int .i64 (vf : Int), .int .i64 (vt : Int), .int .i64 (vm : Int), .int .i64 (vn : Int)] 110))
  clear hI2 k2 H1 K1
  go_wp2_with fail
  go_quiet (fail)
  go_wp2_with fail
  exact bodyPost_ret (v := .tuple #[.int .i64 (vf : Int), .int .i64 (vt : Int), .int .i64 (vn : Int), .nilIface]) (by simp [results, Try.results22, go_sem]) rfl ⟨rfl, H2.out.keeps0 ((Keeps.refl (fun _ => False) _).drewN _), K2.out.drewN _⟩

end Go.Proofs.Ytbjlapfcnldpoaa
