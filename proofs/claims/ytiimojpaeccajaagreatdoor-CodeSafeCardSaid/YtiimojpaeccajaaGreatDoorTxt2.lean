/- code.text by its contract. -/
import Derived.Test.YtiimojpaeccajaaGreatDoorTxt
namespace Go.Proofs.YtiimojpaeccajaaGreatDoor
set_option linter.unusedVariables false
set_option linter.unusedSimpArgs false
open Go.RowKit Go.Proofs.YtiimojpaeccajaaGreatDoorW.PrintWords Go.Proofs.YtiimojpaeccajaaGreatDoorW.PrintLast Go.Proofs.YtiimojpaeccajaaGreatDoorW.PrintMore

abbrev numB (n : Int) : ByteArray := ⟨(numL n).toArray⟩
/-- What stands behind an instruction's word; T: its datum's text. -/
def insT (x : Ins) (T : ByteArray) : ByteArray :=
  if x.f0 = 1 then (if x.f4.f0 = 0 then (if x.f4.f1 = 0 then ⟨#[32, 35, 118, 111, 105, 100]⟩ else ⟨#[32, 35, 117, 110, 100, 101, 102]⟩) else ⟨#[32]⟩ ++ T)
  else if x.f0 = 2 ∨ x.f0 = 4 ∨ x.f0 = 9 then ⟨#[32]⟩ ++ numB x.f1 ++ ⟨#[32]⟩ ++ numB x.f2
  else if x.f0 = 3 ∨ x.f0 = 5 ∨ x.f0 = 6 then ⟨#[32]⟩ ++ x.f3
  else if x.f0 = 11 ∨ x.f0 = 14 then ⟨#[]⟩
  else ⟨#[32]⟩ ++ numB x.f1
/-- The datum's text can be made. -/
def WrOk (w : World) (x : Dat) (T : ByteArray) : Prop := ∀ (w' : World) (v : Value), Below w.heap.size w w' → VD w' v x → Calls Tryz.prog 75 #[v] w' fun e w'' => e = .returned (.tuple #[.string T, .nilIface]) ∧ Below w'.heap.size w' w''
/-- All that an instruction's text asks. -/
structure TxOk (w : World) (x : Ins) (T : ByteArray) : Prop where
  a : NumOk w x.f1
  b : NumOk w x.f2
  t : x.f0 = 1 → x.f4.f0 ≠ 0 → WrOk w x.f4 T
  sz : (numL x.f1).length ≤ 1000 ∧ (numL x.f2).length ≤ 1000 ∧ x.f3.size ≤ 1000 ∧ T.size ≤ 1000000
theorem cat_is (a b : ByteArray) (ha : a.size ≤ 100000000) (hb : b.size ≤ 100000000) (W : World) : (Op.stringOp .add a b).run Tryz.prog W = .ok (.string (a ++ b)) W := run_string_add_sum W a b (by omega)
theorem numB_size (n : Int) : (numB n).size = (numL n).length := by simp [ByteArray.size]
theorem WrOk.below {w w' : World} {x : Dat} {T : ByteArray} (h : WrOk w x T) (k : Below w.heap.size w w') : WrOk w' x T :=
  fun w2 v k2 hv => h w2 v (k.trans (k2.mono k.size)) hv
theorem TxOk.below {w w' : World} {x : Ins} {T : ByteArray} (h : TxOk w x T) (k : Below w.heap.size w w') : TxOk w' x T := ⟨h.a.below k, h.b.below k, fun h1 h2 => (h.t h1 h2).below k, h.sz⟩
theorem voidix0 (w : World) : (Instr.index 111 (.agg #[.string ⟨#[32, 35, 118, 111, 105, 100]⟩, .string ⟨#[32, 35, 117, 110, 100, 101, 102]⟩]) (.int .i64 0)).run Tryz.prog w = .ok (.string ⟨#[32, 35, 118, 111, 105, 100]⟩) w := by kernel_rfl
theorem voidix1 (w : World) : (Instr.index 111 (.agg #[.string ⟨#[32, 35, 118, 111, 105, 100]⟩, .string ⟨#[32, 35, 117, 110, 100, 101, 102]⟩]) (.int .i64 1)).run Tryz.prog w = .ok (.string ⟨#[32, 35, 117, 110, 100, 101, 102]⟩) w := by kernel_rfl

set_option maxHeartbeats 2000000 in
set_option maxRecDepth 100000 in
theorem text_1 (x : Ins) (T : ByteArray) (w : World) (b o : Nat) (hI : IsI w b o x) (hT : TxOk w x T) (hk : x.f0 = 1) (hb : x.f4.f0 = 0 → x.f4.f1 = 0 ∨ x.f4.f1 = 1) :
    Calls Tryz.prog 45 #[.pointer (some ⟨b, o, none⟩)] w fun e w' => e = .returned (.string (insT x T)) ∧ Below w.heap.size w w' := by
  obtain ⟨h0, h1, h2, h3⟩ := hI.ex
  unfold insT
  rw [hk] at h0 ⊢
  rw [if_pos (show (1 : Int) = 1 by decide)]
  obtain ⟨A, c, d0, d1, d2, d3, d4, d5⟩ := hI.dat.ex
  by_cases hd : x.f4.f0 = 0
  · rw [if_pos hd]
    rw [hd] at d0
    have hv0 := voidix0
    have hv1 := voidix1
    rcases hb hd with hz | hz
    · rw [hz] at d1
      rw [if_pos hz]
      clear hI hT hk hb d5
      go_enter Tryz.func45, Tryz.ntmps45
      go_wp2_with fail
      go_ret
      exact ⟨rfl, Below.refl _ _⟩
    · rw [hz] at d1
      rw [if_neg (by rw [hz]; decide)]
      clear hI hT hk hb d5
      go_enter Tryz.func45, Tryz.ntmps45
      go_wp2_with fail
      go_ret
      exact ⟨rfl, Below.refl _ _⟩
  · rw [if_neg hd]
    have hcat := cat_is ⟨#[32]⟩ T (by decide) (by have := hT.sz.2.2.2; omega)
    have HW := Box.mk (hT.t hk hd w (.agg #[.int .i64 x.f4.f0, .int .i64 x.f4.f1, .string x.f4.f2, .slice A x.f4.f3.length c]) (Below.refl _ w) ⟨A, c, rfl, d4, d5⟩)
    obtain ⟨z, hz⟩ : ∃ z, x.f4.f0 = z := ⟨_, rfl⟩
    rw [hz] at d0 hd HW
    have hzb : (z == 0) = false := by simpa using hd
    clear hI hT hk hb d5 hz hd
    go_enter Tryz.func45, Tryz.ntmps45
    go_wp2_with fail
    refine HW.out.mono ?_
    rintro e w2 ⟨rfl, k2⟩
    go_wp2_with fail
    go_ret
    exact ⟨rfl, k2⟩

set_option maxHeartbeats 2000000 in
set_option maxRecDepth 100000 in
theorem text_2 (x : Ins) (T : ByteArray) (w : World) (b o : Nat) (hI : IsI w b o x) (hT : TxOk w x T) (hk : x.f0 = 2) (hb : True) :
    Calls Tryz.prog 45 #[.pointer (some ⟨b, o, none⟩)] w fun e w' => e = .returned (.string (insT x T)) ∧ Below w.heap.size w w' := by
  obtain ⟨h0, h1, h2, h3⟩ := hI.ex
  unfold insT
  rw [hk] at h0 ⊢
  rw [if_neg (show ¬ ((2 : Int) = 1) by decide), if_pos (show (2 : Int) = 2 ∨ (2 : Int) = 4 ∨ (2 : Int) = 9 by decide)]
  have HA := Box.mk (fixText_is x.f1 w.drew (hT.a.below (show Below w.heap.size w w.drew from Below.drew (Below.refl _ w))))
  have HB := Box.mk (fun (W : World) (hW : Below w.heap.size w W) => fixText_is x.f2 W (hT.b.below hW))
  obtain ⟨p, hp⟩ : ∃ p, x.f1 = p := ⟨_, rfl⟩
  obtain ⟨q, hq⟩ : ∃ q, x.f2 = q := ⟨_, rfl⟩
  have hs1 : (numL p).length ≤ 1000 := by rw [← hp]; exact hT.sz.1
  have hs2 : (numL q).length ≤ 1000 := by rw [← hq]; exact hT.sz.2.1
  have hcat1 := cat_is ⟨#[32]⟩ (numB p) (by decide) (by rw [numB_size]; omega)
  have hcat2 := cat_is (⟨#[32]⟩ ++ numB p) ⟨#[32]⟩ (by rw [ByteArray.size_append, numB_size]; show 1 + _ ≤ _; omega) (by decide)
  have hcat3 := cat_is (⟨#[32]⟩ ++ numB p ++ ⟨#[32]⟩) (numB q) (by rw [ByteArray.size_append, ByteArray.size_append, numB_size]; show 1 + _ + 1 ≤ _; omega) (by rw [numB_size]; omega)
  obtain ⟨np, hnp⟩ : ∃ np, numB p = np := ⟨_, rfl⟩
  obtain ⟨nq, hnq⟩ : ∃ nq, numB q = nq := ⟨_, rfl⟩
  unfold numB at hnp hnq
  rw [hp] at h1 HA ⊢
  rw [hq] at h2 HB ⊢
  unfold numB at hcat1 hcat2 hcat3 ⊢
  simp only [hnp] at HA hcat1 hcat2 hcat3 ⊢
  simp only [hnq] at HB hcat3 ⊢
  clear hnp hnq
  clear hI hT hk hb h3 hp hq
  go_enter Tryz.func45, Tryz.ntmps45
  go_wp2_with fail
  go_region_held3 (fun w' => w'.cell? ⟨b, o + 1, none⟩ = some (.int .i64 p) ∧ w'.cell? ⟨b, o + 2, none⟩ = some (.int .i64 q)) (first | exact ⟨h1, h2⟩ | exact ⟨cell_below h1 kj, cell_below h2 kj⟩ | exact ⟨cell_below h1 k5, cell_below h2 k5⟩ | go_keep) (first | (go_at_call 43; refine HA.out.mono ?_; rintro e w3 ⟨rfl, k3⟩; have kj : Below w.heap.size w w3 := Below.trans (Below.drew (Below.refl _ w)) k3) | (go_at_call 43; refine (HB.out _ kj).mono ?_; rintro e w4 ⟨rfl, k4⟩; have k5 : Below w.heap.size w w4 := kj.trans (k4.mono kj.size)))
  go_wp2_with fail
  go_ret
  exact ⟨rfl, k5⟩

set_option maxHeartbeats 2000000 in
set_option maxRecDepth 100000 in
theorem text_3 (x : Ins) (T : ByteArray) (w : World) (b o : Nat) (hI : IsI w b o x) (hT : TxOk w x T) (hk : x.f0 = 3) (hb : True) :
    Calls Tryz.prog 45 #[.pointer (some ⟨b, o, none⟩)] w fun e w' => e = .returned (.string (insT x T)) ∧ Below w.heap.size w w' := by
  obtain ⟨h0, h1, h2, h3⟩ := hI.ex
  unfold insT
  rw [hk] at h0 ⊢
  rw [if_neg (show ¬ ((3 : Int) = 1) by decide), if_neg (show ¬ ((3 : Int) = 2 ∨ (3 : Int) = 4 ∨ (3 : Int) = 9) by decide), if_pos (show (3 : Int) = 3 ∨ (3 : Int) = 5 ∨ (3 : Int) = 6 by decide)]
  have hcat := cat_is ⟨#[32]⟩ x.f3 (by decide) (by have := hT.sz.2.2.1; omega)
  clear hI hT hk hb
  go_enter Tryz.func45, Tryz.ntmps45
  go_wp2_with fail
  go_ret
  exact ⟨rfl, Below.refl _ _⟩

set_option maxHeartbeats 2000000 in
set_option maxRecDepth 100000 in
theorem text_4 (x : Ins) (T : ByteArray) (w : World) (b o : Nat) (hI : IsI w b o x) (hT : TxOk w x T) (hk : x.f0 = 4) (hb : True) :
    Calls Tryz.prog 45 #[.pointer (some ⟨b, o, none⟩)] w fun e w' => e = .returned (.string (insT x T)) ∧ Below w.heap.size w w' := by
  obtain ⟨h0, h1, h2, h3⟩ := hI.ex
  unfold insT
  rw [hk] at h0 ⊢
  rw [if_neg (show ¬ ((4 : Int) = 1) by decide), if_pos (show (4 : Int) = 2 ∨ (4 : Int) = 4 ∨ (4 : Int) = 9 by decide)]
  have HA := Box.mk (fixText_is x.f1 w.drew (hT.a.below (show Below w.heap.size w w.drew from Below.drew (Below.refl _ w))))
  have HB := Box.mk (fun (W : World) (hW : Below w.heap.size w W) => fixText_is x.f2 W (hT.b.below hW))
  obtain ⟨p, hp⟩ : ∃ p, x.f1 = p := ⟨_, rfl⟩
  obtain ⟨q, hq⟩ : ∃ q, x.f2 = q := ⟨_, rfl⟩
  have hs1 : (numL p).length ≤ 1000 := by rw [← hp]; exact hT.sz.1
  have hs2 : (numL q).length ≤ 1000 := by rw [← hq]; exact hT.sz.2.1
  have hcat1 := cat_is ⟨#[32]⟩ (numB p) (by decide) (by rw [numB_size]; omega)
  have hcat2 := cat_is (⟨#[32]⟩ ++ numB p) ⟨#[32]⟩ (by rw [ByteArray.size_append, numB_size]; show 1 + _ ≤ _; omega) (by decide)
  have hcat3 := cat_is (⟨#[32]⟩ ++ numB p ++ ⟨#[32]⟩) (numB q) (by rw [ByteArray.size_append, ByteArray.size_append, numB_size]; show 1 + _ + 1 ≤ _; omega) (by rw [numB_size]; omega)
  obtain ⟨np, hnp⟩ : ∃ np, numB p = np := ⟨_, rfl⟩
  obtain ⟨nq, hnq⟩ : ∃ nq, numB q = nq := ⟨_, rfl⟩
  unfold numB at hnp hnq
  rw [hp] at h1 HA ⊢
  rw [hq] at h2 HB ⊢
  unfold numB at hcat1 hcat2 hcat3 ⊢
  simp only [hnp] at HA hcat1 hcat2 hcat3 ⊢
  simp only [hnq] at HB hcat3 ⊢
  clear hnp hnq
  clear hI hT hk hb h3 hp hq
  go_enter Tryz.func45, Tryz.ntmps45
  go_wp2_with fail
  go_region_held3 (fun w' => w'.cell? ⟨b, o + 1, none⟩ = some (.int .i64 p) ∧ w'.cell? ⟨b, o + 2, none⟩ = some (.int .i64 q)) (first | exact ⟨h1, h2⟩ | exact ⟨cell_below h1 kj, cell_below h2 kj⟩ | exact ⟨cell_below h1 k5, cell_below h2 k5⟩ | go_keep) (first | (go_at_call 43; refine HA.out.mono ?_; rintro e w3 ⟨rfl, k3⟩; have kj : Below w.heap.size w w3 := Below.trans (Below.drew (Below.refl _ w)) k3) | (go_at_call 43; refine (HB.out _ kj).mono ?_; rintro e w4 ⟨rfl, k4⟩; have k5 : Below w.heap.size w w4 := kj.trans (k4.mono kj.size)))
  go_wp2_with fail
  go_ret
  exact ⟨rfl, k5⟩

set_option maxHeartbeats 2000000 in
set_option maxRecDepth 100000 in
theorem text_5 (x : Ins) (T : ByteArray) (w : World) (b o : Nat) (hI : IsI w b o x) (hT : TxOk w x T) (hk : x.f0 = 5) (hb : True) :
    Calls Tryz.prog 45 #[.pointer (some ⟨b, o, none⟩)] w fun e w' => e = .returned (.string (insT x T)) ∧ Below w.heap.size w w' := by
  obtain ⟨h0, h1, h2, h3⟩ := hI.ex
  unfold insT
  rw [hk] at h0 ⊢
  rw [if_neg (show ¬ ((5 : Int) = 1) by decide), if_neg (show ¬ ((5 : Int) = 2 ∨ (5 : Int) = 4 ∨ (5 : Int) = 9) by decide), if_pos (show (5 : Int) = 3 ∨ (5 : Int) = 5 ∨ (5 : Int) = 6 by decide)]
  have hcat := cat_is ⟨#[32]⟩ x.f3 (by decide) (by have := hT.sz.2.2.1; omega)
  clear hI hT hk hb
  go_enter Tryz.func45, Tryz.ntmps45
  go_wp2_with fail
  go_ret
  exact ⟨rfl, Below.refl _ _⟩

set_option maxHeartbeats 2000000 in
set_option maxRecDepth 100000 in
theorem text_6 (x : Ins) (T : ByteArray) (w : World) (b o : Nat) (hI : IsI w b o x) (hT : TxOk w x T) (hk : x.f0 = 6) (hb : True) :
    Calls Tryz.prog 45 #[.pointer (some ⟨b, o, none⟩)] w fun e w' => e = .returned (.string (insT x T)) ∧ Below w.heap.size w w' := by
  obtain ⟨h0, h1, h2, h3⟩ := hI.ex
  unfold insT
  rw [hk] at h0 ⊢
  rw [if_neg (show ¬ ((6 : Int) = 1) by decide), if_neg (show ¬ ((6 : Int) = 2 ∨ (6 : Int) = 4 ∨ (6 : Int) = 9) by decide), if_pos (show (6 : Int) = 3 ∨ (6 : Int) = 5 ∨ (6 : Int) = 6 by decide)]
  have hcat := cat_is ⟨#[32]⟩ x.f3 (by decide) (by have := hT.sz.2.2.1; omega)
  clear hI hT hk hb
  go_enter Tryz.func45, Tryz.ntmps45
  go_wp2_with fail
  go_ret
  exact ⟨rfl, Below.refl _ _⟩

set_option maxHeartbeats 2000000 in
set_option maxRecDepth 100000 in
theorem text_7 (x : Ins) (T : ByteArray) (w : World) (b o : Nat) (hI : IsI w b o x) (hT : TxOk w x T) (hk : x.f0 = 7) (hb : True) :
    Calls Tryz.prog 45 #[.pointer (some ⟨b, o, none⟩)] w fun e w' => e = .returned (.string (insT x T)) ∧ Below w.heap.size w w' := by
  obtain ⟨h0, h1, h2, h3⟩ := hI.ex
  unfold insT
  rw [hk] at h0 ⊢
  rw [if_neg (show ¬ ((7 : Int) = 1) by decide), if_neg (show ¬ ((7 : Int) = 2 ∨ (7 : Int) = 4 ∨ (7 : Int) = 9) by decide), if_neg (show ¬ ((7 : Int) = 3 ∨ (7 : Int) = 5 ∨ (7 : Int) = 6) by decide), if_neg (show ¬ ((7 : Int) = 11 ∨ (7 : Int) = 14) by decide)]
  have HA := Box.mk (fixText_is x.f1 w hT.a)
  obtain ⟨p, hp⟩ : ∃ p, x.f1 = p := ⟨_, rfl⟩
  have hs1 : (numL p).length ≤ 1000 := by rw [← hp]; exact hT.sz.1
  have hcat1 := cat_is ⟨#[32]⟩ (numB p) (by decide) (by rw [numB_size]; omega)
  rw [hp] at h1 HA ⊢
  obtain ⟨np, hnp⟩ : ∃ np, numB p = np := ⟨_, rfl⟩
  unfold numB at hnp hcat1 ⊢
  simp only [hnp] at HA hcat1 ⊢
  clear hI hT hk hb h2 h3 hp hnp
  go_enter Tryz.func45, Tryz.ntmps45
  go_wp2_with fail
  refine HA.out.mono ?_
  rintro e w2 ⟨rfl, k2⟩
  go_wp2_with fail
  go_ret
  exact ⟨rfl, k2⟩

set_option maxHeartbeats 2000000 in
set_option maxRecDepth 100000 in
theorem text_8 (x : Ins) (T : ByteArray) (w : World) (b o : Nat) (hI : IsI w b o x) (hT : TxOk w x T) (hk : x.f0 = 8) (hb : True) :
    Calls Tryz.prog 45 #[.pointer (some ⟨b, o, none⟩)] w fun e w' => e = .returned (.string (insT x T)) ∧ Below w.heap.size w w' := by
  obtain ⟨h0, h1, h2, h3⟩ := hI.ex
  unfold insT
  rw [hk] at h0 ⊢
  rw [if_neg (show ¬ ((8 : Int) = 1) by decide), if_neg (show ¬ ((8 : Int) = 2 ∨ (8 : Int) = 4 ∨ (8 : Int) = 9) by decide), if_neg (show ¬ ((8 : Int) = 3 ∨ (8 : Int) = 5 ∨ (8 : Int) = 6) by decide), if_neg (show ¬ ((8 : Int) = 11 ∨ (8 : Int) = 14) by decide)]
  have HA := Box.mk (fixText_is x.f1 w hT.a)
  obtain ⟨p, hp⟩ : ∃ p, x.f1 = p := ⟨_, rfl⟩
  have hs1 : (numL p).length ≤ 1000 := by rw [← hp]; exact hT.sz.1
  have hcat1 := cat_is ⟨#[32]⟩ (numB p) (by decide) (by rw [numB_size]; omega)
  rw [hp] at h1 HA ⊢
  obtain ⟨np, hnp⟩ : ∃ np, numB p = np := ⟨_, rfl⟩
  unfold numB at hnp hcat1 ⊢
  simp only [hnp] at HA hcat1 ⊢
  clear hI hT hk hb h2 h3 hp hnp
  go_enter Tryz.func45, Tryz.ntmps45
  go_wp2_with fail
  refine HA.out.mono ?_
  rintro e w2 ⟨rfl, k2⟩
  go_wp2_with fail
  go_ret
  exact ⟨rfl, k2⟩

set_option maxHeartbeats 2000000 in
set_option maxRecDepth 100000 in
theorem text_9 (x : Ins) (T : ByteArray) (w : World) (b o : Nat) (hI : IsI w b o x) (hT : TxOk w x T) (hk : x.f0 = 9) (hb : True) :
    Calls Tryz.prog 45 #[.pointer (some ⟨b, o, none⟩)] w fun e w' => e = .returned (.string (insT x T)) ∧ Below w.heap.size w w' := by
  obtain ⟨h0, h1, h2, h3⟩ := hI.ex
  unfold insT
  rw [hk] at h0 ⊢
  rw [if_neg (show ¬ ((9 : Int) = 1) by decide), if_pos (show (9 : Int) = 2 ∨ (9 : Int) = 4 ∨ (9 : Int) = 9 by decide)]
  have HA := Box.mk (fixText_is x.f1 w.drew (hT.a.below (show Below w.heap.size w w.drew from Below.drew (Below.refl _ w))))
  have HB := Box.mk (fun (W : World) (hW : Below w.heap.size w W) => fixText_is x.f2 W (hT.b.below hW))
  obtain ⟨p, hp⟩ : ∃ p, x.f1 = p := ⟨_, rfl⟩
  obtain ⟨q, hq⟩ : ∃ q, x.f2 = q := ⟨_, rfl⟩
  have hs1 : (numL p).length ≤ 1000 := by rw [← hp]; exact hT.sz.1
  have hs2 : (numL q).length ≤ 1000 := by rw [← hq]; exact hT.sz.2.1
  have hcat1 := cat_is ⟨#[32]⟩ (numB p) (by decide) (by rw [numB_size]; omega)
  have hcat2 := cat_is (⟨#[32]⟩ ++ numB p) ⟨#[32]⟩ (by rw [ByteArray.size_append, numB_size]; show 1 + _ ≤ _; omega) (by decide)
  have hcat3 := cat_is (⟨#[32]⟩ ++ numB p ++ ⟨#[32]⟩) (numB q) (by rw [ByteArray.size_append, ByteArray.size_append, numB_size]; show 1 + _ + 1 ≤ _; omega) (by rw [numB_size]; omega)
  obtain ⟨np, hnp⟩ : ∃ np, numB p = np := ⟨_, rfl⟩
  obtain ⟨nq, hnq⟩ : ∃ nq, numB q = nq := ⟨_, rfl⟩
  unfold numB at hnp hnq
  rw [hp] at h1 HA ⊢
  rw [hq] at h2 HB ⊢
  unfold numB at hcat1 hcat2 hcat3 ⊢
  simp only [hnp] at HA hcat1 hcat2 hcat3 ⊢
  simp only [hnq] at HB hcat3 ⊢
  clear hnp hnq
  clear hI hT hk hb h3 hp hq
  go_enter Tryz.func45, Tryz.ntmps45
  go_wp2_with fail
  go_region_held3 (fun w' => w'.cell? ⟨b, o + 1, none⟩ = some (.int .i64 p) ∧ w'.cell? ⟨b, o + 2, none⟩ = some (.int .i64 q)) (first | exact ⟨h1, h2⟩ | exact ⟨cell_below h1 kj, cell_below h2 kj⟩ | exact ⟨cell_below h1 k5, cell_below h2 k5⟩ | go_keep) (first | (go_at_call 43; refine HA.out.mono ?_; rintro e w3 ⟨rfl, k3⟩; have kj : Below w.heap.size w w3 := Below.trans (Below.drew (Below.refl _ w)) k3) | (go_at_call 43; refine (HB.out _ kj).mono ?_; rintro e w4 ⟨rfl, k4⟩; have k5 : Below w.heap.size w w4 := kj.trans (k4.mono kj.size)))
  go_wp2_with fail
  go_ret
  exact ⟨rfl, k5⟩

set_option maxHeartbeats 2000000 in
set_option maxRecDepth 100000 in
theorem text_10 (x : Ins) (T : ByteArray) (w : World) (b o : Nat) (hI : IsI w b o x) (hT : TxOk w x T) (hk : x.f0 = 10) (hb : True) :
    Calls Tryz.prog 45 #[.pointer (some ⟨b, o, none⟩)] w fun e w' => e = .returned (.string (insT x T)) ∧ Below w.heap.size w w' := by
  obtain ⟨h0, h1, h2, h3⟩ := hI.ex
  unfold insT
  rw [hk] at h0 ⊢
  rw [if_neg (show ¬ ((10 : Int) = 1) by decide), if_neg (show ¬ ((10 : Int) = 2 ∨ (10 : Int) = 4 ∨ (10 : Int) = 9) by decide), if_neg (show ¬ ((10 : Int) = 3 ∨ (10 : Int) = 5 ∨ (10 : Int) = 6) by decide), if_neg (show ¬ ((10 : Int) = 11 ∨ (10 : Int) = 14) by decide)]
  have HA := Box.mk (fixText_is x.f1 w hT.a)
  obtain ⟨p, hp⟩ : ∃ p, x.f1 = p := ⟨_, rfl⟩
  have hs1 : (numL p).length ≤ 1000 := by rw [← hp]; exact hT.sz.1
  have hcat1 := cat_is ⟨#[32]⟩ (numB p) (by decide) (by rw [numB_size]; omega)
  rw [hp] at h1 HA ⊢
  obtain ⟨np, hnp⟩ : ∃ np, numB p = np := ⟨_, rfl⟩
  unfold numB at hnp hcat1 ⊢
  simp only [hnp] at HA hcat1 ⊢
  clear hI hT hk hb h2 h3 hp hnp
  go_enter Tryz.func45, Tryz.ntmps45
  go_wp2_with fail
  refine HA.out.mono ?_
  rintro e w2 ⟨rfl, k2⟩
  go_wp2_with fail
  go_ret
  exact ⟨rfl, k2⟩

set_option maxHeartbeats 2000000 in
set_option maxRecDepth 100000 in
theorem text_11 (x : Ins) (T : ByteArray) (w : World) (b o : Nat) (hI : IsI w b o x) (hT : TxOk w x T) (hk : x.f0 = 11) (hb : True) :
    Calls Tryz.prog 45 #[.pointer (some ⟨b, o, none⟩)] w fun e w' => e = .returned (.string (insT x T)) ∧ Below w.heap.size w w' := by
  obtain ⟨h0, h1, h2, h3⟩ := hI.ex
  unfold insT
  rw [hk] at h0 ⊢
  rw [if_neg (show ¬ ((11 : Int) = 1) by decide), if_neg (show ¬ ((11 : Int) = 2 ∨ (11 : Int) = 4 ∨ (11 : Int) = 9) by decide), if_neg (show ¬ ((11 : Int) = 3 ∨ (11 : Int) = 5 ∨ (11 : Int) = 6) by decide), if_pos (show (11 : Int) = 11 ∨ (11 : Int) = 14 by decide)]
  clear hI hT hk hb
  go_enter Tryz.func45, Tryz.ntmps45
  go_wp2_with fail
  go_ret
  exact ⟨rfl, Below.refl _ _⟩

set_option maxHeartbeats 2000000 in
set_option maxRecDepth 100000 in
theorem text_12 (x : Ins) (T : ByteArray) (w : World) (b o : Nat) (hI : IsI w b o x) (hT : TxOk w x T) (hk : x.f0 = 12) (hb : True) :
    Calls Tryz.prog 45 #[.pointer (some ⟨b, o, none⟩)] w fun e w' => e = .returned (.string (insT x T)) ∧ Below w.heap.size w w' := by
  obtain ⟨h0, h1, h2, h3⟩ := hI.ex
  unfold insT
  rw [hk] at h0 ⊢
  rw [if_neg (show ¬ ((12 : Int) = 1) by decide), if_neg (show ¬ ((12 : Int) = 2 ∨ (12 : Int) = 4 ∨ (12 : Int) = 9) by decide), if_neg (show ¬ ((12 : Int) = 3 ∨ (12 : Int) = 5 ∨ (12 : Int) = 6) by decide), if_neg (show ¬ ((12 : Int) = 11 ∨ (12 : Int) = 14) by decide)]
  have HA := Box.mk (fixText_is x.f1 w hT.a)
  obtain ⟨p, hp⟩ : ∃ p, x.f1 = p := ⟨_, rfl⟩
  have hs1 : (numL p).length ≤ 1000 := by rw [← hp]; exact hT.sz.1
  have hcat1 := cat_is ⟨#[32]⟩ (numB p) (by decide) (by rw [numB_size]; omega)
  rw [hp] at h1 HA ⊢
  obtain ⟨np, hnp⟩ : ∃ np, numB p = np := ⟨_, rfl⟩
  unfold numB at hnp hcat1 ⊢
  simp only [hnp] at HA hcat1 ⊢
  clear hI hT hk hb h2 h3 hp hnp
  go_enter Tryz.func45, Tryz.ntmps45
  go_wp2_with fail
  refine HA.out.mono ?_
  rintro e w2 ⟨rfl, k2⟩
  go_wp2_with fail
  go_ret
  exact ⟨rfl, k2⟩

set_option maxHeartbeats 2000000 in
set_option maxRecDepth 100000 in
theorem text_13 (x : Ins) (T : ByteArray) (w : World) (b o : Nat) (hI : IsI w b o x) (hT : TxOk w x T) (hk : x.f0 = 13) (hb : True) :
    Calls Tryz.prog 45 #[.pointer (some ⟨b, o, none⟩)] w fun e w' => e = .returned (.string (insT x T)) ∧ Below w.heap.size w w' := by
  obtain ⟨h0, h1, h2, h3⟩ := hI.ex
  unfold insT
  rw [hk] at h0 ⊢
  rw [if_neg (show ¬ ((13 : Int) = 1) by decide), if_neg (show ¬ ((13 : Int) = 2 ∨ (13 : Int) = 4 ∨ (13 : Int) = 9) by decide), if_neg (show ¬ ((13 : Int) = 3 ∨ (13 : Int) = 5 ∨ (13 : Int) = 6) by decide), if_neg (show ¬ ((13 : Int) = 11 ∨ (13 : Int) = 14) by decide)]
  have HA := Box.mk (fixText_is x.f1 w hT.a)
  obtain ⟨p, hp⟩ : ∃ p, x.f1 = p := ⟨_, rfl⟩
  have hs1 : (numL p).length ≤ 1000 := by rw [← hp]; exact hT.sz.1
  have hcat1 := cat_is ⟨#[32]⟩ (numB p) (by decide) (by rw [numB_size]; omega)
  rw [hp] at h1 HA ⊢
  obtain ⟨np, hnp⟩ : ∃ np, numB p = np := ⟨_, rfl⟩
  unfold numB at hnp hcat1 ⊢
  simp only [hnp] at HA hcat1 ⊢
  clear hI hT hk hb h2 h3 hp hnp
  go_enter Tryz.func45, Tryz.ntmps45
  go_wp2_with fail
  refine HA.out.mono ?_
  rintro e w2 ⟨rfl, k2⟩
  go_wp2_with fail
  go_ret
  exact ⟨rfl, k2⟩

set_option maxHeartbeats 2000000 in
set_option maxRecDepth 100000 in
theorem text_14 (x : Ins) (T : ByteArray) (w : World) (b o : Nat) (hI : IsI w b o x) (hT : TxOk w x T) (hk : x.f0 = 14) (hb : True) :
    Calls Tryz.prog 45 #[.pointer (some ⟨b, o, none⟩)] w fun e w' => e = .returned (.string (insT x T)) ∧ Below w.heap.size w w' := by
  obtain ⟨h0, h1, h2, h3⟩ := hI.ex
  unfold insT
  rw [hk] at h0 ⊢
  rw [if_neg (show ¬ ((14 : Int) = 1) by decide), if_neg (show ¬ ((14 : Int) = 2 ∨ (14 : Int) = 4 ∨ (14 : Int) = 9) by decide), if_neg (show ¬ ((14 : Int) = 3 ∨ (14 : Int) = 5 ∨ (14 : Int) = 6) by decide), if_pos (show (14 : Int) = 11 ∨ (14 : Int) = 14 by decide)]
  clear hI hT hk hb
  go_enter Tryz.func45, Tryz.ntmps45
  go_wp2_with fail
  go_ret
  exact ⟨rfl, Below.refl _ _⟩

theorem insB_op {n : Nat} {x : Ins} (h : insB n x = true) : ∃ k : Nat, 1 ≤ k ∧ k ≤ 14 ∧ x.f0 = k := by
  by_cases k1 : x.f0 = 1
  · exact ⟨1, by decide, by decide, k1⟩
  by_cases k2 : x.f0 = 2
  · exact ⟨2, by decide, by decide, k2⟩
  by_cases k3 : x.f0 = 3
  · exact ⟨3, by decide, by decide, k3⟩
  by_cases k4 : x.f0 = 4
  · exact ⟨4, by decide, by decide, k4⟩
  by_cases k5 : x.f0 = 5
  · exact ⟨5, by decide, by decide, k5⟩
  by_cases k6 : x.f0 = 6
  · exact ⟨6, by decide, by decide, k6⟩
  by_cases k7 : x.f0 = 7
  · exact ⟨7, by decide, by decide, k7⟩
  by_cases k8 : x.f0 = 8
  · exact ⟨8, by decide, by decide, k8⟩
  by_cases k9 : x.f0 = 9
  · exact ⟨9, by decide, by decide, k9⟩
  by_cases k10 : x.f0 = 10
  · exact ⟨10, by decide, by decide, k10⟩
  by_cases k11 : x.f0 = 11
  · exact ⟨11, by decide, by decide, k11⟩
  by_cases k12 : x.f0 = 12
  · exact ⟨12, by decide, by decide, k12⟩
  by_cases k13 : x.f0 = 13
  · exact ⟨13, by decide, by decide, k13⟩
  by_cases k14 : x.f0 = 14
  · exact ⟨14, by decide, by decide, k14⟩
  exfalso
  unfold insB at h
  simp [k1, k2, k3, k4, k5, k6, k7, k8, k9, k10, k11, k12, k13, k14] at h
theorem text_is {n : Nat} (x : Ins) (T : ByteArray) (w : World) (b o : Nat) (hI : IsI w b o x) (hT : TxOk w x T) (hb : insB n x = true) :
    Calls Tryz.prog 45 #[.pointer (some ⟨b, o, none⟩)] w fun e w' => e = .returned (.string (insT x T)) ∧ Below w.heap.size w w' := by
  obtain ⟨k, hk1, hk2, hk⟩ := insB_op hb
  have hx : k = 1 ∨ k = 2 ∨ k = 3 ∨ k = 4 ∨ k = 5 ∨ k = 6 ∨ k = 7 ∨ k = 8 ∨ k = 9 ∨ k = 10 ∨ k = 11 ∨ k = 12 ∨ k = 13 ∨ k = 14 := by omega
  rcases hx with rfl | rfl | rfl | rfl | rfl | rfl | rfl | rfl | rfl | rfl | rfl | rfl | rfl | rfl
  · refine text_1 x T w b o hI hT hk (fun h0 => ?_)
    unfold insB at hb
    rw [hk] at hb
    simp [constB, h0] at hb
    omega
  · exact text_2 x T w b o hI hT hk trivial
  · exact text_3 x T w b o hI hT hk trivial
  · exact text_4 x T w b o hI hT hk trivial
  · exact text_5 x T w b o hI hT hk trivial
  · exact text_6 x T w b o hI hT hk trivial
  · exact text_7 x T w b o hI hT hk trivial
  · exact text_8 x T w b o hI hT hk trivial
  · exact text_9 x T w b o hI hT hk trivial
  · exact text_10 x T w b o hI hT hk trivial
  · exact text_11 x T w b o hI hT hk trivial
  · exact text_12 x T w b o hI hT hk trivial
  · exact text_13 x T w b o hI hT hk trivial
  · exact text_14 x T w b o hI hT hk trivial

end Go.Proofs.YtiimojpaeccajaaGreatDoor
