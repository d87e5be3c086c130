/- read.fits, read.Check by their contracts. -/
import Derived.Test.YtiimojpaeccajaaGreatDoorLex2
import Derived.Test.YtiimojpaeccajaaGreatDoorCnt
import Derived.Deep.Light
namespace Go.Proofs.YtiimojpaeccajaaGreatDoor
set_option linter.unusedVariables false
set_option linter.unusedSimpArgs false
open Go.RowKit

/-- May it be a datum, of at most so many within one another. -/
def fitB : Nat → Dat → Bool
  | 0, _ => false
  | f + 1, x =>
    if x.f0 = 1 then x.f3.length == 0 && x.f2.data.toList.isEmpty && decide (x.f1 ≤ 1152921504606846975) && decide (-1152921504606846976 ≤ x.f1)
    else if x.f0 = 2 then x.f3.length == 0 && x.f2.data.toList.isEmpty && (x.f1 / 2 == 0)
    else if x.f0 = 3 then x.f3.length == 0 && x.f2.data.toList.isEmpty && (x.f1 / 256 == 0)
    else if x.f0 = 4 then x.f3.length == 0 && (x.f1 == 0) && decide (x.f2.size ≤ 500)
    else if x.f0 = 5 then x.f3.length == 0 && (x.f1 == 0) && symS x.f2.data.toList
    else if x.f0 = 7 then decide (2 ≤ x.f3.length) && !((x.f3.getD (x.f3.length - 1) datZ).f0 == 6) && !((x.f3.getD (x.f3.length - 1) datZ).f0 == 7) && x.f3.all (fitB f) && (x.f1 == 0) && x.f2.data.toList.isEmpty
    else if x.f0 = 6 ∨ x.f0 = 8 then x.f3.all (fitB f) && (x.f1 == 0) && x.f2.data.toList.isEmpty
    else false






set_option maxRecDepth 100000 in
theorem fits_1 (f : Nat) (x : Dat) (wi : Nat) (w : World) (b o : Nat) (hD : IsD w b o x) (hw : wi < 64) (hk : x.f0 = 1) :
    Calls Tryz.prog 133 #[.pointer (some ⟨b, o, none⟩), .int .i64 wi] w fun e w' => e = .returned (.bool (fitB (f + 1) x)) ∧ Below w.heap.size w w' := by
  obtain ⟨A, c, h0, h1, h2, h3, h4, h6⟩ := hD.ex
  rw [hk] at h0
  obtain ⟨k, N, T, xs⟩ := x
  dsimp only at h0 h1 h2 h3 h4 h6 hk ⊢
  subst hk
  have HR : fitB (f + 1) ⟨1, N, T, xs⟩ = (xs.length == 0 && T.data.toList.isEmpty && decide (N ≤ 1152921504606846975) && decide (-1152921504606846976 ≤ N)) := by rw [fitB, if_pos rfl]
  rw [HR]
  try rw [← ByteArray.toList_eq]
  generalize xs.length = n at *
  clear hD h6 h4 HR
  go_enter Tryz.func133, Tryz.ntmps133
  go_wp2_with fail
  all_goals
    go_ret
    refine ⟨?_, Below.refl _ _⟩
    go_light
    simp_all
    try omega

set_option maxRecDepth 100000 in
theorem fits_2 (f : Nat) (x : Dat) (wi : Nat) (w : World) (b o : Nat) (hD : IsD w b o x) (hw : wi < 64) (hk : x.f0 = 2) :
    Calls Tryz.prog 133 #[.pointer (some ⟨b, o, none⟩), .int .i64 wi] w fun e w' => e = .returned (.bool (fitB (f + 1) x)) ∧ Below w.heap.size w w' := by
  obtain ⟨A, c, h0, h1, h2, h3, h4, h6⟩ := hD.ex
  rw [hk] at h0
  obtain ⟨k, N, T, xs⟩ := x
  dsimp only at h0 h1 h2 h3 h4 h6 hk ⊢
  subst hk
  have HR : fitB (f + 1) ⟨2, N, T, xs⟩ = (xs.length == 0 && T.data.toList.isEmpty && (N / 2 == 0)) := by rw [fitB, if_neg (show ¬ (2 : Int) = 1 by decide), if_pos rfl]
  rw [HR]
  try rw [← ByteArray.toList_eq]
  generalize xs.length = n at *
  clear hD h6 h4 HR
  go_enter Tryz.func133, Tryz.ntmps133
  go_wp2_with fail
  all_goals
    go_ret
    refine ⟨?_, Below.refl _ _⟩
    go_light
    simp_all
    try omega

set_option maxRecDepth 100000 in
theorem fits_3 (f : Nat) (x : Dat) (wi : Nat) (w : World) (b o : Nat) (hD : IsD w b o x) (hw : wi < 64) (hk : x.f0 = 3) :
    Calls Tryz.prog 133 #[.pointer (some ⟨b, o, none⟩), .int .i64 wi] w fun e w' => e = .returned (.bool (fitB (f + 1) x)) ∧ Below w.heap.size w w' := by
  obtain ⟨A, c, h0, h1, h2, h3, h4, h6⟩ := hD.ex
  rw [hk] at h0
  obtain ⟨k, N, T, xs⟩ := x
  dsimp only at h0 h1 h2 h3 h4 h6 hk ⊢
  subst hk
  have HR : fitB (f + 1) ⟨3, N, T, xs⟩ = (xs.length == 0 && T.data.toList.isEmpty && (N / 256 == 0)) := by rw [fitB, if_neg (show ¬ (3 : Int) = 1 by decide), if_neg (show ¬ (3 : Int) = 2 by decide), if_pos rfl]
  rw [HR]
  try rw [← ByteArray.toList_eq]
  generalize xs.length = n at *
  clear hD h6 h4 HR
  go_enter Tryz.func133, Tryz.ntmps133
  go_wp2_with fail
  all_goals
    go_ret
    refine ⟨?_, Below.refl _ _⟩
    go_light
    simp_all
    try omega

set_option maxRecDepth 100000 in
theorem fits_4 (f : Nat) (x : Dat) (wi : Nat) (w : World) (b o : Nat) (hD : IsD w b o x) (hw : wi < 64) (hk : x.f0 = 4) :
    Calls Tryz.prog 133 #[.pointer (some ⟨b, o, none⟩), .int .i64 wi] w fun e w' => e = .returned (.bool (fitB (f + 1) x)) ∧ Below w.heap.size w w' := by
  obtain ⟨A, c, h0, h1, h2, h3, h4, h6⟩ := hD.ex
  rw [hk] at h0
  obtain ⟨k, N, T, xs⟩ := x
  dsimp only at h0 h1 h2 h3 h4 h6 hk ⊢
  subst hk
  have HR : fitB (f + 1) ⟨4, N, T, xs⟩ = (xs.length == 0 && (N == 0) && decide (T.size ≤ 500)) := by rw [fitB, if_neg (show ¬ (4 : Int) = 1 by decide), if_neg (show ¬ (4 : Int) = 2 by decide), if_neg (show ¬ (4 : Int) = 3 by decide), if_pos rfl]
  rw [HR]
  try rw [← ByteArray.toList_eq]
  generalize xs.length = n at *
  clear hD h6 h4 HR
  go_enter Tryz.func133, Tryz.ntmps133
  go_wp2_with fail
  all_goals
    go_ret
    refine ⟨?_, Below.refl _ _⟩
    go_light
    simp_all
    try omega

set_option maxRecDepth 100000 in
theorem fits_5 (f : Nat) (x : Dat) (wi : Nat) (w : World) (b o : Nat) (hD : IsD w b o x) (hw : wi < 64) (hk : x.f0 = 5) :
    Calls Tryz.prog 133 #[.pointer (some ⟨b, o, none⟩), .int .i64 wi] w fun e w' => e = .returned (.bool (fitB (f + 1) x)) ∧ Below w.heap.size w w' := by
  obtain ⟨A, c, h0, h1, h2, h3, h4, h6⟩ := hD.ex
  rw [hk] at h0
  obtain ⟨k, N, T, xs⟩ := x
  dsimp only at h0 h1 h2 h3 h4 h6 hk ⊢
  subst hk
  have HR : fitB (f + 1) ⟨5, N, T, xs⟩ = (xs.length == 0 && (N == 0) && symS T.data.toList) := by rw [fitB, if_neg (show ¬ (5 : Int) = 1 by decide), if_neg (show ¬ (5 : Int) = 2 by decide), if_neg (show ¬ (5 : Int) = 3 by decide), if_neg (show ¬ (5 : Int) = 4 by decide), if_pos rfl]
  rw [HR]
  try rw [← ByteArray.toList_eq]
  generalize xs.length = n at *
  clear hD h6 h4 HR
  obtain ⟨sy, hsy⟩ : ∃ sy, symS T.toList = sy := ⟨_, rfl⟩
  have Hsy : Box (symS T.data.toList = sy) := ⟨by rw [← ByteArray.toList_eq]; exact hsy⟩
  rw [hsy]
  clear hsy
  go_enter Tryz.func133, Tryz.ntmps133
  go_wp2_with (go_at_call 71; refine (symbol_is _ _).mono ?_; rw [Hsy.out]; rintro e w1 ⟨rfl, k1⟩)
  all_goals
    go_ret
    refine ⟨?_, by first | exact Below.refl _ _ | assumption⟩
    go_light
    simp_all

set_option maxRecDepth 100000 in
theorem fits_0 (x : Dat) (wi : Nat) (w : World) (b o : Nat) (hw : 64 ≤ wi) (hw2 : wi < 1000000) :
    Calls Tryz.prog 133 #[.pointer (some ⟨b, o, none⟩), .int .i64 wi] w fun e w' => e = .returned (.bool (fitB 0 x)) ∧ Below w.heap.size w w' := by
  rw [show fitB 0 x = false from rfl]
  go_enter Tryz.func133, Tryz.ntmps133
  go_wp2_with fail
  go_ret
  exact ⟨rfl, Below.refl _ _⟩

set_option maxRecDepth 100000 in
theorem fits_no (f : Nat) (x : Dat) (wi : Nat) (w : World) (b o : Nat) (hD : IsD w b o x) (hw : wi < 64) (n1 : x.f0 ≠ 1) (n2 : x.f0 ≠ 2) (n3 : x.f0 ≠ 3) (n4 : x.f0 ≠ 4) (n5 : x.f0 ≠ 5) (n6 : x.f0 ≠ 6) (n7 : x.f0 ≠ 7) (n8 : x.f0 ≠ 8) :
    Calls Tryz.prog 133 #[.pointer (some ⟨b, o, none⟩), .int .i64 wi] w fun e w' => e = .returned (.bool (fitB (f + 1) x)) ∧ Below w.heap.size w w' := by
  obtain ⟨A, c, h0, h1, h2, h3, h4, h6⟩ := hD.ex
  rw [fitB, if_neg n1, if_neg n2, if_neg n3, if_neg n4, if_neg n5, if_neg n7, if_neg (by rintro (h | h); exact n6 h; exact n8 h)]
  obtain ⟨k, hk⟩ : ∃ k, x.f0 = k := ⟨_, rfl⟩
  rw [hk] at h0 n1 n2 n3 n4 n5 n6 n7 n8
  have m1 : (k == 1) = false := by simpa using n1
  have m2 : (k == 2) = false := by simpa using n2
  have m3 : (k == 3) = false := by simpa using n3
  have m4 : (k == 4) = false := by simpa using n4
  have m5 : (k == 5) = false := by simpa using n5
  have m6 : (k == 6) = false := by simpa using n6
  have m7 : (k == 7) = false := by simpa using n7
  have m8 : (k == 8) = false := by simpa using n8
  clear hk hD h1 h2 h3 h4 h6 n1 n2 n3 n4 n5 n6 n7 n8
  go_enter Tryz.func133, Tryz.ntmps133
  go_wp2_with fail
  go_ret
  exact ⟨rfl, Below.refl _ _⟩

theorem all_getD (l : List Dat) (p : Dat → Bool) : l.all p = true ↔ ∀ k, k < l.length → p (l.getD k datZ) = true := by
  rw [List.all_eq_true]
  constructor
  · intro h k hk
    have := h l[k] (List.getElem_mem hk)
    simpa [List.getD, List.getElem?_eq_getElem hk] using this
  · intro h x hx
    obtain ⟨k, hk, rfl⟩ := List.mem_iff_getElem.1 hx
    have := h k hk
    simpa [List.getD, List.getElem?_eq_getElem hk] using this

set_option maxHeartbeats 2000000 in
set_option maxRecDepth 100000 in
theorem fits_6 (f : Nat) (x : Dat) (wi : Nat) (w : World) (b o : Nat) (hD : IsD w b o x) (hw : wi < 64) (hk : x.f0 = 6)
    (hsz : dsz x ≤ 5000) (ih : ∀ (x : Dat) (wi' : Nat) (w : World) (b o : Nat), IsD w b o x → wi' = wi + 1 → dsz x ≤ 5000 → Calls Tryz.prog 133 #[.pointer (some ⟨b, o, none⟩), .int .i64 wi'] w fun e w' => e = .returned (.bool (fitB f x)) ∧ Below w.heap.size w w') :
    Calls Tryz.prog 133 #[.pointer (some ⟨b, o, none⟩), .int .i64 wi] w fun e w' => e = .returned (.bool (fitB (f + 1) x)) ∧ Below w.heap.size w w' := by
  obtain ⟨A, c, h0, h1, h2, h3, h4, h6⟩ := hD.ex
  rw [hk] at h0
  obtain ⟨k, N, T, xs⟩ := x
  dsimp only at h0 h1 h2 h3 h4 h6 hk ⊢
  subst hk
  obtain ⟨n, hn⟩ : ∃ n, xs.length = n := ⟨_, rfl⟩
  have Hn := Box.mk hn
  have hsz2 : dszL xs + 1 ≤ 5000 := by rw [dsz_eq] at hsz; exact hsz
  have Hsz := Box.mk hsz2
  have hn5 : n ≤ 5000 := by have := length_le_dszL xs; omega
  clear hsz hsz2
  have H6 := Box.mk h6
  rw [hn] at h3 h4
  have H1 := Box.mk h1
  have H2 := Box.mk h2
  have H3 := Box.mk h3
  have HY : Box (fitB (f + 1) ⟨6, N, T, xs⟩ = true ↔ (∀ k, k < n → fitB f (xs.getD k datZ) = true) ∧ (N == 0) = true ∧ T.toList.isEmpty = true) := ⟨by
    rw [fitB, if_neg (show ¬ (6 : Int) = 1 by decide), if_neg (show ¬ (6 : Int) = 2 by decide), if_neg (show ¬ (6 : Int) = 3 by decide), if_neg (show ¬ (6 : Int) = 4 by decide), if_neg (show ¬ (6 : Int) = 5 by decide), if_neg (show ¬ (6 : Int) = 7 by decide), if_pos (show (6 : Int) = 6 ∨ (6 : Int) = 8 by decide), ByteArray.toList_eq, ← hn, ← all_getD]
    simp [and_assoc]⟩
  have HA : Box (xs.all (fitB f) = true → fitB (f + 1) ⟨6, N, T, xs⟩ = ((N == 0) && T.toList.isEmpty)) := ⟨fun h => by
    rw [fitB, if_neg (show ¬ (6 : Int) = 1 by decide), if_neg (show ¬ (6 : Int) = 2 by decide), if_neg (show ¬ (6 : Int) = 3 by decide), if_neg (show ¬ (6 : Int) = 4 by decide), if_neg (show ¬ (6 : Int) = 5 by decide), if_neg (show ¬ (6 : Int) = 7 by decide), if_pos (show (6 : Int) = 6 ∨ (6 : Int) = 8 by decide), ByteArray.toList_eq, h]
    simp⟩
  clear hD h1 h2 h4 h6 hn
  go_enter Tryz.func133, Tryz.ntmps133
  go_wp2_with fail
  go_loopw [174] (fun i wr => ∃ (j : Nat), j ≤ n ∧ i = .int .i64 j ∧ Box (∀ k, k < j → fitB f (xs.getD k datZ) = true) ∧ Box (Below w.heap.size w wr)) (fun i _ => n - (intOf i).toNat)
  case atStart => exact ⟨0, Nat.zero_le _, rfl, ⟨fun k hk => absurd hk (Nat.not_lt_zero _)⟩, ⟨Below.refl _ _⟩⟩
  case round =>
    obtain ⟨j, hj, rfl, Hp, K⟩ := hrel
    by_cases hjn : j < n
    · have hj0 : (0 : Int) ≤ (j : Int) := by omega
      obtain ⟨bb, oo, hA, hb, hE⟩ := isD_elem H6.out (i := j) (by rw [Hn.out]; exact hjn)
      subst hA
      have hcell := cell_below H3.out K.out
      have hcell2 := cell_below H2.out K.out
      have HI := Box.mk (ih (xs.getD j datZ) (wi + 1) wr bb (oo + j * 4) (hE.below K.out) (by omega) (by have := dsz_getD_lt xs j (by rw [Hn.out]; exact hjn); have := Hsz.out; omega))
      have HN : Box (fitB f (xs.getD j datZ) = false → fitB (f + 1) ⟨6, N, T, xs⟩ = false) := ⟨fun h => by
        cases h2 : fitB (f + 1) ⟨6, N, T, xs⟩ with
        | false => rfl
        | true =>
          have h3 := HY.out.1 h2
          have h4 := h3.1 j hjn
          rw [h] at h4
          cases h4⟩
      clear hE
      obtain ⟨v, hv⟩ : ∃ v, fitB f (xs.getD j datZ) = v := ⟨_, rfl⟩
      have Hv := Box.mk hv
      rw [hv] at HI
      have hwi : ((wi + 1 : Nat) : Int) = (wi : Int) + 1 := by omega
      rw [hwi] at HI
      clear hv hwi
      go_wp2_with fail
      refine HI.out.mono ?_
      rintro e w2 ⟨rfl, k2⟩
      have K2 := Box.mk (K.out.trans (k2.mono K.out.size))
      clear k2
      cases v with
      | true =>
        have hp2 : Box (∀ k, k < j + 1 → fitB f (xs.getD k datZ) = true) := ⟨fun k hk => by
          by_cases e : k = j
          · rw [e]; exact Hv.out
          · exact Hp.out k (by omega)⟩
        go_wp2_with fail
        go_roundw
        case rel => exact ⟨j + 1, by omega, by go_num, hp2, K2⟩
        case measure => simp [intOf]; omega
      | false =>
        go_wp2_with fail
        go_ret
        exact ⟨by rw [HN.out Hv.out]; rfl, K2.out⟩
    · have hjn2 : j = n := by omega
      have HE : Box (fitB (f + 1) ⟨6, N, T, xs⟩ = ((N == 0) && T.toList.isEmpty)) := ⟨by
        have hall : xs.all (fitB f) = true := (all_getD _ _).2 (fun k hk => Hp.out k (by have := Hn.out; omega))
        exact HA.out hall⟩
      have hc1 := cell_below H1.out K.out
      have hc2 := cell_below H2.out K.out
      have hc3 := cell_below H3.out K.out
      go_wp2_with fail
      all_goals
        go_ret
        refine ⟨?_, K.out⟩
        rw [HE.out]
        go_light
        clear HE HA HY Hp
        simp_all

set_option maxHeartbeats 2000000 in
set_option maxRecDepth 100000 in
theorem fits_8 (f : Nat) (x : Dat) (wi : Nat) (w : World) (b o : Nat) (hD : IsD w b o x) (hw : wi < 64) (hk : x.f0 = 8)
    (hsz : dsz x ≤ 5000) (ih : ∀ (x : Dat) (wi' : Nat) (w : World) (b o : Nat), IsD w b o x → wi' = wi + 1 → dsz x ≤ 5000 → Calls Tryz.prog 133 #[.pointer (some ⟨b, o, none⟩), .int .i64 wi'] w fun e w' => e = .returned (.bool (fitB f x)) ∧ Below w.heap.size w w') :
    Calls Tryz.prog 133 #[.pointer (some ⟨b, o, none⟩), .int .i64 wi] w fun e w' => e = .returned (.bool (fitB (f + 1) x)) ∧ Below w.heap.size w w' := by
  obtain ⟨A, c, h0, h1, h2, h3, h4, h6⟩ := hD.ex
  rw [hk] at h0
  obtain ⟨k, N, T, xs⟩ := x
  dsimp only at h0 h1 h2 h3 h4 h6 hk ⊢
  subst hk
  obtain ⟨n, hn⟩ : ∃ n, xs.length = n := ⟨_, rfl⟩
  have Hn := Box.mk hn
  have hsz2 : dszL xs + 1 ≤ 5000 := by rw [dsz_eq] at hsz; exact hsz
  have Hsz := Box.mk hsz2
  have hn5 : n ≤ 5000 := by have := length_le_dszL xs; omega
  clear hsz hsz2
  have H6 := Box.mk h6
  rw [hn] at h3 h4
  have H1 := Box.mk h1
  have H2 := Box.mk h2
  have H3 := Box.mk h3
  have HY : Box (fitB (f + 1) ⟨8, N, T, xs⟩ = true ↔ (∀ k, k < n → fitB f (xs.getD k datZ) = true) ∧ (N == 0) = true ∧ T.toList.isEmpty = true) := ⟨by
    rw [fitB, if_neg (show ¬ (8 : Int) = 1 by decide), if_neg (show ¬ (8 : Int) = 2 by decide), if_neg (show ¬ (8 : Int) = 3 by decide), if_neg (show ¬ (8 : Int) = 4 by decide), if_neg (show ¬ (8 : Int) = 5 by decide), if_neg (show ¬ (8 : Int) = 7 by decide), if_pos (show (8 : Int) = 6 ∨ (8 : Int) = 8 by decide), ByteArray.toList_eq, ← hn, ← all_getD]
    simp [and_assoc]⟩
  have HA : Box (xs.all (fitB f) = true → fitB (f + 1) ⟨8, N, T, xs⟩ = ((N == 0) && T.toList.isEmpty)) := ⟨fun h => by
    rw [fitB, if_neg (show ¬ (8 : Int) = 1 by decide), if_neg (show ¬ (8 : Int) = 2 by decide), if_neg (show ¬ (8 : Int) = 3 by decide), if_neg (show ¬ (8 : Int) = 4 by decide), if_neg (show ¬ (8 : Int) = 5 by decide), if_neg (show ¬ (8 : Int) = 7 by decide), if_pos (show (8 : Int) = 6 ∨ (8 : Int) = 8 by decide), ByteArray.toList_eq, h]
    simp⟩
  clear hD h1 h2 h4 h6 hn
  go_enter Tryz.func133, Tryz.ntmps133
  go_wp2_with fail
  go_loopw [174] (fun i wr => ∃ (j : Nat), j ≤ n ∧ i = .int .i64 j ∧ Box (∀ k, k < j → fitB f (xs.getD k datZ) = true) ∧ Box (Below w.heap.size w wr)) (fun i _ => n - (intOf i).toNat)
  case atStart => exact ⟨0, Nat.zero_le _, rfl, ⟨fun k hk => absurd hk (Nat.not_lt_zero _)⟩, ⟨Below.refl _ _⟩⟩
  case round =>
    obtain ⟨j, hj, rfl, Hp, K⟩ := hrel
    by_cases hjn : j < n
    · have hj0 : (0 : Int) ≤ (j : Int) := by omega
      obtain ⟨bb, oo, hA, hb, hE⟩ := isD_elem H6.out (i := j) (by rw [Hn.out]; exact hjn)
      subst hA
      have hcell := cell_below H3.out K.out
      have hcell2 := cell_below H2.out K.out
      have HI := Box.mk (ih (xs.getD j datZ) (wi + 1) wr bb (oo + j * 4) (hE.below K.out) (by omega) (by have := dsz_getD_lt xs j (by rw [Hn.out]; exact hjn); have := Hsz.out; omega))
      have HN : Box (fitB f (xs.getD j datZ) = false → fitB (f + 1) ⟨8, N, T, xs⟩ = false) := ⟨fun h => by
        cases h2 : fitB (f + 1) ⟨8, N, T, xs⟩ with
        | false => rfl
        | true =>
          have h3 := HY.out.1 h2
          have h4 := h3.1 j hjn
          rw [h] at h4
          cases h4⟩
      clear hE
      obtain ⟨v, hv⟩ : ∃ v, fitB f (xs.getD j datZ) = v := ⟨_, rfl⟩
      have Hv := Box.mk hv
      rw [hv] at HI
      have hwi : ((wi + 1 : Nat) : Int) = (wi : Int) + 1 := by omega
      rw [hwi] at HI
      clear hv hwi
      go_wp2_with fail
      refine HI.out.mono ?_
      rintro e w2 ⟨rfl, k2⟩
      have K2 := Box.mk (K.out.trans (k2.mono K.out.size))
      clear k2
      cases v with
      | true =>
        have hp2 : Box (∀ k, k < j + 1 → fitB f (xs.getD k datZ) = true) := ⟨fun k hk => by
          by_cases e : k = j
          · rw [e]; exact Hv.out
          · exact Hp.out k (by omega)⟩
        go_wp2_with fail
        go_roundw
        case rel => exact ⟨j + 1, by omega, by go_num, hp2, K2⟩
        case measure => simp [intOf]; omega
      | false =>
        go_wp2_with fail
        go_ret
        exact ⟨by rw [HN.out Hv.out]; rfl, K2.out⟩
    · have hjn2 : j = n := by omega
      have HE : Box (fitB (f + 1) ⟨8, N, T, xs⟩ = ((N == 0) && T.toList.isEmpty)) := ⟨by
        have hall : xs.all (fitB f) = true := (all_getD _ _).2 (fun k hk => Hp.out k (by have := Hn.out; omega))
        exact HA.out hall⟩
      have hc1 := cell_below H1.out K.out
      have hc2 := cell_below H2.out K.out
      have hc3 := cell_below H3.out K.out
      go_wp2_with fail
      all_goals
        go_ret
        refine ⟨?_, K.out⟩
        rw [HE.out]
        go_light
        clear HE HA HY Hp
        simp_all

set_option maxHeartbeats 2000000 in
set_option maxRecDepth 100000 in
theorem fits_7 (f : Nat) (x : Dat) (wi : Nat) (w : World) (b o : Nat) (hD : IsD w b o x) (hw : wi < 64) (hk : x.f0 = 7)
    (hsz : dsz x ≤ 5000) (ih : ∀ (x : Dat) (wi' : Nat) (w : World) (b o : Nat), IsD w b o x → wi' = wi + 1 → dsz x ≤ 5000 → Calls Tryz.prog 133 #[.pointer (some ⟨b, o, none⟩), .int .i64 wi'] w fun e w' => e = .returned (.bool (fitB f x)) ∧ Below w.heap.size w w') :
    Calls Tryz.prog 133 #[.pointer (some ⟨b, o, none⟩), .int .i64 wi] w fun e w' => e = .returned (.bool (fitB (f + 1) x)) ∧ Below w.heap.size w w' := by
  obtain ⟨A, c, h0, h1, h2, h3, h4, h6⟩ := hD.ex
  rw [hk] at h0
  obtain ⟨k, N, T, xs⟩ := x
  dsimp only at h0 h1 h2 h3 h4 h6 hk ⊢
  subst hk
  obtain ⟨n, hn⟩ : ∃ n, xs.length = n := ⟨_, rfl⟩
  have Hn := Box.mk hn
  have hsz2 : dszL xs + 1 ≤ 5000 := by rw [dsz_eq] at hsz; exact hsz
  have Hsz := Box.mk hsz2
  have hn5 : n ≤ 5000 := by have := length_le_dszL xs; omega
  clear hsz hsz2
  have H6 := Box.mk h6
  rw [hn] at h3 h4
  have H1 := Box.mk h1
  have H2 := Box.mk h2
  have H3 := Box.mk h3
  by_cases hn2 : n < 2
  · have HE : Box (fitB (f + 1) ⟨7, N, T, xs⟩ = false) := ⟨by rw [fitB, if_neg (show ¬ (7 : Int) = 1 by decide), if_neg (show ¬ (7 : Int) = 2 by decide), if_neg (show ¬ (7 : Int) = 3 by decide), if_neg (show ¬ (7 : Int) = 4 by decide), if_neg (show ¬ (7 : Int) = 5 by decide), if_pos rfl]; simp [hn]; omega⟩
    clear hD h1 h2 h4 h6 hn ih
    go_enter Tryz.func133, Tryz.ntmps133
    go_wp2_with fail
    go_ret
    exact ⟨by rw [HE.out]; rfl, Below.refl _ _⟩
  obtain ⟨lk, hlk⟩ : ∃ lk : Int, (xs.getD (n - 1) datZ).f0 = lk := ⟨_, rfl⟩
  obtain ⟨bl, ol, hAl, hbl, hEl⟩ := isD_elem h6 (i := n - 1) (by omega)
  obtain ⟨_, _, hl0, _⟩ := hEl.ex
  rw [hlk] at hl0
  have hnn : ((n : Int) - 1) = ((n - 1 : Nat) : Int) := by omega
  have hl1 : w.cell? ⟨bl, ol + (n - 1) * 4, none⟩ = some (.int .i64 lk) := hl0
  obtain ⟨p, hp⟩ : ∃ p, n - 1 = p := ⟨_, rfl⟩
  have hnp : n = p + 1 := by omega
  by_cases hbad : lk = 6 ∨ lk = 7
  · have HE : Box (fitB (f + 1) ⟨7, N, T, xs⟩ = false) := ⟨by
      rw [fitB, if_neg (show ¬ (7 : Int) = 1 by decide), if_neg (show ¬ (7 : Int) = 2 by decide), if_neg (show ¬ (7 : Int) = 3 by decide), if_neg (show ¬ (7 : Int) = 4 by decide), if_neg (show ¬ (7 : Int) = 5 by decide), if_pos rfl]
      simp only [hn, hlk]
      rcases hbad with e | e <;> subst e <;> simp⟩
    subst hAl
    rw [hp] at hl1
    clear hD h1 h2 h4 h6 hn ih hbl hEl hl0 hnn
    subst hnp
    rcases hbad with e | e
    all_goals
      subst e
      clear hlk
      go_enter Tryz.func133, Tryz.ntmps133
      go_wp2_with fail
      go_ret
      exact ⟨by rw [HE.out]; rfl, Below.refl _ _⟩
  have m6 : (lk == 6) = false := by rw [beq_eq_false_iff_ne]; intro e; exact hbad (.inl e)
  have m7 : (lk == 7) = false := by rw [beq_eq_false_iff_ne]; intro e; exact hbad (.inr e)
  have HY : Box (fitB (f + 1) ⟨7, N, T, xs⟩ = true ↔ (∀ k, k < n → fitB f (xs.getD k datZ) = true) ∧ (N == 0) = true ∧ T.toList.isEmpty = true) := ⟨by
    rw [fitB, if_neg (show ¬ (7 : Int) = 1 by decide), if_neg (show ¬ (7 : Int) = 2 by decide), if_neg (show ¬ (7 : Int) = 3 by decide), if_neg (show ¬ (7 : Int) = 4 by decide), if_neg (show ¬ (7 : Int) = 5 by decide), if_pos rfl, ByteArray.toList_eq, ← hn, ← all_getD]
    simp only [hn, hlk, m6, m7]
    have : decide (2 ≤ n) = true := by simp; omega
    simp [this, and_assoc]⟩
  have HA : Box (xs.all (fitB f) = true → fitB (f + 1) ⟨7, N, T, xs⟩ = ((N == 0) && T.toList.isEmpty)) := ⟨fun h => by
    rw [fitB, if_neg (show ¬ (7 : Int) = 1 by decide), if_neg (show ¬ (7 : Int) = 2 by decide), if_neg (show ¬ (7 : Int) = 3 by decide), if_neg (show ¬ (7 : Int) = 4 by decide), if_neg (show ¬ (7 : Int) = 5 by decide), if_pos rfl, ByteArray.toList_eq]
    simp only [hn, hlk, m6, m7, h]
    have : decide (2 ≤ n) = true := by simp; omega
    simp [this]⟩
  subst hAl
  rw [hp] at hl1
  have Hbl := Box.mk hbl
  have hp1 : 1 ≤ p := by omega
  have hcap : p + 1 ≤ c := by omega
  clear hD h1 h2 h4 h6 hn hEl hl0 hnn hn2 hlk hbad hp hbl
  subst hnp
  go_enter Tryz.func133, Tryz.ntmps133
  go_wp2_with fail
  go_loopw [174] (fun i wr => ∃ (j : Nat), j ≤ p + 1 ∧ i = .int .i64 j ∧ Box (∀ k, k < j → fitB f (xs.getD k datZ) = true) ∧ Box (Below w.heap.size w wr)) (fun i _ => p + 1 - (intOf i).toNat)
  case atStart => exact ⟨0, Nat.zero_le _, rfl, ⟨fun k hk => absurd hk (Nat.not_lt_zero _)⟩, ⟨Below.refl _ _⟩⟩
  case round =>
    obtain ⟨j, hj, rfl, Hp, K⟩ := hrel
    by_cases hjn : j < p + 1
    · have hj0 : (0 : Int) ≤ (j : Int) := by omega
      obtain ⟨bb, oo, hA, hb, hE⟩ := isD_elem H6.out (i := j) (by rw [Hn.out]; exact hjn)
      injection hA with hA
      injection hA with e1 e2 _
      rw [← e1, ← e2] at hE
      clear e1 e2 hb
      have hcell := cell_below H3.out K.out
      have hcell2 := cell_below H2.out K.out
      have HI := Box.mk (ih (xs.getD j datZ) (wi + 1) wr bl (ol + j * 4) (hE.below K.out) (by omega) (by have := dsz_getD_lt xs j (by rw [Hn.out]; exact hjn); have := Hsz.out; omega))
      have HN : Box (fitB f (xs.getD j datZ) = false → fitB (f + 1) ⟨7, N, T, xs⟩ = false) := ⟨fun h => by
        cases h2 : fitB (f + 1) ⟨7, N, T, xs⟩ with
        | false => rfl
        | true =>
          have h3 := HY.out.1 h2
          have h4 := h3.1 j hjn
          rw [h] at h4
          cases h4⟩
      clear hE
      obtain ⟨v, hv⟩ : ∃ v, fitB f (xs.getD j datZ) = v := ⟨_, rfl⟩
      have Hv := Box.mk hv
      rw [hv] at HI
      have hwi : ((wi + 1 : Nat) : Int) = (wi : Int) + 1 := by omega
      rw [hwi] at HI
      clear hv hwi
      go_wp2_with fail
      refine HI.out.mono ?_
      rintro e w2 ⟨rfl, k2⟩
      have K2 := Box.mk (K.out.trans (k2.mono K.out.size))
      clear k2
      cases v with
      | true =>
        have hp2 : Box (∀ k, k < j + 1 → fitB f (xs.getD k datZ) = true) := ⟨fun k hk => by
          by_cases e : k = j
          · rw [e]; exact Hv.out
          · exact Hp.out k (by omega)⟩
        go_wp2_with fail
        go_roundw
        case rel => exact ⟨j + 1, by omega, by go_num, hp2, K2⟩
        case measure => simp [intOf]; omega
      | false =>
        go_wp2_with fail
        go_ret
        exact ⟨by rw [HN.out Hv.out]; rfl, K2.out⟩
    · have hjn2 : j = p + 1 := by omega
      have HE : Box (fitB (f + 1) ⟨7, N, T, xs⟩ = ((N == 0) && T.toList.isEmpty)) := ⟨by
        have hall : xs.all (fitB f) = true := (all_getD _ _).2 (fun k hk => Hp.out k (by have := Hn.out; omega))
        exact HA.out hall⟩
      have hc1 := cell_below H1.out K.out
      have hc2 := cell_below H2.out K.out
      have hc3 := cell_below H3.out K.out
      go_wp2_with fail
      all_goals
        go_ret
        refine ⟨?_, K.out⟩
        rw [HE.out]
        go_light
        clear HE HA HY Hp
        simp_all

theorem fits_is (f : Nat) : ∀ (x : Dat) (wi : Nat) (w : World) (b o : Nat), IsD w b o x → wi + f = 64 → dsz x ≤ 5000 →
    Calls Tryz.prog 133 #[.pointer (some ⟨b, o, none⟩), .int .i64 wi] w fun e w' => e = .returned (.bool (fitB f x)) ∧ Below w.heap.size w w' := by
  induction f with
  | zero => intro x wi w b o hD hf hz; exact fits_0 x wi w b o (by omega) (by omega)
  | succ f ih =>
    intro x wi w b o hD hf hz
    have ih2 : ∀ (x : Dat) (wi' : Nat) (w : World) (b o : Nat), IsD w b o x → wi' = wi + 1 → dsz x ≤ 5000 → Calls Tryz.prog 133 #[.pointer (some ⟨b, o, none⟩), .int .i64 wi'] w fun e w' => e = .returned (.bool (fitB f x)) ∧ Below w.heap.size w w' :=
      fun x wi' w b o h e hz => ih x wi' w b o h (by omega) hz
    by_cases n1 : x.f0 = 1
    · exact fits_1 f x wi w b o hD (by omega) n1
    by_cases n2 : x.f0 = 2
    · exact fits_2 f x wi w b o hD (by omega) n2
    by_cases n3 : x.f0 = 3
    · exact fits_3 f x wi w b o hD (by omega) n3
    by_cases n4 : x.f0 = 4
    · exact fits_4 f x wi w b o hD (by omega) n4
    by_cases n5 : x.f0 = 5
    · exact fits_5 f x wi w b o hD (by omega) n5
    by_cases n6 : x.f0 = 6
    · exact fits_6 f x wi w b o hD (by omega) n6 hz ih2
    by_cases n7 : x.f0 = 7
    · exact fits_7 f x wi w b o hD (by omega) n7 hz ih2
    by_cases n8 : x.f0 = 8
    · exact fits_8 f x wi w b o hD (by omega) n8 hz ih2
    exact fits_no f x wi w b o hD (by omega) n1 n2 n3 n4 n5 n6 n7 n8

end Go.Proofs.YtiimojpaeccajaaGreatDoor
