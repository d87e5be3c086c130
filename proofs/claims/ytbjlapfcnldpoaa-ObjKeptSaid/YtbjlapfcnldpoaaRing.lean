/- The ring's functions by contracts: links are words of the store. -/
import Derived.Test.YtbjlapfcnldpoaaStoreAt
namespace Go.Proofs.Ytbjlapfcnldpoaa
set_option linter.unusedVariables false
set_option linter.unusedSimpArgs false
open Go.RowKit

/-- A store with these words; how many were touched is not said. -/
def IsW (w : World) (b g : Nat) (W : List Nat) : Prop := ∃ c k, IsStore w ⟨b, g, c, W.map (fun x : Nat => (x : Int)), k⟩
def foot (b g : Nat) : Nat → Prop := fun k => k = b ∨ k = g
/-- The word at p. -/
def wat (W : List Nat) (p : Nat) : Nat := W.getD p 0

theorem IsW.keeps {w w' : World} {b g : Nat} {W : List Nat} (h : IsW w b g W) {S : Nat → Prop} (hk : Keeps S w w') (h1 : ¬ S b) (h2 : ¬ S g) : IsW w' b g W := by
  obtain ⟨c, k, h⟩ := h
  exact ⟨c, k, h.keeps hk h1 h2⟩
theorem IsW.keeps0 {w w' : World} {b g : Nat} {W : List Nat} (h : IsW w b g W) (hk : Keeps (fun _ => False) w w') : IsW w' b g W := h.keeps hk (fun h => h) (fun h => h)
theorem IsW.lt {w : World} {b g : Nat} {W : List Nat} (h : IsW w b g W) : b < w.heap.size ∧ g < w.heap.size := by
  obtain ⟨c, k, h⟩ := h
  exact h.lt
theorem IsW.len {w : World} {b g : Nat} {W : List Nat} (h : IsW w b g W) : W.length ≤ 1048576 := by
  obtain ⟨c, k, h⟩ := h
  simpa using h.len

theorem wget_is {w : World} {b g : Nat} {W : List Nat} {p : Nat} (h : IsW w b g W) (hp : p < W.length) :
    Calls Try.prog 79 #[.pointer (some ⟨b, 0, none⟩), .int .i64 p] w fun e w' => e = .returned (.tuple #[.int .u64 (wat W p), .nilIface]) ∧ IsW w' b g W ∧ Keeps (foot b g) w w' := by
  obtain ⟨c, k, h⟩ := h
  refine (get_at (s := ⟨b, g, c, W.map (fun x : Nat => (x : Int)), k⟩) (i := p) (x := wat W p) (t := ⟨b, g, c, W.map (fun x : Nat => (x : Int)), wrap64 (k + 1)⟩) h ?_ ?_ rfl).mono ?_
  · simp [SSt.has]; omega
  · simp [SSt.at_, wat, List.getD, hp]
  · rintro e w' ⟨rfl, h2, h3⟩
    exact ⟨rfl, ⟨_, _, h2⟩, h3⟩
theorem wset_is {w : World} {b g : Nat} {W : List Nat} {p : Nat} (x : Nat) (h : IsW w b g W) (hp : p < W.length) :
    Calls Try.prog 73 #[.pointer (some ⟨b, 0, none⟩), .int .i64 p, .int .u64 x] w fun e w' => e = .returned .nilIface ∧ IsW w' b g (W.set p x) ∧ Keeps (foot b g) w w' := by
  obtain ⟨c, k, h⟩ := h
  refine (set_at (s := ⟨b, g, c, W.map (fun x : Nat => (x : Int)), k⟩) (i := p) (v := x) (t := ⟨b, g, c, (W.map (fun x : Nat => (x : Int))).set p x, wrap64 (k + 1)⟩) h ?_ ?_).mono ?_
  · simp [SSt.has]; omega
  · simp [SSt.put]
  · rintro e w' ⟨rfl, h2, h3⟩
    refine ⟨rfl, ⟨c, wrap64 (k + 1), ?_⟩, h3⟩
    rw [List.map_set]
    exact h2

set_option maxRecDepth 100000 in
theorem look_is {w : World} {b g : Nat} {W : List Nat} {p q : Nat} (h : IsW w b g W) (hp : p + q < W.length) (hx : wat W (p + q) ≤ 1048576) :
    Calls Try.prog 97 #[.pointer (some ⟨b, 0, none⟩), .int .i64 p, .int .i64 q] w fun e w' => e = .returned (.tuple #[.int .i64 (wat W (p + q)), .nilIface]) ∧ IsW w' b g W ∧ Keeps (foot b g) w w' := by
  have hl := h.len
  have H := Box.mk h
  clear h
  obtain ⟨r, hr⟩ : ∃ r, p + q = r := ⟨_, rfl⟩
  have hr2 : (p : Int) + (q : Int) = (r : Int) := by omega
  rw [hr] at hx hp ⊢
  clear hr
  obtain ⟨x, hxw⟩ : ∃ x, wat W r = x := ⟨_, rfl⟩
  rw [hxw] at hx ⊢
  go_enter Try.func97, Try.ntmps97
  go_wp2_with fail
  refine (wget_is H.out hp).mono ?_
  rw [hxw]
  rintro e w1 ⟨rfl, h1, k1⟩
  have H1 := Box.mk h1
  have K1 := Box.mk k1
  clear h1 k1 hxw
  go_wp2_with fail
  exact bodyPost_ret (v := .tuple #[.int .i64 x, .nilIface]) (by simp [results, Try.results97, go_sem]) rfl ⟨rfl, H1.out, K1.out⟩

theorem IsRow.one (w : World) (x : Nat) (hx : x ≤ 1048576) : IsRow .i64 (w.alloc (.cells #[.int .i64 x] 3)) (.slice (some ⟨w.heap.size, 0, none⟩) 1 1) [(x : Int)] := by
  refine .full (Nat.le_refl _) (by decide) rfl (fun i hi => ?_) (fun n hn => ?_)
  · obtain rfl : i = 0 := by omega
    simp [Addr.add]
  · simp at hn
    subst hn
    simp [Lit.wf, IntKind.min, IntKind.max, IntKind.bits, IntKind.signed]
    omega
theorem IsRow.two (w : World) (x y : Nat) (hx : x ≤ 1048576) (hy : y ≤ 1048576) : IsRow .i64 (w.alloc (.cells #[.int .i64 x, .int .i64 y] 3)) (.slice (some ⟨w.heap.size, 0, none⟩) 2 2) [(x : Int), (y : Int)] := by
  refine .full (Nat.le_refl _) (by decide) rfl (fun i hi => ?_) (fun n hn => ?_)
  · match i, hi with
    | 0, _ => simp [Addr.add]
    | 1, _ => simp [Addr.add]
  · simp at hn
    rcases hn with rfl | rfl
    · simp [Lit.wf, IntKind.min, IntKind.max, IntKind.bits, IntKind.signed]; omega
    · simp [Lit.wf, IntKind.min, IntKind.max, IntKind.bits, IntKind.signed]; omega

set_option maxRecDepth 100000 in
theorem rmay_is {w : World} {p : Addr} {v : Value} {zs : List Int} (hv : IsRow .i64 w v zs) (hz : ∀ z ∈ zs, 0 ≤ z ∧ z ≤ 1048576) :
    Calls Try.prog 96 #[.pointer (some p), v] w fun e w' => e = .returned .nilIface ∧ w' = w := by
  obtain ⟨a, n, c, rfl⟩ := hv.form
  have hl := hv.len
  have HV := Box.mk hv
  have HZ := Box.mk hz
  clear hv hz
  obtain ⟨hl1, hl2⟩ := hl
  have Hl := Box.mk hl1
  clear hl1
  simp only [maxLen] at hl2
  go_enter Try.func96, Try.ntmps96
  go_wp2_with fail
  go_loopw [12] (fun i wr => ∃ k : Nat, k ≤ n ∧ i = .int .i64 k ∧ wr = w) (fun i _ => n - (intOf i).toNat)
  case atStart => exact ⟨0, Nat.zero_le _, rfl, rfl⟩
  case round =>
    obtain ⟨k, hk, rfl, rfl⟩ := hrel
    by_cases hkn : k < n
    · obtain ⟨cb, co, rfl, hcb, hcc⟩ := HV.out.cell hkn
      have hm := HZ.out (zs.getD k 0) (by simp [List.getD, Hl.out, hkn])
      obtain ⟨hm1, hm2⟩ := hm
      have hk0 : (0 : Int) ≤ (k : Int) := by omega
      have hk1 : (k : Int) < (n : Int) := by omega
      have hm3 : ¬ zs.getD k 0 < 0 := by omega
      have hm4 : ¬ 1048576 < zs.getD k 0 := by omega
      generalize zs.getD k 0 = z at *
      go_wp2_with fail
      go_roundw
      case rel => exact ⟨k + 1, by omega, by go_num, trivial⟩
      case measure => simp [intOf]; omega
    · go_wp2_with fail
      go_ret
      first | exact ⟨rfl, rfl⟩ | exact rfl | exact ⟨rfl, trivial⟩

end Go.Proofs.Ytbjlapfcnldpoaa
