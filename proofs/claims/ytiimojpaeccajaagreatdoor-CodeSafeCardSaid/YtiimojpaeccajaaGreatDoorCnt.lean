/- read.counted, read.Parts by their contracts, where there are few parts. -/
import Derived.Test.YtiimojpaeccajaaGreatDoorDt
namespace Go.Proofs.YtiimojpaeccajaaGreatDoor
set_option linter.unusedVariables false
set_option linter.unusedSimpArgs false
open Go.RowKit Go.Proofs.YtiimojpaeccajaaGreatDoorW.PrintWords Go.Proofs.YtiimojpaeccajaaGreatDoorW.PrintLast Go.Proofs.YtiimojpaeccajaaGreatDoorW.PrintMore

set_option maxRecDepth 100000 in
theorem counted_is (N : Nat) : ∀ (x : Dat) (n : Nat) (w : World) (b o : Nat), IsD w b o x → dsz x ≤ N → n + dsz x ≤ 5000 →
    Calls Tryz.prog 146 #[.pointer (some ⟨b, o, none⟩), .int .i64 n] w fun e w' => e = .returned (.int .i64 ((n + dsz x : Nat) : Int)) ∧ Below w.heap.size w w' := by
  induction N with
  | zero => intro x n w b o _ h; have := dsz_pos x; omega
  | succ N ih =>
    intro x n w b o hD hN h5
    obtain ⟨A, c, h0, h1, h2, h3, h4, h6⟩ := hD.ex
    rw [dsz_eq] at hN h5 ⊢
    obtain ⟨xs, hxs⟩ : ∃ xs, x.f3 = xs := ⟨_, rfl⟩
    rw [hxs] at h3 h4 h6 hN h5 ⊢
    have H6 := Box.mk h6
    have HD := Box.mk hD
    have HN := Box.mk (And.intro hN h5)
    obtain ⟨m, hm⟩ : ∃ m, xs.length = m := ⟨_, rfl⟩
    have hml := length_le_dszL xs
    have Hm := Box.mk hm
    rw [hm] at h3 hml
    have H3 := Box.mk h3
    have hn5 : n ≤ 5000 := by omega
    have hm5 : m ≤ 5000 := by omega
    clear hD h0 h1 h2 h4 h6 hN h5 hm hxs hml
    go_enter Tryz.func146, Tryz.ntmps146
    go_wp2_with fail
    go_loopw [13, 1] (fun i v wr => ∃ (j : Nat), j ≤ m ∧ i = .int .i64 j ∧ v = .int .i64 ((n + 1 + dszL (xs.take j) : Nat) : Int) ∧ Box (Below w.heap.size w wr)) (fun i _ _ => m - (intOf i).toNat)
    case atStart => exact ⟨0, Nat.zero_le _, rfl, by simp [dszL_nil], ⟨Below.refl _ _⟩⟩
    case round =>
      obtain ⟨j, hj, rfl, rfl, K⟩ := hrel
      by_cases hjm : j < m
      · have hj0 : (0 : Int) ≤ (j : Int) := by omega
        obtain ⟨q, hq⟩ : ∃ q, n + 1 + dszL (xs.take j) = q := ⟨_, rfl⟩
        have hlt := dszL_take_lt xs j (by rw [Hm.out]; exact hjm)
        have hq5 : q < 5000 := by have := HN.out.2; omega
        have hsc := dszL_take_succ xs j (by rw [Hm.out]; exact hjm)
        have hle := dszL_take_le xs (j + 1)
        have Hq : Box (n + 1 + dszL (xs.take (j + 1)) = q + dsz (xs.getD j datZ)) := ⟨by rw [hsc]; omega⟩
        have hz2 : q + dsz (xs.getD j datZ) ≤ 5000 := by have := HN.out.2; omega
        have hz1 : dsz (xs.getD j datZ) ≤ N := by have := HN.out.1; have := dsz_getD_lt xs j (by rw [Hm.out]; exact hjm); omega
        have Hz := Box.mk (And.intro hz1 hz2)
        obtain ⟨bb, oo, hA, hb, hE⟩ := isD_elem H6.out (i := j) (by rw [Hm.out]; exact hjm)
        subst hA
        have hcell := cell_below H3.out K.out
        have HE := Box.mk (hE.below K.out)
        rw [hq]
        clear hq hlt hsc hle hz1 hz2 hE
        go_wp2_with fail
        refine (ih _ q wr bb (oo + j * 4) HE.out Hz.out.1 Hz.out.2).mono ?_
        rintro e w2 ⟨rfl, k2⟩
        have K2 := Box.mk (K.out.trans (k2.mono K.out.size))
        clear k2
        go_wp2_with fail
        go_roundw
        case rel => exact ⟨j + 1, by omega, by go_num, by rw [Hq.out]; first | rfl | go_num, K2⟩
        case measure => simp [intOf]; omega
      · have hjm2 : j = m := by omega
        have HR : Box (n + 1 + dszL (xs.take j) = n + (dszL xs + 1)) := ⟨by rw [hjm2, ← Hm.out, List.take_length]; omega⟩
        go_wp2_with fail
        go_ret
        exact ⟨by rw [HR.out]; rfl, K.out⟩

end Go.Proofs.YtiimojpaeccajaaGreatDoor
