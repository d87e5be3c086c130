/- Law 22's awake, walked. -/
import Derived.Test.YtljmfiegkefpoaaScript11
namespace Go.Proofs.Ytljmfiegkefpoaa
set_option linter.unusedVariables false
set_option linter.unusedSimpArgs false
open Go.RowKit

theorem lit_acts1 : (acts (cutTo ⟨#[1, 2, 104, 105, 7]⟩)).map Act3.raw = [(1, 0, ⟨#[104, 105]⟩), (4, 5000, ⟨#[]⟩)] := by rfl
theorem lit_acts2 : (acts (cutTo ⟨#[4, 1]⟩)).length = 0 := by rfl
theorem lit_print : encAll [(2, 65, ⟨#[]⟩)] = some ⟨#[2, 65]⟩ := by rfl

theorem IsActs.one (w : World) (k n : Int) (t : ByteArray) : IsActs (w.alloc (.cells #[.int .i64 k, .int .i64 n, .string t] 72)) (.slice (some ⟨w.heap.size, 0, none⟩) 1 1) [(k, n, t)] :=
  IsActs.of_own (base := 0) (World.ownsRow_lit w #[.int .i64 k, .int .i64 n, .string t] 1 (Nat.zero_le _) (by decide) rfl)
theorem IsActs.two (w : World) (k n k' n' : Int) (t t' : ByteArray) : IsActs (w.alloc (.cells #[.int .i64 k, .int .i64 n, .string t, .int .i64 k', .int .i64 n', .string t'] 72)) (.slice (some ⟨w.heap.size, 0, none⟩) 2 2) [(k, n, t), (k', n', t')] :=
  IsActs.of_own (base := 0) (World.ownsRow_lit w #[.int .i64 k, .int .i64 n, .string t, .int .i64 k', .int .i64 n', .string t'] 2 (Nat.zero_le _) (by decide) rfl)
theorem IsActs.of_read {w : World} {base : Nat} {v : Value} {l : List Act3} (h : w.ownsRow base 72 3 v l.length (actCells l)) : IsActs w v (l.map Act3.raw) :=
  IsActs.of_own (base := base) (by rw [List.length_map, acells_raw]; exact h)

set_option maxRecDepth 100000 in
set_option maxHeartbeats 1000000 in
theorem awake22 (w : World) : Calls Try.prog 26 #[] w fun e w' => e = .returned (.bool true) ∧ Keeps (fun _ => False) w w' := by
  go_enter Try.func26, Try.ntmps26
  go_wp2_with fail
  refine (read_is _ _ (by decide)).mono ?_
  rintro e w1 ⟨v, rfl, h1, k1⟩
  have H1 := Box.mk (IsActs.of_read h1)
  rw [lit_acts1] at H1
  obtain ⟨a1, c1, hv, -⟩ := H1.out.form
  simp only [List.length_cons, List.length_nil] at hv
  subst hv
  have K1 := Box.mk k1
  clear h1 k1
  go_wp2_with fail
  refine (print_is (IsActs.one w1 2 65 ⟨#[]⟩) (by simp) (by intro a ha; simp at ha; subst ha; decide)).mono ?_
  rintro e w2 ⟨rfl, k2⟩
  rw [(print_some lit_print (by decide)).1, (print_some lit_print (by decide)).2]
  show _
  have K2 := Box.mk ((K1.out.alloc (.cells #[.int .i64 2, .int .i64 65, .string ⟨#[]⟩] 72)).trans k2)
  have H2 := Box.mk ((H1.out.keeps0 ((Keeps.refl (fun _ => False) w1).alloc (.cells #[.int .i64 2, .int .i64 65, .string ⟨#[]⟩] 72))).keeps0 k2)
  clear k2 H1 K1
  simp only [errV, if_true]
  go_wp2_with fail
  refine (same22_is _ _ _ _ _ (H2.out.keeps0 ((Keeps.refl (fun _ => False) w2).alloc _)) (IsActs.two w2 1 0 4 5000 ⟨#[104, 105]⟩ ⟨#[]⟩)).mono ?_
  rintro e w3 ⟨rfl, q, rfl⟩
  simp only [decide_true]
  go_wp2_with fail
  refine (read_is _ _ (by decide)).mono ?_
  rintro e w4 ⟨v4, rfl, h4, k4⟩
  rw [lit_acts2] at h4
  obtain ⟨va, vc, rfl⟩ : ∃ va vc, v4 = .slice va 0 vc := by
    rcases h4.2 with ⟨h, _⟩ | ⟨g', cap, cur, h, _⟩
    · exact ⟨_, _, h⟩
    · exact ⟨_, _, h⟩
  have K4 := Box.mk (((K2.out.alloc _).drewN q).trans k4)
  clear h4 k4 K2 H2
  go_wp2_with fail
  go_ret
  exact ⟨rfl, K4.out⟩

end Go.Proofs.Ytljmfiegkefpoaa
