/- List of a list of one, by its contract. -/
import Derived.Test.YtbjlapfcnldpoaaK6
import Derived.Laws.AppendOwnNone
import Derived.Deep.AppendLies
namespace Go.Proofs.Ytbjlapfcnldpoaa
set_option linter.unusedVariables false
set_option linter.unusedSimpArgs false
open Go.RowKit

set_option maxRecDepth 100000 in
set_option maxHeartbeats 4000000 in
theorem olist_one {hb b g : Nat} {s : TH} {L : Nat → Nat → List Nat} {w : World} {u : Nat} {fs : Nat → Nat} (hI : IsTH w hb b g s) (hs : St s L) (ho : IsObj s L u 1 1 2 fs) (h1 : fs 1 = 4) :
    Calls Try.prog 86 #[.pointer (some ⟨hb, 0, none⟩), .int .u64 ((8 * u + 1 : Nat) : Int), .int .i64 5] w fun e w' => (∃ a c, e = .returned (.tuple #[.slice a 1 c, .nilIface])) ∧ IsTH w' hb b g s ∧ Keeps (foot3 hb b g) w w' := by
  have F0 := fun (W : World) (hW : IsTH W hb b g s) => oField_ok hW hs ho (i := 0) (by decide)
  have F1 := fun (W : World) (hW : IsTH W hb b g s) => oField_ok hW hs ho (i := 1) (by decide)
  rw [h1] at F1
  obtain ⟨y, hy⟩ : ∃ y, fs 0 = y := ⟨_, rfl⟩
  rw [hy] at F0
  obtain ⟨x, hx⟩ : ∃ x : Nat, 8 * u + 1 = x := ⟨_, rfl⟩
  rw [hx] at F0 F1
  rw [hx]
  have hxne : ((x : Int) == 4) = false := by rw [beq_eq_false_iff_ne]; omega
  have HF0 := Box.mk F0
  have HF1 := Box.mk F1
  have H := Box.mk hI
  have Hlt := Box.mk hI.lt
  have Hi := Box.mk (info_parts info_u64)
  clear F0 F1 hI hs ho h1 hy hx
  go_enter Try.func86, Try.ntmps86
  go_wp2_with fail
  refine wp_loop_rounds 2 ?_
  rw [rounds_succ]
  go_wp2_with fail
  refine (wnil_is _).mono ?_
  rintro e w1 ⟨rfl, rfl⟩
  go_wp2_with fail
  refine (HF0.out _ H.out).mono ?_
  rintro e w2 ⟨rfl, hI2, k2⟩
  have H2 := Box.mk hI2
  have K2 := Box.mk k2
  have Hsz := k2.size
  clear hI2 k2 H HF0
  obtain ⟨i0, hi0, hz0, hz1, hz2⟩ := Hi.out
  have Hi2 := Box.mk (And.intro hi0 (And.intro hz0 (And.intro hz1 hz2)))
  clear hi0 hz0 hz1 hz2
  have HO : Box (w2.ownsRow w2.heap.size 30 1 (.slice none 0 0) 0 []) := ⟨World.ownsRow_nil _ _ _ _⟩
  go_wp2_with (at_builtin; refine wpList_append_own _ rfl _ _ 22 rfl w2.heap.size 30 i0 _ 1 8 Try.underlying22 Hi2.out.1 Hi2.out.2.1 Hi2.out.2.2.1 Hi2.out.2.2.2 rfl (by decide) (.slice none 0 0) 0 _ rfl (HO.out.alloc _) ⟨w2.heap.size, 0, none⟩ 1 1 [.int .u64 y] rfl rfl ?c1 ?c2 ?c3 ?c4 ?c5 ?c6)
  case c1 => exact World.news_of_block (cs := #[.int .u64 y]) (t := 30) (fr := (0, 0)) (heap_alloc_new _ _)
  case c2 => intro u hu; simp at hu; subst hu; rfl
  case c3 => unfold maxLen; omega
  case c4 => omega
  case c5 => simp
  case c6 =>
    intro v' w6 hown6 hgrow _
    obtain ⟨a, c, rfl⟩ : ∃ a c, v' = .slice a 1 c := by
      rcases hown6.2 with ⟨-, h0⟩ | ⟨q, c, cur, rfl, -⟩
      · cases h0
      · exact ⟨_, _, rfl⟩
    have k6 : Keeps (fun _ => False) w2 w6 := ((Keeps.refl (fun _ => False) w2).alloc _).grown hgrow (fun k hk _ => by simp [Value.ownBlock] at hk)
    have K6 := Box.mk (K2.out.trans (k6.mono (S' := foot3 hb b g) (fun _ _ h => h.elim)))
    have H6 := Box.mk (H2.out.keeps0 k6)
    clear hown6 hgrow k6 K2 H2 HO Hi2 Hi Hsz
    go_wp2_with fail
    refine (HF1.out _ H6.out).mono ?_
    rintro e w7 ⟨rfl, hI7, k7⟩
    have H7 := Box.mk hI7
    have K7 := Box.mk (K6.out.trans k7)
    clear hI7 k7 H6 K6 HF1
    go_wp2_with fail
    rw [rounds_succ]
    go_wp2_with fail
    refine (wnil_is _).mono ?_
    rintro e w8 ⟨rfl, rfl⟩
    go_wp2_with fail
    go_ret2
    exact ⟨⟨_, _, rfl⟩, H7.out, K7.out⟩

end Go.Proofs.Ytbjlapfcnldpoaa
