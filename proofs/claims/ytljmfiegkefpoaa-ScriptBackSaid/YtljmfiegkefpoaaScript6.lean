/- The document's Read, walked. -/
import Derived.Test.YtljmfiegkefpoaaScript5
namespace Go.Proofs.Ytljmfiegkefpoaa
set_option linter.unusedVariables false
set_option linter.unusedSimpArgs false
open Go.RowKit

def strSize (v : Value) : Nat := match v with
  | .string r => r.size
  | _ => 0

theorem actOf_none0 {r : ByteArray} (h : r.size = 0) : actOf r = none := by unfold actOf; rw [if_pos h]

theorem acts_step {r0 r r1 : ByteArray} {done : List Act3} {a : Act3} {n : Nat} (hr1 : r.extract 1 r.size = r1) (h : actOf r = some (a, n + 1)) (hacts : acts r0 = done ++ acts r) : acts r0 = (done ++ [a]) ++ acts (r1.extract n r1.size) := by
  have hl := actOf_len h
  rw [hacts, acts_some h, ← hr1, rest_rest r 1 n (by omega), Nat.add_comm 1 n]
  simp

set_option maxRecDepth 100000 in
set_option maxHeartbeats 8000000 in
theorem read22_is (s : ByteArray) (w : World) (hs : s.size ≤ 140737488351232) :
    Calls Try.prog 29 #[.string s] w fun e w' => ∃ v, e = .returned v ∧ w'.ownsRow w.heap.size 72 3 v (acts (cutTo s)).length (actCells (acts (cutTo s))) ∧ Keeps (fun _ => False) w w' := by
  obtain ⟨i0, hi0, hz0, hz1, hz2⟩ := info_parts info_act
  have Hi := Box.mk (And.intro hi0 (And.intro hz0 (And.intro hz1 hz2)))
  clear hi0 hz0 hz1 hz2
  obtain ⟨r0, hr0⟩ : ∃ r0, cutTo s = r0 := ⟨_, rfl⟩
  have hr16 : r0.size ≤ 16384 := by rw [← hr0]; unfold cutTo; simp; omega
  rcases Nat.lt_or_ge 16384 s.size with hb | hb
  · have hc : s.extract 0 16384 = r0 := by rw [← hr0]; unfold cutTo; rw [show min s.size 16384 = 16384 by omega]
    rw [hr0]
    clear hr0
    go_enter Try.func29, Try.ntmps29
    go_wp2_with fail
    clear hc hb
    have HK := Box.mk (Keeps.refl (fun _ => False) w)
    have Hown : Box (w.ownsRow w.heap.size 72 3 (.slice none 0 0) ([] : List Act3).length (actCells [])) := ⟨World.ownsRow_nil _ _ _ _⟩
    go_loopw [0, 3] (fun a v wr => ∃ (done : List Act3) (r : ByteArray), a = .string r ∧ r.size ≤ 16384 ∧ acts r0 = done ++ acts r ∧ Box (wr.ownsRow w.heap.size 72 3 v done.length (actCells done)) ∧ Box (Keeps (fun _ => False) w wr)) (fun a _ _ => strSize a)
    case atStart => exact ⟨[], r0, rfl, hr16, rfl, Hown, HK⟩
    case round =>
      clear Hown HK
      obtain ⟨done, r, rfl, hr, hacts, Hown, K⟩ := hrel
      by_cases h0 : r.size = 0
      · rw [acts_none (actOf_none0 h0), List.append_nil] at hacts
        go_wp2_with fail
        go_ret
        exact ⟨_, rfl, by rw [hacts]; exact Hown.out, K.out⟩
      · obtain ⟨r1, hr1⟩ : ∃ r1, r.extract 1 r.size = r1 := ⟨_, rfl⟩
        have hr1s : r1.size = r.size - 1 := by rw [← hr1]; simp
        have hb0 : (r[0]'(by omega)).toNat = byt r 0 := by unfold byt; rw [ByteArray.getElem?_lt' _ _ (show 0 < r.size by omega)]; rfl
        have hlen : done.length ≤ 16384 := by
          have h1 := acts_length (r := r0)
          rw [hacts] at h1
          simp at h1
          omega
        obtain ⟨fl, hfl⟩ : ∃ fl, done.length = fl := ⟨_, rfl⟩
        have Hown1 : Box (wr.ownsRow w.heap.size 72 3 u3 fl (actCells done)) := ⟨by rw [← hfl]; exact Hown.out⟩
        rw [hfl] at hlen
        have Hfl := Box.mk hfl
        have Hacts := Box.mk hacts
        have Hr1 := Box.mk hr1
        have hws := K.out.size
        obtain ⟨q, hq⟩ : ∃ q, byt r 0 = q := ⟨_, rfl⟩
        have hlt8 := byt_lt r 0
        rw [hq] at hlt8 hb0
        obtain ⟨c, hc⟩ : ∃ c, q % 8 = c := ⟨_, rfl⟩
        have hm : (q : Int).tmod 8 = (c : Int) := by rw [Int.tmod_eq_emod_of_nonneg (by omega)]; omega
        have hc8 : c < 8 := by omega
        have Hq := Box.mk (show byt r 0 % 8 = c by rw [hq]; exact hc)
        clear hfl hacts hq hc Hown
        match c, hc8 with
        | 0, _ =>
          have HA := Box.mk (acts_step (n := 0) Hr1.out (show actOf r = some (⟨1, 0, ⟨#[10]⟩⟩, 0 + 1) by unfold actOf; rw [if_neg h0]; simp only [Hq.out]; simp [noText]) Hacts.out)
          clear Hacts Hq Hr1

          go_wp2_with (at_builtin; refine wpList_append_own _ rfl _ _ 53 rfl w.heap.size 72 i0 _ 3 32 Try.underlying53 Hi.out.1 Hi.out.2.1 Hi.out.2.2.1 Hi.out.2.2.2 rfl (by decide) u3 fl _ rfl (((Hown1.out.alloc _).alloc _).alloc _) ⟨wr.heap.size + 2, 0, none⟩ 1 1 [.int .i64 1, .int .i64 0, .string ⟨#[10]⟩] rfl rfl ?c1 ?c2 ?c3 ?c4 ?c5 ?c6)
          case c1 => exact World.news_of_block (cs := #[.int .i64 1, .int .i64 0, .string ⟨#[10]⟩]) (t := 72) (fr := (0, 0)) (by have := heap_alloc_new ((wr.alloc (.cells #[.int .i64 0, .int .i64 1, .int .i64 1, .int .i64 0, .int .i64 2, .int .i64 1, .int .i64 1, .int .i64 0] 3)).alloc (.cells #[.int .i64 1, .int .i64 0, .string ⟨#[10]⟩] 72)) (.cells #[.int .i64 1, .int .i64 0, .string ⟨#[10]⟩] 72); rw [show ((wr.alloc (.cells #[.int .i64 0, .int .i64 1, .int .i64 1, .int .i64 0, .int .i64 2, .int .i64 1, .int .i64 1, .int .i64 0] 3)).alloc (.cells #[.int .i64 1, .int .i64 0, .string ⟨#[10]⟩] 72)).heap.size = wr.heap.size + 2 by simp] at this; exact this)
          case c2 => intro u hu; simp at hu; rcases hu with rfl | rfl | rfl <;> rfl
          case c3 => unfold maxLen; omega
          case c4 => omega
          case c5 => simp; omega
          case c6 =>
            intro v' w6 hown6 hgrow _
            have hl6 : (done ++ [⟨1, 0, ⟨#[10]⟩⟩] : List Act3).length = fl + 1 := by simp [Hfl.out]
            have Hown6 : Box (w6.ownsRow w.heap.size 72 3 v' (done ++ [⟨1, 0, ⟨#[10]⟩⟩] : List Act3).length (actCells (done ++ [⟨1, 0, ⟨#[10]⟩⟩]))) := ⟨by rw [hl6, actCells_snoc]; exact hown6⟩
            have k6 : Keeps (fun z => u3.ownBlock = some z) wr w6 := (((((Keeps.refl (fun z => u3.ownBlock = some z) wr).alloc _).alloc _).alloc _)).grown hgrow (fun k hk _ => hk)
            have hub : ∀ z, u3.ownBlock = some z → w.heap.size ≤ z := fun z hz => (Hown1.out.lt z hz).1
            have K6 := Box.mk (K.out.trans' k6 (by intro i hi h; have := hub _ h; omega))
            clear hown6 hgrow k6 hl6 hub Hown1 K
            go_wp2_with fail
            go_roundw
            case rel => exact ⟨done ++ [⟨1, 0, ⟨#[10]⟩⟩], _, rfl, by simp; omega, by have h := HA.out; rw [hr1s] at h; simpa using h, Hown6, K6⟩
            case measure => simp [strSize]; omega
        | 1, _ =>
          by_cases hs : r.size < 2
          · have hn : actOf r = none := by unfold actOf; rw [if_neg h0]; simp only [Hq.out]; simp; omega
            have HA := Hacts.out
            rw [acts_none hn, List.append_nil] at HA
            have HF : Box (wr.ownsRow w.heap.size 72 3 u3 (acts r0).length (actCells (acts r0))) := ⟨by rw [HA, Hfl.out]; exact Hown1.out⟩
            clear hn Hacts Hown1 HA Hq Hr1
            go_wp2_with fail
            go_ret
            exact ⟨_, rfl, HF.out.alloc _, K.out.alloc _⟩
          · have hl1 : 0 < r1.size := by omega
            have hb1 : (r1[0]'hl1).toNat = byt r 1 := by have := byt_rest r 1 0 (by omega); rw [Hr1.out] at this; rw [← this]; unfold byt; rw [ByteArray.getElem?_lt' _ _ hl1]; rfl
            obtain ⟨q1, hq1⟩ : ∃ q1, byt r 1 = q1 := ⟨_, rfl⟩
            have hlt1 := byt_lt r 1
            rw [hq1] at hb1 hlt1

            obtain ⟨nn, hnn⟩ : ∃ nn : Nat, 1 + q1 = nn := ⟨_, rfl⟩
            have hn1 : (1 : Int) + (q1 : Int) = (nn : Int) := by omega
            have hnn0 : nn ≤ 256 := by omega
            have hnn1 : 1 ≤ nn := by omega
            by_cases hs2 : r1.size < nn
            · have hn : actOf r = none := by unfold actOf; rw [if_neg h0]; simp only [Hq.out]; simp; omega
              have HA := Hacts.out
              rw [acts_none hn, List.append_nil] at HA
              have HF : Box (wr.ownsRow w.heap.size 72 3 u3 (acts r0).length (actCells (acts r0))) := ⟨by rw [HA, Hfl.out]; exact Hown1.out⟩
              clear hn Hacts Hown1 HA Hq Hr1
              go_wp2_with fail
              go_ret
              exact ⟨_, rfl, (HF.out.alloc _).alloc _, (K.out.alloc _).alloc _⟩
            · have htx : r.extract 2 (2 + q1) = r1.extract 1 nn := by rw [← Hr1.out, ByteArray.extract_extract]; congr 1; omega
              have HA := Box.mk (acts_step (n := nn) Hr1.out (show actOf r = some (⟨1, 0, r1.extract 1 nn⟩, nn + 1) by unfold actOf; rw [if_neg h0]; simp only [Hq.out, hq1, htx]; simp [hs, show ¬ r.size < 2 + q1 by omega]; omega) Hacts.out)
              clear Hacts Hq Hr1 hq1 htx
              have hnn2 : nn ≤ r1.size := by omega

              go_wp2_with (at_builtin; refine wpList_append_own _ rfl _ _ 53 rfl w.heap.size 72 i0 _ 3 32 Try.underlying53 Hi.out.1 Hi.out.2.1 Hi.out.2.2.1 Hi.out.2.2.2 rfl (by decide) u3 fl _ rfl (((Hown1.out.alloc _).alloc _).alloc _) ⟨wr.heap.size + 2, 0, none⟩ 1 1 [.int .i64 1, .int .i64 0, .string (r1.extract 1 nn)] rfl rfl ?c1 ?c2 ?c3 ?c4 ?c5 ?c6)
              case c1 => exact World.news_of_block (cs := #[.int .i64 1, .int .i64 0, .string (r1.extract 1 nn)]) (t := 72) (fr := (0, 0)) (by have := heap_alloc_new ((wr.alloc (.cells #[.int .i64 0, .int .i64 1, .int .i64 1, .int .i64 0, .int .i64 2, .int .i64 1, .int .i64 1, .int .i64 0] 3)).alloc (.cells #[.int .i64 1, .int .i64 0, .string (r1.extract 1 nn)] 72)) (.cells #[.int .i64 1, .int .i64 0, .string (r1.extract 1 nn)] 72); rw [show ((wr.alloc (.cells #[.int .i64 0, .int .i64 1, .int .i64 1, .int .i64 0, .int .i64 2, .int .i64 1, .int .i64 1, .int .i64 0] 3)).alloc (.cells #[.int .i64 1, .int .i64 0, .string (r1.extract 1 nn)] 72)).heap.size = wr.heap.size + 2 by simp] at this; exact this)
              case c2 => intro u hu; simp at hu; rcases hu with rfl | rfl | rfl <;> rfl
              case c3 => unfold maxLen; omega
              case c4 => omega
              case c5 => simp; omega
              case c6 =>
                intro v' w6 hown6 hgrow _
                have hl6 : (done ++ [⟨1, 0, r1.extract 1 nn⟩] : List Act3).length = fl + 1 := by simp [Hfl.out]
                have Hown6 : Box (w6.ownsRow w.heap.size 72 3 v' (done ++ [⟨1, 0, r1.extract 1 nn⟩] : List Act3).length (actCells (done ++ [⟨1, 0, r1.extract 1 nn⟩]))) := ⟨by rw [hl6, actCells_snoc]; exact hown6⟩
                have k6 : Keeps (fun z => u3.ownBlock = some z) wr w6 := (((((Keeps.refl (fun z => u3.ownBlock = some z) wr).alloc _).alloc _).alloc _)).grown hgrow (fun k hk _ => hk)
                have hub : ∀ z, u3.ownBlock = some z → w.heap.size ≤ z := fun z hz => (Hown1.out.lt z hz).1
                have K6 := Box.mk (K.out.trans' k6 (by intro i hi h; have := hub _ h; omega))
                clear hown6 hgrow k6 hl6 hub Hown1 K
                go_wp2_with fail
                go_roundw
                case rel => exact ⟨done ++ [⟨1, 0, r1.extract 1 nn⟩], _, rfl, by simp; omega, by have h := HA.out; rw [hr1s] at h; simpa using h, Hown6, K6⟩
                case measure => simp [strSize]; omega
        | 2, _ =>
          by_cases hs : r.size < 2
          · have hn : actOf r = none := by unfold actOf; rw [if_neg h0]; simp only [Hq.out]; simp; omega
            have HA := Hacts.out
            rw [acts_none hn, List.append_nil] at HA
            have HF : Box (wr.ownsRow w.heap.size 72 3 u3 (acts r0).length (actCells (acts r0))) := ⟨by rw [HA, Hfl.out]; exact Hown1.out⟩
            clear hn Hacts Hown1 HA Hq Hr1
            go_wp2_with fail
            go_ret
            exact ⟨_, rfl, HF.out.alloc _, K.out.alloc _⟩
          · have hl1 : 0 < r1.size := by omega
            have hb1 : (r1[0]'hl1).toNat = byt r 1 := by have := byt_rest r 1 0 (by omega); rw [Hr1.out] at this; rw [← this]; unfold byt; rw [ByteArray.getElem?_lt' _ _ hl1]; rfl
            obtain ⟨q1, hq1⟩ : ∃ q1, byt r 1 = q1 := ⟨_, rfl⟩
            have hlt1 := byt_lt r 1
            rw [hq1] at hb1 hlt1

            have HA := Box.mk (acts_step (n := 1) Hr1.out (show actOf r = some (⟨2, q1, noText⟩, 1 + 1) by unfold actOf; rw [if_neg h0]; simp only [Hq.out, hq1]; simp [hs]) Hacts.out)
            clear Hacts Hq Hr1 hq1

            go_wp2_with (at_builtin; refine wpList_append_own _ rfl _ _ 53 rfl w.heap.size 72 i0 _ 3 32 Try.underlying53 Hi.out.1 Hi.out.2.1 Hi.out.2.2.1 Hi.out.2.2.2 rfl (by decide) u3 fl _ rfl (((Hown1.out.alloc _).alloc _).alloc _) ⟨wr.heap.size + 2, 0, none⟩ 1 1 [.int .i64 2, .int .i64 q1, .string ⟨#[]⟩] rfl rfl ?c1 ?c2 ?c3 ?c4 ?c5 ?c6)
            case c1 => exact World.news_of_block (cs := #[.int .i64 2, .int .i64 q1, .string ⟨#[]⟩]) (t := 72) (fr := (0, 0)) (by have := heap_alloc_new ((wr.alloc (.cells #[.int .i64 0, .int .i64 1, .int .i64 1, .int .i64 0, .int .i64 2, .int .i64 1, .int .i64 1, .int .i64 0] 3)).alloc (.cells #[.int .i64 2, .int .i64 q1, .string ⟨#[]⟩] 72)) (.cells #[.int .i64 2, .int .i64 q1, .string ⟨#[]⟩] 72); rw [show ((wr.alloc (.cells #[.int .i64 0, .int .i64 1, .int .i64 1, .int .i64 0, .int .i64 2, .int .i64 1, .int .i64 1, .int .i64 0] 3)).alloc (.cells #[.int .i64 2, .int .i64 q1, .string ⟨#[]⟩] 72)).heap.size = wr.heap.size + 2 by simp] at this; exact this)
            case c2 => intro u hu; simp at hu; rcases hu with rfl | rfl | rfl <;> rfl
            case c3 => unfold maxLen; omega
            case c4 => omega
            case c5 => simp; omega
            case c6 =>
              intro v' w6 hown6 hgrow _
              have hl6 : (done ++ [⟨2, q1, noText⟩] : List Act3).length = fl + 1 := by simp [Hfl.out]
              have Hown6 : Box (w6.ownsRow w.heap.size 72 3 v' (done ++ [⟨2, q1, noText⟩] : List Act3).length (actCells (done ++ [⟨2, q1, noText⟩]))) := ⟨by rw [hl6, actCells_snoc]; exact hown6⟩
              have k6 : Keeps (fun z => u3.ownBlock = some z) wr w6 := (((((Keeps.refl (fun z => u3.ownBlock = some z) wr).alloc _).alloc _).alloc _)).grown hgrow (fun k hk _ => hk)
              have hub : ∀ z, u3.ownBlock = some z → w.heap.size ≤ z := fun z hz => (Hown1.out.lt z hz).1
              have K6 := Box.mk (K.out.trans' k6 (by intro i hi h; have := hub _ h; omega))
              clear hown6 hgrow k6 hl6 hub Hown1 K
              go_wp2_with fail
              go_roundw
              case rel => exact ⟨done ++ [⟨2, q1, noText⟩], _, rfl, by simp; omega, by have h := HA.out; rw [hr1s] at h; simpa using h, Hown6, K6⟩
              case measure => simp [strSize]; omega
        | 3, _ =>
          have HA := Box.mk (acts_step (n := 0) Hr1.out (show actOf r = some (⟨3, 0, noText⟩, 0 + 1) by unfold actOf; rw [if_neg h0]; simp only [Hq.out]; simp [noText]) Hacts.out)
          clear Hacts Hq Hr1

          go_wp2_with (at_builtin; refine wpList_append_own _ rfl _ _ 53 rfl w.heap.size 72 i0 _ 3 32 Try.underlying53 Hi.out.1 Hi.out.2.1 Hi.out.2.2.1 Hi.out.2.2.2 rfl (by decide) u3 fl _ rfl (((Hown1.out.alloc _).alloc _).alloc _) ⟨wr.heap.size + 2, 0, none⟩ 1 1 [.int .i64 3, .int .i64 0, .string ⟨#[]⟩] rfl rfl ?c1 ?c2 ?c3 ?c4 ?c5 ?c6)
          case c1 => exact World.news_of_block (cs := #[.int .i64 3, .int .i64 0, .string ⟨#[]⟩]) (t := 72) (fr := (0, 0)) (by have := heap_alloc_new ((wr.alloc (.cells #[.int .i64 0, .int .i64 1, .int .i64 1, .int .i64 0, .int .i64 2, .int .i64 1, .int .i64 1, .int .i64 0] 3)).alloc (.cells #[.int .i64 3, .int .i64 0, .string ⟨#[]⟩] 72)) (.cells #[.int .i64 3, .int .i64 0, .string ⟨#[]⟩] 72); rw [show ((wr.alloc (.cells #[.int .i64 0, .int .i64 1, .int .i64 1, .int .i64 0, .int .i64 2, .int .i64 1, .int .i64 1, .int .i64 0] 3)).alloc (.cells #[.int .i64 3, .int .i64 0, .string ⟨#[]⟩] 72)).heap.size = wr.heap.size + 2 by simp] at this; exact this)
          case c2 => intro u hu; simp at hu; rcases hu with rfl | rfl | rfl <;> rfl
          case c3 => unfold maxLen; omega
          case c4 => omega
          case c5 => simp; omega
          case c6 =>
            intro v' w6 hown6 hgrow _
            have hl6 : (done ++ [⟨3, 0, noText⟩] : List Act3).length = fl + 1 := by simp [Hfl.out]
            have Hown6 : Box (w6.ownsRow w.heap.size 72 3 v' (done ++ [⟨3, 0, noText⟩] : List Act3).length (actCells (done ++ [⟨3, 0, noText⟩]))) := ⟨by rw [hl6, actCells_snoc]; exact hown6⟩
            have k6 : Keeps (fun z => u3.ownBlock = some z) wr w6 := (((((Keeps.refl (fun z => u3.ownBlock = some z) wr).alloc _).alloc _).alloc _)).grown hgrow (fun k hk _ => hk)
            have hub : ∀ z, u3.ownBlock = some z → w.heap.size ≤ z := fun z hz => (Hown1.out.lt z hz).1
            have K6 := Box.mk (K.out.trans' k6 (by intro i hi h; have := hub _ h; omega))
            clear hown6 hgrow k6 hl6 hub Hown1 K
            go_wp2_with fail
            go_roundw
            case rel => exact ⟨done ++ [⟨3, 0, noText⟩], _, rfl, by simp; omega, by have h := HA.out; rw [hr1s] at h; simpa using h, Hown6, K6⟩
            case measure => simp [strSize]; omega
        | 4, _ =>
          by_cases hs : r.size < 3
          · have hn : actOf r = none := by unfold actOf; rw [if_neg h0]; simp only [Hq.out]; simp; omega
            have HA := Hacts.out
            rw [acts_none hn, List.append_nil] at HA
            have HF : Box (wr.ownsRow w.heap.size 72 3 u3 (acts r0).length (actCells (acts r0))) := ⟨by rw [HA, Hfl.out]; exact Hown1.out⟩
            clear hn Hacts Hown1 HA Hq Hr1
            go_wp2_with fail
            go_ret
            exact ⟨_, rfl, HF.out.alloc _, K.out.alloc _⟩
          · have hl1 : 0 < r1.size := by omega
            have hb1 : (r1[0]'hl1).toNat = byt r 1 := by have := byt_rest r 1 0 (by omega); rw [Hr1.out] at this; rw [← this]; unfold byt; rw [ByteArray.getElem?_lt' _ _ hl1]; rfl
            obtain ⟨q1, hq1⟩ : ∃ q1, byt r 1 = q1 := ⟨_, rfl⟩
            have hlt1 := byt_lt r 1
            rw [hq1] at hb1 hlt1
            have hl2 : 1 < r1.size := by omega
            have hb2 : (r1[1]'hl2).toNat = byt r 2 := by have := byt_rest r 1 1 (by omega); rw [Hr1.out] at this; rw [← this]; unfold byt; rw [ByteArray.getElem?_lt' _ _ hl2]; rfl
            obtain ⟨q2, hq2⟩ : ∃ q2, byt r 2 = q2 := ⟨_, rfl⟩
            have hlt2 := byt_lt r 2
            rw [hq2] at hb2 hlt2
            have HA := Box.mk (acts_step (n := 2) Hr1.out (show actOf r = some (⟨4, q1 + 256 * q2, noText⟩, 2 + 1) by unfold actOf; rw [if_neg h0]; simp only [Hq.out, hq1, hq2]; simp [hs]) Hacts.out)
            clear Hacts Hq Hr1 hq1 hq2
            obtain ⟨qq, hqq⟩ : ∃ qq, q1 + 256 * q2 = qq := ⟨_, rfl⟩
            have hq3 : (q1 : Int) + 256 * (q2 : Int) = (qq : Int) := by omega
            rw [hqq] at HA
            clear hqq
            go_wp2_with fail
            go_region

            go_wp2_with (at_builtin; refine wpList_append_own _ rfl _ _ 53 rfl w.heap.size 72 i0 _ 3 32 Try.underlying53 Hi.out.1 Hi.out.2.1 Hi.out.2.2.1 Hi.out.2.2.2 rfl (by decide) u3 fl _ rfl (((Hown1.out.alloc _).alloc _).alloc _) ⟨wr.heap.size + 2, 0, none⟩ 1 1 [.int .i64 4, .int .i64 qq, .string ⟨#[]⟩] rfl rfl ?c1 ?c2 ?c3 ?c4 ?c5 ?c6)
            case c1 => exact World.news_of_block (cs := #[.int .i64 4, .int .i64 qq, .string ⟨#[]⟩]) (t := 72) (fr := (0, 0)) (by have := heap_alloc_new ((wr.alloc (.cells #[.int .i64 0, .int .i64 1, .int .i64 1, .int .i64 0, .int .i64 2, .int .i64 1, .int .i64 1, .int .i64 0] 3)).alloc (.cells #[.int .i64 4, .int .i64 qq, .string ⟨#[]⟩] 72)) (.cells #[.int .i64 4, .int .i64 qq, .string ⟨#[]⟩] 72); rw [show ((wr.alloc (.cells #[.int .i64 0, .int .i64 1, .int .i64 1, .int .i64 0, .int .i64 2, .int .i64 1, .int .i64 1, .int .i64 0] 3)).alloc (.cells #[.int .i64 4, .int .i64 qq, .string ⟨#[]⟩] 72)).heap.size = wr.heap.size + 2 by simp] at this; exact this)
            case c2 => intro u hu; simp at hu; rcases hu with rfl | rfl | rfl <;> rfl
            case c3 => unfold maxLen; omega
            case c4 => omega
            case c5 => simp; omega
            case c6 =>
              intro v' w6 hown6 hgrow _
              have hl6 : (done ++ [⟨4, qq, noText⟩] : List Act3).length = fl + 1 := by simp [Hfl.out]
              have Hown6 : Box (w6.ownsRow w.heap.size 72 3 v' (done ++ [⟨4, qq, noText⟩] : List Act3).length (actCells (done ++ [⟨4, qq, noText⟩]))) := ⟨by rw [hl6, actCells_snoc]; exact hown6⟩
              have k6 : Keeps (fun z => u3.ownBlock = some z) wr w6 := (((((Keeps.refl (fun z => u3.ownBlock = some z) wr).alloc _).alloc _).alloc _).drew).grown hgrow (fun k hk _ => hk)
              have hub : ∀ z, u3.ownBlock = some z → w.heap.size ≤ z := fun z hz => (Hown1.out.lt z hz).1
              have K6 := Box.mk (K.out.trans' k6 (by intro i hi h; have := hub _ h; omega))
              clear hown6 hgrow k6 hl6 hub Hown1 K
              go_wp2_with fail
              go_roundw
              case rel => exact ⟨done ++ [⟨4, qq, noText⟩], _, rfl, by simp; omega, by have h := HA.out; rw [hr1s] at h; simpa using h, Hown6, K6⟩
              case measure => simp [strSize]; omega
        | 5, _ =>
          by_cases hs : r.size < 2
          · have hn : actOf r = none := by unfold actOf; rw [if_neg h0]; simp only [Hq.out]; simp; omega
            have HA := Hacts.out
            rw [acts_none hn, List.append_nil] at HA
            have HF : Box (wr.ownsRow w.heap.size 72 3 u3 (acts r0).length (actCells (acts r0))) := ⟨by rw [HA, Hfl.out]; exact Hown1.out⟩
            clear hn Hacts Hown1 HA Hq Hr1
            go_wp2_with fail
            go_ret
            exact ⟨_, rfl, HF.out.alloc _, K.out.alloc _⟩
          · have hl1 : 0 < r1.size := by omega
            have hb1 : (r1[0]'hl1).toNat = byt r 1 := by have := byt_rest r 1 0 (by omega); rw [Hr1.out] at this; rw [← this]; unfold byt; rw [ByteArray.getElem?_lt' _ _ hl1]; rfl
            obtain ⟨q1, hq1⟩ : ∃ q1, byt r 1 = q1 := ⟨_, rfl⟩
            have hlt1 := byt_lt r 1
            rw [hq1] at hb1 hlt1

            have HA := Box.mk (acts_step (n := 1) Hr1.out (show actOf r = some (⟨5, q1, noText⟩, 1 + 1) by unfold actOf; rw [if_neg h0]; simp only [Hq.out, hq1]; simp [hs]) Hacts.out)
            clear Hacts Hq Hr1 hq1

            go_wp2_with (at_builtin; refine wpList_append_own _ rfl _ _ 53 rfl w.heap.size 72 i0 _ 3 32 Try.underlying53 Hi.out.1 Hi.out.2.1 Hi.out.2.2.1 Hi.out.2.2.2 rfl (by decide) u3 fl _ rfl (((Hown1.out.alloc _).alloc _).alloc _) ⟨wr.heap.size + 2, 0, none⟩ 1 1 [.int .i64 5, .int .i64 q1, .string ⟨#[]⟩] rfl rfl ?c1 ?c2 ?c3 ?c4 ?c5 ?c6)
            case c1 => exact World.news_of_block (cs := #[.int .i64 5, .int .i64 q1, .string ⟨#[]⟩]) (t := 72) (fr := (0, 0)) (by have := heap_alloc_new ((wr.alloc (.cells #[.int .i64 0, .int .i64 1, .int .i64 1, .int .i64 0, .int .i64 2, .int .i64 1, .int .i64 1, .int .i64 0] 3)).alloc (.cells #[.int .i64 5, .int .i64 q1, .string ⟨#[]⟩] 72)) (.cells #[.int .i64 5, .int .i64 q1, .string ⟨#[]⟩] 72); rw [show ((wr.alloc (.cells #[.int .i64 0, .int .i64 1, .int .i64 1, .int .i64 0, .int .i64 2, .int .i64 1, .int .i64 1, .int .i64 0] 3)).alloc (.cells #[.int .i64 5, .int .i64 q1, .string ⟨#[]⟩] 72)).heap.size = wr.heap.size + 2 by simp] at this; exact this)
            case c2 => intro u hu; simp at hu; rcases hu with rfl | rfl | rfl <;> rfl
            case c3 => unfold maxLen; omega
            case c4 => omega
            case c5 => simp; omega
            case c6 =>
              intro v' w6 hown6 hgrow _
              have hl6 : (done ++ [⟨5, q1, noText⟩] : List Act3).length = fl + 1 := by simp [Hfl.out]
              have Hown6 : Box (w6.ownsRow w.heap.size 72 3 v' (done ++ [⟨5, q1, noText⟩] : List Act3).length (actCells (done ++ [⟨5, q1, noText⟩]))) := ⟨by rw [hl6, actCells_snoc]; exact hown6⟩
              have k6 : Keeps (fun z => u3.ownBlock = some z) wr w6 := (((((Keeps.refl (fun z => u3.ownBlock = some z) wr).alloc _).alloc _).alloc _)).grown hgrow (fun k hk _ => hk)
              have hub : ∀ z, u3.ownBlock = some z → w.heap.size ≤ z := fun z hz => (Hown1.out.lt z hz).1
              have K6 := Box.mk (K.out.trans' k6 (by intro i hi h; have := hub _ h; omega))
              clear hown6 hgrow k6 hl6 hub Hown1 K
              go_wp2_with fail
              go_roundw
              case rel => exact ⟨done ++ [⟨5, q1, noText⟩], _, rfl, by simp; omega, by have h := HA.out; rw [hr1s] at h; simpa using h, Hown6, K6⟩
              case measure => simp [strSize]; omega
        | 6, _ =>
          by_cases hs : r.size < 2
          · have hn : actOf r = none := by unfold actOf; rw [if_neg h0]; simp only [Hq.out]; simp; omega
            have HA := Hacts.out
            rw [acts_none hn, List.append_nil] at HA
            have HF : Box (wr.ownsRow w.heap.size 72 3 u3 (acts r0).length (actCells (acts r0))) := ⟨by rw [HA, Hfl.out]; exact Hown1.out⟩
            clear hn Hacts Hown1 HA Hq Hr1
            go_wp2_with fail
            go_ret
            exact ⟨_, rfl, HF.out.alloc _, K.out.alloc _⟩
          · have hl1 : 0 < r1.size := by omega
            have hb1 : (r1[0]'hl1).toNat = byt r 1 := by have := byt_rest r 1 0 (by omega); rw [Hr1.out] at this; rw [← this]; unfold byt; rw [ByteArray.getElem?_lt' _ _ hl1]; rfl
            obtain ⟨q1, hq1⟩ : ∃ q1, byt r 1 = q1 := ⟨_, rfl⟩
            have hlt1 := byt_lt r 1
            rw [hq1] at hb1 hlt1

            have HA := Box.mk (acts_step (n := 1) Hr1.out (show actOf r = some (⟨6, q1, noText⟩, 1 + 1) by unfold actOf; rw [if_neg h0]; simp only [Hq.out, hq1]; simp [hs]) Hacts.out)
            clear Hacts Hq Hr1 hq1

            go_wp2_with (at_builtin; refine wpList_append_own _ rfl _ _ 53 rfl w.heap.size 72 i0 _ 3 32 Try.underlying53 Hi.out.1 Hi.out.2.1 Hi.out.2.2.1 Hi.out.2.2.2 rfl (by decide) u3 fl _ rfl (((Hown1.out.alloc _).alloc _).alloc _) ⟨wr.heap.size + 2, 0, none⟩ 1 1 [.int .i64 6, .int .i64 q1, .string ⟨#[]⟩] rfl rfl ?c1 ?c2 ?c3 ?c4 ?c5 ?c6)
            case c1 => exact World.news_of_block (cs := #[.int .i64 6, .int .i64 q1, .string ⟨#[]⟩]) (t := 72) (fr := (0, 0)) (by have := heap_alloc_new ((wr.alloc (.cells #[.int .i64 0, .int .i64 1, .int .i64 1, .int .i64 0, .int .i64 2, .int .i64 1, .int .i64 1, .int .i64 0] 3)).alloc (.cells #[.int .i64 6, .int .i64 q1, .string ⟨#[]⟩] 72)) (.cells #[.int .i64 6, .int .i64 q1, .string ⟨#[]⟩] 72); rw [show ((wr.alloc (.cells #[.int .i64 0, .int .i64 1, .int .i64 1, .int .i64 0, .int .i64 2, .int .i64 1, .int .i64 1, .int .i64 0] 3)).alloc (.cells #[.int .i64 6, .int .i64 q1, .string ⟨#[]⟩] 72)).heap.size = wr.heap.size + 2 by simp] at this; exact this)
            case c2 => intro u hu; simp at hu; rcases hu with rfl | rfl | rfl <;> rfl
            case c3 => unfold maxLen; omega
            case c4 => omega
            case c5 => simp; omega
            case c6 =>
              intro v' w6 hown6 hgrow _
              have hl6 : (done ++ [⟨6, q1, noText⟩] : List Act3).length = fl + 1 := by simp [Hfl.out]
              have Hown6 : Box (w6.ownsRow w.heap.size 72 3 v' (done ++ [⟨6, q1, noText⟩] : List Act3).length (actCells (done ++ [⟨6, q1, noText⟩]))) := ⟨by rw [hl6, actCells_snoc]; exact hown6⟩
              have k6 : Keeps (fun z => u3.ownBlock = some z) wr w6 := (((((Keeps.refl (fun z => u3.ownBlock = some z) wr).alloc _).alloc _).alloc _)).grown hgrow (fun k hk _ => hk)
              have hub : ∀ z, u3.ownBlock = some z → w.heap.size ≤ z := fun z hz => (Hown1.out.lt z hz).1
              have K6 := Box.mk (K.out.trans' k6 (by intro i hi h; have := hub _ h; omega))
              clear hown6 hgrow k6 hl6 hub Hown1 K
              go_wp2_with fail
              go_roundw
              case rel => exact ⟨done ++ [⟨6, q1, noText⟩], _, rfl, by simp; omega, by have h := HA.out; rw [hr1s] at h; simpa using h, Hown6, K6⟩
              case measure => simp [strSize]; omega
        | 7, _ =>
          have HA := Box.mk (acts_step (n := 0) Hr1.out (show actOf r = some (⟨4, 5000, noText⟩, 0 + 1) by unfold actOf; rw [if_neg h0]; simp only [Hq.out]; simp [noText]) Hacts.out)
          clear Hacts Hq Hr1

          go_wp2_with (at_builtin; refine wpList_append_own _ rfl _ _ 53 rfl w.heap.size 72 i0 _ 3 32 Try.underlying53 Hi.out.1 Hi.out.2.1 Hi.out.2.2.1 Hi.out.2.2.2 rfl (by decide) u3 fl _ rfl (((Hown1.out.alloc _).alloc _).alloc _) ⟨wr.heap.size + 2, 0, none⟩ 1 1 [.int .i64 4, .int .i64 5000, .string ⟨#[]⟩] rfl rfl ?c1 ?c2 ?c3 ?c4 ?c5 ?c6)
          case c1 => exact World.news_of_block (cs := #[.int .i64 4, .int .i64 5000, .string ⟨#[]⟩]) (t := 72) (fr := (0, 0)) (by have := heap_alloc_new ((wr.alloc (.cells #[.int .i64 0, .int .i64 1, .int .i64 1, .int .i64 0, .int .i64 2, .int .i64 1, .int .i64 1, .int .i64 0] 3)).alloc (.cells #[.int .i64 4, .int .i64 5000, .string ⟨#[]⟩] 72)) (.cells #[.int .i64 4, .int .i64 5000, .string ⟨#[]⟩] 72); rw [show ((wr.alloc (.cells #[.int .i64 0, .int .i64 1, .int .i64 1, .int .i64 0, .int .i64 2, .int .i64 1, .int .i64 1, .int .i64 0] 3)).alloc (.cells #[.int .i64 4, .int .i64 5000, .string ⟨#[]⟩] 72)).heap.size = wr.heap.size + 2 by simp] at this; exact this)
          case c2 => intro u hu; simp at hu; rcases hu with rfl | rfl | rfl <;> rfl
          case c3 => unfold maxLen; omega
          case c4 => omega
          case c5 => simp; omega
          case c6 =>
            intro v' w6 hown6 hgrow _
            have hl6 : (done ++ [⟨4, 5000, noText⟩] : List Act3).length = fl + 1 := by simp [Hfl.out]
            have Hown6 : Box (w6.ownsRow w.heap.size 72 3 v' (done ++ [⟨4, 5000, noText⟩] : List Act3).length (actCells (done ++ [⟨4, 5000, noText⟩]))) := ⟨by rw [hl6, actCells_snoc]; exact hown6⟩
            have k6 : Keeps (fun z => u3.ownBlock = some z) wr w6 := (((((Keeps.refl (fun z => u3.ownBlock = some z) wr).alloc _).alloc _).alloc _)).grown hgrow (fun k hk _ => hk)
            have hub : ∀ z, u3.ownBlock = some z → w.heap.size ≤ z := fun z hz => (Hown1.out.lt z hz).1
            have K6 := Box.mk (K.out.trans' k6 (by intro i hi h; have := hub _ h; omega))
            clear hown6 hgrow k6 hl6 hub Hown1 K
            go_wp2_with fail
            go_roundw
            case rel => exact ⟨done ++ [⟨4, 5000, noText⟩], _, rfl, by simp; omega, by have h := HA.out; rw [hr1s] at h; simpa using h, Hown6, K6⟩
            case measure => simp [strSize]; omega
  · have hc : r0 = s := by rw [← hr0]; unfold cutTo; rw [show min s.size 16384 = s.size by omega]; simp
    rw [hr0]
    clear hr0
    subst hc
    go_enter Try.func29, Try.ntmps29
    go_wp2_with fail
    clear hb
    have HK := Box.mk (Keeps.refl (fun _ => False) w)
    have Hown : Box (w.ownsRow w.heap.size 72 3 (.slice none 0 0) ([] : List Act3).length (actCells [])) := ⟨World.ownsRow_nil _ _ _ _⟩
    go_loopw [0, 3] (fun a v wr => ∃ (done : List Act3) (r : ByteArray), a = .string r ∧ r.size ≤ 16384 ∧ acts r0 = done ++ acts r ∧ Box (wr.ownsRow w.heap.size 72 3 v done.length (actCells done)) ∧ Box (Keeps (fun _ => False) w wr)) (fun a _ _ => strSize a)
    case atStart => exact ⟨[], r0, rfl, hr16, rfl, Hown, HK⟩
    case round =>
      clear Hown HK
      obtain ⟨done, r, rfl, hr, hacts, Hown, K⟩ := hrel
      by_cases h0 : r.size = 0
      · rw [acts_none (actOf_none0 h0), List.append_nil] at hacts
        go_wp2_with fail
        go_ret
        exact ⟨_, rfl, by rw [hacts]; exact Hown.out, K.out⟩
      · obtain ⟨r1, hr1⟩ : ∃ r1, r.extract 1 r.size = r1 := ⟨_, rfl⟩
        have hr1s : r1.size = r.size - 1 := by rw [← hr1]; simp
        have hb0 : (r[0]'(by omega)).toNat = byt r 0 := by unfold byt; rw [ByteArray.getElem?_lt' _ _ (show 0 < r.size by omega)]; rfl
        have hlen : done.length ≤ 16384 := by
          have h1 := acts_length (r := r0)
          rw [hacts] at h1
          simp at h1
          omega
        obtain ⟨fl, hfl⟩ : ∃ fl, done.length = fl := ⟨_, rfl⟩
        have Hown1 : Box (wr.ownsRow w.heap.size 72 3 u3 fl (actCells done)) := ⟨by rw [← hfl]; exact Hown.out⟩
        rw [hfl] at hlen
        have Hfl := Box.mk hfl
        have Hacts := Box.mk hacts
        have Hr1 := Box.mk hr1
        have hws := K.out.size
        obtain ⟨q, hq⟩ : ∃ q, byt r 0 = q := ⟨_, rfl⟩
        have hlt8 := byt_lt r 0
        rw [hq] at hlt8 hb0
        obtain ⟨c, hc⟩ : ∃ c, q % 8 = c := ⟨_, rfl⟩
        have hm : (q : Int).tmod 8 = (c : Int) := by rw [Int.tmod_eq_emod_of_nonneg (by omega)]; omega
        have hc8 : c < 8 := by omega
        have Hq := Box.mk (show byt r 0 % 8 = c by rw [hq]; exact hc)
        clear hfl hacts hq hc Hown
        match c, hc8 with
        | 0, _ =>
          have HA := Box.mk (acts_step (n := 0) Hr1.out (show actOf r = some (⟨1, 0, ⟨#[10]⟩⟩, 0 + 1) by unfold actOf; rw [if_neg h0]; simp only [Hq.out]; simp [noText]) Hacts.out)
          clear Hacts Hq Hr1

          go_wp2_with (at_builtin; refine wpList_append_own _ rfl _ _ 53 rfl w.heap.size 72 i0 _ 3 32 Try.underlying53 Hi.out.1 Hi.out.2.1 Hi.out.2.2.1 Hi.out.2.2.2 rfl (by decide) u3 fl _ rfl (((Hown1.out.alloc _).alloc _).alloc _) ⟨wr.heap.size + 2, 0, none⟩ 1 1 [.int .i64 1, .int .i64 0, .string ⟨#[10]⟩] rfl rfl ?c1 ?c2 ?c3 ?c4 ?c5 ?c6)
          case c1 => exact World.news_of_block (cs := #[.int .i64 1, .int .i64 0, .string ⟨#[10]⟩]) (t := 72) (fr := (0, 0)) (by have := heap_alloc_new ((wr.alloc (.cells #[.int .i64 0, .int .i64 1, .int .i64 1, .int .i64 0, .int .i64 2, .int .i64 1, .int .i64 1, .int .i64 0] 3)).alloc (.cells #[.int .i64 1, .int .i64 0, .string ⟨#[10]⟩] 72)) (.cells #[.int .i64 1, .int .i64 0, .string ⟨#[10]⟩] 72); rw [show ((wr.alloc (.cells #[.int .i64 0, .int .i64 1, .int .i64 1, .int .i64 0, .int .i64 2, .int .i64 1, .int .i64 1, .int .i64 0] 3)).alloc (.cells #[.int .i64 1, .int .i64 0, .string ⟨#[10]⟩] 72)).heap.size = wr.heap.size + 2 by simp] at this; exact this)
          case c2 => intro u hu; simp at hu; rcases hu with rfl | rfl | rfl <;> rfl
          case c3 => unfold maxLen; omega
          case c4 => omega
          case c5 => simp; omega
          case c6 =>
            intro v' w6 hown6 hgrow _
            have hl6 : (done ++ [⟨1, 0, ⟨#[10]⟩⟩] : List Act3).length = fl + 1 := by simp [Hfl.out]
            have Hown6 : Box (w6.ownsRow w.heap.size 72 3 v' (done ++ [⟨1, 0, ⟨#[10]⟩⟩] : List Act3).length (actCells (done ++ [⟨1, 0, ⟨#[10]⟩⟩]))) := ⟨by rw [hl6, actCells_snoc]; exact hown6⟩
            have k6 : Keeps (fun z => u3.ownBlock = some z) wr w6 := (((((Keeps.refl (fun z => u3.ownBlock = some z) wr).alloc _).alloc _).alloc _)).grown hgrow (fun k hk _ => hk)
            have hub : ∀ z, u3.ownBlock = some z → w.heap.size ≤ z := fun z hz => (Hown1.out.lt z hz).1
            have K6 := Box.mk (K.out.trans' k6 (by intro i hi h; have := hub _ h; omega))
            clear hown6 hgrow k6 hl6 hub Hown1 K
            go_wp2_with fail
            go_roundw
            case rel => exact ⟨done ++ [⟨1, 0, ⟨#[10]⟩⟩], _, rfl, by simp; omega, by have h := HA.out; rw [hr1s] at h; simpa using h, Hown6, K6⟩
            case measure => simp [strSize]; omega
        | 1, _ =>
          by_cases hs : r.size < 2
          · have hn : actOf r = none := by unfold actOf; rw [if_neg h0]; simp only [Hq.out]; simp; omega
            have HA := Hacts.out
            rw [acts_none hn, List.append_nil] at HA
            have HF : Box (wr.ownsRow w.heap.size 72 3 u3 (acts r0).length (actCells (acts r0))) := ⟨by rw [HA, Hfl.out]; exact Hown1.out⟩
            clear hn Hacts Hown1 HA Hq Hr1
            go_wp2_with fail
            go_ret
            exact ⟨_, rfl, HF.out.alloc _, K.out.alloc _⟩
          · have hl1 : 0 < r1.size := by omega
            have hb1 : (r1[0]'hl1).toNat = byt r 1 := by have := byt_rest r 1 0 (by omega); rw [Hr1.out] at this; rw [← this]; unfold byt; rw [ByteArray.getElem?_lt' _ _ hl1]; rfl
            obtain ⟨q1, hq1⟩ : ∃ q1, byt r 1 = q1 := ⟨_, rfl⟩
            have hlt1 := byt_lt r 1
            rw [hq1] at hb1 hlt1

            obtain ⟨nn, hnn⟩ : ∃ nn : Nat, 1 + q1 = nn := ⟨_, rfl⟩
            have hn1 : (1 : Int) + (q1 : Int) = (nn : Int) := by omega
            have hnn0 : nn ≤ 256 := by omega
            have hnn1 : 1 ≤ nn := by omega
            by_cases hs2 : r1.size < nn
            · have hn : actOf r = none := by unfold actOf; rw [if_neg h0]; simp only [Hq.out]; simp; omega
              have HA := Hacts.out
              rw [acts_none hn, List.append_nil] at HA
              have HF : Box (wr.ownsRow w.heap.size 72 3 u3 (acts r0).length (actCells (acts r0))) := ⟨by rw [HA, Hfl.out]; exact Hown1.out⟩
              clear hn Hacts Hown1 HA Hq Hr1
              go_wp2_with fail
              go_ret
              exact ⟨_, rfl, (HF.out.alloc _).alloc _, (K.out.alloc _).alloc _⟩
            · have htx : r.extract 2 (2 + q1) = r1.extract 1 nn := by rw [← Hr1.out, ByteArray.extract_extract]; congr 1; omega
              have HA := Box.mk (acts_step (n := nn) Hr1.out (show actOf r = some (⟨1, 0, r1.extract 1 nn⟩, nn + 1) by unfold actOf; rw [if_neg h0]; simp only [Hq.out, hq1, htx]; simp [hs, show ¬ r.size < 2 + q1 by omega]; omega) Hacts.out)
              clear Hacts Hq Hr1 hq1 htx
              have hnn2 : nn ≤ r1.size := by omega

              go_wp2_with (at_builtin; refine wpList_append_own _ rfl _ _ 53 rfl w.heap.size 72 i0 _ 3 32 Try.underlying53 Hi.out.1 Hi.out.2.1 Hi.out.2.2.1 Hi.out.2.2.2 rfl (by decide) u3 fl _ rfl (((Hown1.out.alloc _).alloc _).alloc _) ⟨wr.heap.size + 2, 0, none⟩ 1 1 [.int .i64 1, .int .i64 0, .string (r1.extract 1 nn)] rfl rfl ?c1 ?c2 ?c3 ?c4 ?c5 ?c6)
              case c1 => exact World.news_of_block (cs := #[.int .i64 1, .int .i64 0, .string (r1.extract 1 nn)]) (t := 72) (fr := (0, 0)) (by have := heap_alloc_new ((wr.alloc (.cells #[.int .i64 0, .int .i64 1, .int .i64 1, .int .i64 0, .int .i64 2, .int .i64 1, .int .i64 1, .int .i64 0] 3)).alloc (.cells #[.int .i64 1, .int .i64 0, .string (r1.extract 1 nn)] 72)) (.cells #[.int .i64 1, .int .i64 0, .string (r1.extract 1 nn)] 72); rw [show ((wr.alloc (.cells #[.int .i64 0, .int .i64 1, .int .i64 1, .int .i64 0, .int .i64 2, .int .i64 1, .int .i64 1, .int .i64 0] 3)).alloc (.cells #[.int .i64 1, .int .i64 0, .string (r1.extract 1 nn)] 72)).heap.size = wr.heap.size + 2 by simp] at this; exact this)
              case c2 => intro u hu; simp at hu; rcases hu with rfl | rfl | rfl <;> rfl
              case c3 => unfold maxLen; omega
              case c4 => omega
              case c5 => simp; omega
              case c6 =>
                intro v' w6 hown6 hgrow _
                have hl6 : (done ++ [⟨1, 0, r1.extract 1 nn⟩] : List Act3).length = fl + 1 := by simp [Hfl.out]
                have Hown6 : Box (w6.ownsRow w.heap.size 72 3 v' (done ++ [⟨1, 0, r1.extract 1 nn⟩] : List Act3).length (actCells (done ++ [⟨1, 0, r1.extract 1 nn⟩]))) := ⟨by rw [hl6, actCells_snoc]; exact hown6⟩
                have k6 : Keeps (fun z => u3.ownBlock = some z) wr w6 := (((((Keeps.refl (fun z => u3.ownBlock = some z) wr).alloc _).alloc _).alloc _)).grown hgrow (fun k hk _ => hk)
                have hub : ∀ z, u3.ownBlock = some z → w.heap.size ≤ z := fun z hz => (Hown1.out.lt z hz).1
                have K6 := Box.mk (K.out.trans' k6 (by intro i hi h; have := hub _ h; omega))
                clear hown6 hgrow k6 hl6 hub Hown1 K
                go_wp2_with fail
                go_roundw
                case rel => exact ⟨done ++ [⟨1, 0, r1.extract 1 nn⟩], _, rfl, by simp; omega, by have h := HA.out; rw [hr1s] at h; simpa using h, Hown6, K6⟩
                case measure => simp [strSize]; omega
        | 2, _ =>
          by_cases hs : r.size < 2
          · have hn : actOf r = none := by unfold actOf; rw [if_neg h0]; simp only [Hq.out]; simp; omega
            have HA := Hacts.out
            rw [acts_none hn, List.append_nil] at HA
            have HF : Box (wr.ownsRow w.heap.size 72 3 u3 (acts r0).length (actCells (acts r0))) := ⟨by rw [HA, Hfl.out]; exact Hown1.out⟩
            clear hn Hacts Hown1 HA Hq Hr1
            go_wp2_with fail
            go_ret
            exact ⟨_, rfl, HF.out.alloc _, K.out.alloc _⟩
          · have hl1 : 0 < r1.size := by omega
            have hb1 : (r1[0]'hl1).toNat = byt r 1 := by have := byt_rest r 1 0 (by omega); rw [Hr1.out] at this; rw [← this]; unfold byt; rw [ByteArray.getElem?_lt' _ _ hl1]; rfl
            obtain ⟨q1, hq1⟩ : ∃ q1, byt r 1 = q1 := ⟨_, rfl⟩
            have hlt1 := byt_lt r 1
            rw [hq1] at hb1 hlt1

            have HA := Box.mk (acts_step (n := 1) Hr1.out (show actOf r = some (⟨2, q1, noText⟩, 1 + 1) by unfold actOf; rw [if_neg h0]; simp only [Hq.out, hq1]; simp [hs]) Hacts.out)
            clear Hacts Hq Hr1 hq1

            go_wp2_with (at_builtin; refine wpList_append_own _ rfl _ _ 53 rfl w.heap.size 72 i0 _ 3 32 Try.underlying53 Hi.out.1 Hi.out.2.1 Hi.out.2.2.1 Hi.out.2.2.2 rfl (by decide) u3 fl _ rfl (((Hown1.out.alloc _).alloc _).alloc _) ⟨wr.heap.size + 2, 0, none⟩ 1 1 [.int .i64 2, .int .i64 q1, .string ⟨#[]⟩] rfl rfl ?c1 ?c2 ?c3 ?c4 ?c5 ?c6)
            case c1 => exact World.news_of_block (cs := #[.int .i64 2, .int .i64 q1, .string ⟨#[]⟩]) (t := 72) (fr := (0, 0)) (by have := heap_alloc_new ((wr.alloc (.cells #[.int .i64 0, .int .i64 1, .int .i64 1, .int .i64 0, .int .i64 2, .int .i64 1, .int .i64 1, .int .i64 0] 3)).alloc (.cells #[.int .i64 2, .int .i64 q1, .string ⟨#[]⟩] 72)) (.cells #[.int .i64 2, .int .i64 q1, .string ⟨#[]⟩] 72); rw [show ((wr.alloc (.cells #[.int .i64 0, .int .i64 1, .int .i64 1, .int .i64 0, .int .i64 2, .int .i64 1, .int .i64 1, .int .i64 0] 3)).alloc (.cells #[.int .i64 2, .int .i64 q1, .string ⟨#[]⟩] 72)).heap.size = wr.heap.size + 2 by simp] at this; exact this)
            case c2 => intro u hu; simp at hu; rcases hu with rfl | rfl | rfl <;> rfl
            case c3 => unfold maxLen; omega
            case c4 => omega
            case c5 => simp; omega
            case c6 =>
              intro v' w6 hown6 hgrow _
              have hl6 : (done ++ [⟨2, q1, noText⟩] : List Act3).length = fl + 1 := by simp [Hfl.out]
              have Hown6 : Box (w6.ownsRow w.heap.size 72 3 v' (done ++ [⟨2, q1, noText⟩] : List Act3).length (actCells (done ++ [⟨2, q1, noText⟩]))) := ⟨by rw [hl6, actCells_snoc]; exact hown6⟩
              have k6 : Keeps (fun z => u3.ownBlock = some z) wr w6 := (((((Keeps.refl (fun z => u3.ownBlock = some z) wr).alloc _).alloc _).alloc _)).grown hgrow (fun k hk _ => hk)
              have hub : ∀ z, u3.ownBlock = some z → w.heap.size ≤ z := fun z hz => (Hown1.out.lt z hz).1
              have K6 := Box.mk (K.out.trans' k6 (by intro i hi h; have := hub _ h; omega))
              clear hown6 hgrow k6 hl6 hub Hown1 K
              go_wp2_with fail
              go_roundw
              case rel => exact ⟨done ++ [⟨2, q1, noText⟩], _, rfl, by simp; omega, by have h := HA.out; rw [hr1s] at h; simpa using h, Hown6, K6⟩
              case measure => simp [strSize]; omega
        | 3, _ =>
          have HA := Box.mk (acts_step (n := 0) Hr1.out (show actOf r = some (⟨3, 0, noText⟩, 0 + 1) by unfold actOf; rw [if_neg h0]; simp only [Hq.out]; simp [noText]) Hacts.out)
          clear Hacts Hq Hr1

          go_wp2_with (at_builtin; refine wpList_append_own _ rfl _ _ 53 rfl w.heap.size 72 i0 _ 3 32 Try.underlying53 Hi.out.1 Hi.out.2.1 Hi.out.2.2.1 Hi.out.2.2.2 rfl (by decide) u3 fl _ rfl (((Hown1.out.alloc _).alloc _).alloc _) ⟨wr.heap.size + 2, 0, none⟩ 1 1 [.int .i64 3, .int .i64 0, .string ⟨#[]⟩] rfl rfl ?c1 ?c2 ?c3 ?c4 ?c5 ?c6)
          case c1 => exact World.news_of_block (cs := #[.int .i64 3, .int .i64 0, .string ⟨#[]⟩]) (t := 72) (fr := (0, 0)) (by have := heap_alloc_new ((wr.alloc (.cells #[.int .i64 0, .int .i64 1, .int .i64 1, .int .i64 0, .int .i64 2, .int .i64 1, .int .i64 1, .int .i64 0] 3)).alloc (.cells #[.int .i64 3, .int .i64 0, .string ⟨#[]⟩] 72)) (.cells #[.int .i64 3, .int .i64 0, .string ⟨#[]⟩] 72); rw [show ((wr.alloc (.cells #[.int .i64 0, .int .i64 1, .int .i64 1, .int .i64 0, .int .i64 2, .int .i64 1, .int .i64 1, .int .i64 0] 3)).alloc (.cells #[.int .i64 3, .int .i64 0, .string ⟨#[]⟩] 72)).heap.size = wr.heap.size + 2 by simp] at this; exact this)
          case c2 => intro u hu; simp at hu; rcases hu with rfl | rfl | rfl <;> rfl
          case c3 => unfold maxLen; omega
          case c4 => omega
          case c5 => simp; omega
          case c6 =>
            intro v' w6 hown6 hgrow _
            have hl6 : (done ++ [⟨3, 0, noText⟩] : List Act3).length = fl + 1 := by simp [Hfl.out]
            have Hown6 : Box (w6.ownsRow w.heap.size 72 3 v' (done ++ [⟨3, 0, noText⟩] : List Act3).length (actCells (done ++ [⟨3, 0, noText⟩]))) := ⟨by rw [hl6, actCells_snoc]; exact hown6⟩
            have k6 : Keeps (fun z => u3.ownBlock = some z) wr w6 := (((((Keeps.refl (fun z => u3.ownBlock = some z) wr).alloc _).alloc _).alloc _)).grown hgrow (fun k hk _ => hk)
            have hub : ∀ z, u3.ownBlock = some z → w.heap.size ≤ z := fun z hz => (Hown1.out.lt z hz).1
            have K6 := Box.mk (K.out.trans' k6 (by intro i hi h; have := hub _ h; omega))
            clear hown6 hgrow k6 hl6 hub Hown1 K
            go_wp2_with fail
            go_roundw
            case rel => exact ⟨done ++ [⟨3, 0, noText⟩], _, rfl, by simp; omega, by have h := HA.out; rw [hr1s] at h; simpa using h, Hown6, K6⟩
            case measure => simp [strSize]; omega
        | 4, _ =>
          by_cases hs : r.size < 3
          · have hn : actOf r = none := by unfold actOf; rw [if_neg h0]; simp only [Hq.out]; simp; omega
            have HA := Hacts.out
            rw [acts_none hn, List.append_nil] at HA
            have HF : Box (wr.ownsRow w.heap.size 72 3 u3 (acts r0).length (actCells (acts r0))) := ⟨by rw [HA, Hfl.out]; exact Hown1.out⟩
            clear hn Hacts Hown1 HA Hq Hr1
            go_wp2_with fail
            go_ret
            exact ⟨_, rfl, HF.out.alloc _, K.out.alloc _⟩
          · have hl1 : 0 < r1.size := by omega
            have hb1 : (r1[0]'hl1).toNat = byt r 1 := by have := byt_rest r 1 0 (by omega); rw [Hr1.out] at this; rw [← this]; unfold byt; rw [ByteArray.getElem?_lt' _ _ hl1]; rfl
            obtain ⟨q1, hq1⟩ : ∃ q1, byt r 1 = q1 := ⟨_, rfl⟩
            have hlt1 := byt_lt r 1
            rw [hq1] at hb1 hlt1
            have hl2 : 1 < r1.size := by omega
            have hb2 : (r1[1]'hl2).toNat = byt r 2 := by have := byt_rest r 1 1 (by omega); rw [Hr1.out] at this; rw [← this]; unfold byt; rw [ByteArray.getElem?_lt' _ _ hl2]; rfl
            obtain ⟨q2, hq2⟩ : ∃ q2, byt r 2 = q2 := ⟨_, rfl⟩
            have hlt2 := byt_lt r 2
            rw [hq2] at hb2 hlt2
            have HA := Box.mk (acts_step (n := 2) Hr1.out (show actOf r = some (⟨4, q1 + 256 * q2, noText⟩, 2 + 1) by unfold actOf; rw [if_neg h0]; simp only [Hq.out, hq1, hq2]; simp [hs]) Hacts.out)
            clear Hacts Hq Hr1 hq1 hq2
            obtain ⟨qq, hqq⟩ : ∃ qq, q1 + 256 * q2 = qq := ⟨_, rfl⟩
            have hq3 : (q1 : Int) + 256 * (q2 : Int) = (qq : Int) := by omega
            rw [hqq] at HA
            clear hqq
            go_wp2_with fail
            go_region

            go_wp2_with (at_builtin; refine wpList_append_own _ rfl _ _ 53 rfl w.heap.size 72 i0 _ 3 32 Try.underlying53 Hi.out.1 Hi.out.2.1 Hi.out.2.2.1 Hi.out.2.2.2 rfl (by decide) u3 fl _ rfl (((Hown1.out.alloc _).alloc _).alloc _) ⟨wr.heap.size + 2, 0, none⟩ 1 1 [.int .i64 4, .int .i64 qq, .string ⟨#[]⟩] rfl rfl ?c1 ?c2 ?c3 ?c4 ?c5 ?c6)
            case c1 => exact World.news_of_block (cs := #[.int .i64 4, .int .i64 qq, .string ⟨#[]⟩]) (t := 72) (fr := (0, 0)) (by have := heap_alloc_new ((wr.alloc (.cells #[.int .i64 0, .int .i64 1, .int .i64 1, .int .i64 0, .int .i64 2, .int .i64 1, .int .i64 1, .int .i64 0] 3)).alloc (.cells #[.int .i64 4, .int .i64 qq, .string ⟨#[]⟩] 72)) (.cells #[.int .i64 4, .int .i64 qq, .string ⟨#[]⟩] 72); rw [show ((wr.alloc (.cells #[.int .i64 0, .int .i64 1, .int .i64 1, .int .i64 0, .int .i64 2, .int .i64 1, .int .i64 1, .int .i64 0] 3)).alloc (.cells #[.int .i64 4, .int .i64 qq, .string ⟨#[]⟩] 72)).heap.size = wr.heap.size + 2 by simp] at this; exact this)
            case c2 => intro u hu; simp at hu; rcases hu with rfl | rfl | rfl <;> rfl
            case c3 => unfold maxLen; omega
            case c4 => omega
            case c5 => simp; omega
            case c6 =>
              intro v' w6 hown6 hgrow _
              have hl6 : (done ++ [⟨4, qq, noText⟩] : List Act3).length = fl + 1 := by simp [Hfl.out]
              have Hown6 : Box (w6.ownsRow w.heap.size 72 3 v' (done ++ [⟨4, qq, noText⟩] : List Act3).length (actCells (done ++ [⟨4, qq, noText⟩]))) := ⟨by rw [hl6, actCells_snoc]; exact hown6⟩
              have k6 : Keeps (fun z => u3.ownBlock = some z) wr w6 := (((((Keeps.refl (fun z => u3.ownBlock = some z) wr).alloc _).alloc _).alloc _).drew).grown hgrow (fun k hk _ => hk)
              have hub : ∀ z, u3.ownBlock = some z → w.heap.size ≤ z := fun z hz => (Hown1.out.lt z hz).1
              have K6 := Box.mk (K.out.trans' k6 (by intro i hi h; have := hub _ h; omega))
              clear hown6 hgrow k6 hl6 hub Hown1 K
              go_wp2_with fail
              go_roundw
              case rel => exact ⟨done ++ [⟨4, qq, noText⟩], _, rfl, by simp; omega, by have h := HA.out; rw [hr1s] at h; simpa using h, Hown6, K6⟩
              case measure => simp [strSize]; omega
        | 5, _ =>
          by_cases hs : r.size < 2
          · have hn : actOf r = none := by unfold actOf; rw [if_neg h0]; simp only [Hq.out]; simp; omega
            have HA := Hacts.out
            rw [acts_none hn, List.append_nil] at HA
            have HF : Box (wr.ownsRow w.heap.size 72 3 u3 (acts r0).length (actCells (acts r0))) := ⟨by rw [HA, Hfl.out]; exact Hown1.out⟩
            clear hn Hacts Hown1 HA Hq Hr1
            go_wp2_with fail
            go_ret
            exact ⟨_, rfl, HF.out.alloc _, K.out.alloc _⟩
          · have hl1 : 0 < r1.size := by omega
            have hb1 : (r1[0]'hl1).toNat = byt r 1 := by have := byt_rest r 1 0 (by omega); rw [Hr1.out] at this; rw [← this]; unfold byt; rw [ByteArray.getElem?_lt' _ _ hl1]; rfl
            obtain ⟨q1, hq1⟩ : ∃ q1, byt r 1 = q1 := ⟨_, rfl⟩
            have hlt1 := byt_lt r 1
            rw [hq1] at hb1 hlt1

            have HA := Box.mk (acts_step (n := 1) Hr1.out (show actOf r = some (⟨5, q1, noText⟩, 1 + 1) by unfold actOf; rw [if_neg h0]; simp only [Hq.out, hq1]; simp [hs]) Hacts.out)
            clear Hacts Hq Hr1 hq1

            go_wp2_with (at_builtin; refine wpList_append_own _ rfl _ _ 53 rfl w.heap.size 72 i0 _ 3 32 Try.underlying53 Hi.out.1 Hi.out.2.1 Hi.out.2.2.1 Hi.out.2.2.2 rfl (by decide) u3 fl _ rfl (((Hown1.out.alloc _).alloc _).alloc _) ⟨wr.heap.size + 2, 0, none⟩ 1 1 [.int .i64 5, .int .i64 q1, .string ⟨#[]⟩] rfl rfl ?c1 ?c2 ?c3 ?c4 ?c5 ?c6)
            case c1 => exact World.news_of_block (cs := #[.int .i64 5, .int .i64 q1, .string ⟨#[]⟩]) (t := 72) (fr := (0, 0)) (by have := heap_alloc_new ((wr.alloc (.cells #[.int .i64 0, .int .i64 1, .int .i64 1, .int .i64 0, .int .i64 2, .int .i64 1, .int .i64 1, .int .i64 0] 3)).alloc (.cells #[.int .i64 5, .int .i64 q1, .string ⟨#[]⟩] 72)) (.cells #[.int .i64 5, .int .i64 q1, .string ⟨#[]⟩] 72); rw [show ((wr.alloc (.cells #[.int .i64 0, .int .i64 1, .int .i64 1, .int .i64 0, .int .i64 2, .int .i64 1, .int .i64 1, .int .i64 0] 3)).alloc (.cells #[.int .i64 5, .int .i64 q1, .string ⟨#[]⟩] 72)).heap.size = wr.heap.size + 2 by simp] at this; exact this)
            case c2 => intro u hu; simp at hu; rcases hu with rfl | rfl | rfl <;> rfl
            case c3 => unfold maxLen; omega
            case c4 => omega
            case c5 => simp; omega
            case c6 =>
              intro v' w6 hown6 hgrow _
              have hl6 : (done ++ [⟨5, q1, noText⟩] : List Act3).length = fl + 1 := by simp [Hfl.out]
              have Hown6 : Box (w6.ownsRow w.heap.size 72 3 v' (done ++ [⟨5, q1, noText⟩] : List Act3).length (actCells (done ++ [⟨5, q1, noText⟩]))) := ⟨by rw [hl6, actCells_snoc]; exact hown6⟩
              have k6 : Keeps (fun z => u3.ownBlock = some z) wr w6 := (((((Keeps.refl (fun z => u3.ownBlock = some z) wr).alloc _).alloc _).alloc _)).grown hgrow (fun k hk _ => hk)
              have hub : ∀ z, u3.ownBlock = some z → w.heap.size ≤ z := fun z hz => (Hown1.out.lt z hz).1
              have K6 := Box.mk (K.out.trans' k6 (by intro i hi h; have := hub _ h; omega))
              clear hown6 hgrow k6 hl6 hub Hown1 K
              go_wp2_with fail
              go_roundw
              case rel => exact ⟨done ++ [⟨5, q1, noText⟩], _, rfl, by simp; omega, by have h := HA.out; rw [hr1s] at h; simpa using h, Hown6, K6⟩
              case measure => simp [strSize]; omega
        | 6, _ =>
          by_cases hs : r.size < 2
          · have hn : actOf r = none := by unfold actOf; rw [if_neg h0]; simp only [Hq.out]; simp; omega
            have HA := Hacts.out
            rw [acts_none hn, List.append_nil] at HA
            have HF : Box (wr.ownsRow w.heap.size 72 3 u3 (acts r0).length (actCells (acts r0))) := ⟨by rw [HA, Hfl.out]; exact Hown1.out⟩
            clear hn Hacts Hown1 HA Hq Hr1
            go_wp2_with fail
            go_ret
            exact ⟨_, rfl, HF.out.alloc _, K.out.alloc _⟩
          · have hl1 : 0 < r1.size := by omega
            have hb1 : (r1[0]'hl1).toNat = byt r 1 := by have := byt_rest r 1 0 (by omega); rw [Hr1.out] at this; rw [← this]; unfold byt; rw [ByteArray.getElem?_lt' _ _ hl1]; rfl
            obtain ⟨q1, hq1⟩ : ∃ q1, byt r 1 = q1 := ⟨_, rfl⟩
            have hlt1 := byt_lt r 1
            rw [hq1] at hb1 hlt1

            have HA := Box.mk (acts_step (n := 1) Hr1.out (show actOf r = some (⟨6, q1, noText⟩, 1 + 1) by unfold actOf; rw [if_neg h0]; simp only [Hq.out, hq1]; simp [hs]) Hacts.out)
            clear Hacts Hq Hr1 hq1

            go_wp2_with (at_builtin; refine wpList_append_own _ rfl _ _ 53 rfl w.heap.size 72 i0 _ 3 32 Try.underlying53 Hi.out.1 Hi.out.2.1 Hi.out.2.2.1 Hi.out.2.2.2 rfl (by decide) u3 fl _ rfl (((Hown1.out.alloc _).alloc _).alloc _) ⟨wr.heap.size + 2, 0, none⟩ 1 1 [.int .i64 6, .int .i64 q1, .string ⟨#[]⟩] rfl rfl ?c1 ?c2 ?c3 ?c4 ?c5 ?c6)
            case c1 => exact World.news_of_block (cs := #[.int .i64 6, .int .i64 q1, .string ⟨#[]⟩]) (t := 72) (fr := (0, 0)) (by have := heap_alloc_new ((wr.alloc (.cells #[.int .i64 0, .int .i64 1, .int .i64 1, .int .i64 0, .int .i64 2, .int .i64 1, .int .i64 1, .int .i64 0] 3)).alloc (.cells #[.int .i64 6, .int .i64 q1, .string ⟨#[]⟩] 72)) (.cells #[.int .i64 6, .int .i64 q1, .string ⟨#[]⟩] 72); rw [show ((wr.alloc (.cells #[.int .i64 0, .int .i64 1, .int .i64 1, .int .i64 0, .int .i64 2, .int .i64 1, .int .i64 1, .int .i64 0] 3)).alloc (.cells #[.int .i64 6, .int .i64 q1, .string ⟨#[]⟩] 72)).heap.size = wr.heap.size + 2 by simp] at this; exact this)
            case c2 => intro u hu; simp at hu; rcases hu with rfl | rfl | rfl <;> rfl
            case c3 => unfold maxLen; omega
            case c4 => omega
            case c5 => simp; omega
            case c6 =>
              intro v' w6 hown6 hgrow _
              have hl6 : (done ++ [⟨6, q1, noText⟩] : List Act3).length = fl + 1 := by simp [Hfl.out]
              have Hown6 : Box (w6.ownsRow w.heap.size 72 3 v' (done ++ [⟨6, q1, noText⟩] : List Act3).length (actCells (done ++ [⟨6, q1, noText⟩]))) := ⟨by rw [hl6, actCells_snoc]; exact hown6⟩
              have k6 : Keeps (fun z => u3.ownBlock = some z) wr w6 := (((((Keeps.refl (fun z => u3.ownBlock = some z) wr).alloc _).alloc _).alloc _)).grown hgrow (fun k hk _ => hk)
              have hub : ∀ z, u3.ownBlock = some z → w.heap.size ≤ z := fun z hz => (Hown1.out.lt z hz).1
              have K6 := Box.mk (K.out.trans' k6 (by intro i hi h; have := hub _ h; omega))
              clear hown6 hgrow k6 hl6 hub Hown1 K
              go_wp2_with fail
              go_roundw
              case rel => exact ⟨done ++ [⟨6, q1, noText⟩], _, rfl, by simp; omega, by have h := HA.out; rw [hr1s] at h; simpa using h, Hown6, K6⟩
              case measure => simp [strSize]; omega
        | 7, _ =>
          have HA := Box.mk (acts_step (n := 0) Hr1.out (show actOf r = some (⟨4, 5000, noText⟩, 0 + 1) by unfold actOf; rw [if_neg h0]; simp only [Hq.out]; simp [noText]) Hacts.out)
          clear Hacts Hq Hr1

          go_wp2_with (at_builtin; refine wpList_append_own _ rfl _ _ 53 rfl w.heap.size 72 i0 _ 3 32 Try.underlying53 Hi.out.1 Hi.out.2.1 Hi.out.2.2.1 Hi.out.2.2.2 rfl (by decide) u3 fl _ rfl (((Hown1.out.alloc _).alloc _).alloc _) ⟨wr.heap.size + 2, 0, none⟩ 1 1 [.int .i64 4, .int .i64 5000, .string ⟨#[]⟩] rfl rfl ?c1 ?c2 ?c3 ?c4 ?c5 ?c6)
          case c1 => exact World.news_of_block (cs := #[.int .i64 4, .int .i64 5000, .string ⟨#[]⟩]) (t := 72) (fr := (0, 0)) (by have := heap_alloc_new ((wr.alloc (.cells #[.int .i64 0, .int .i64 1, .int .i64 1, .int .i64 0, .int .i64 2, .int .i64 1, .int .i64 1, .int .i64 0] 3)).alloc (.cells #[.int .i64 4, .int .i64 5000, .string ⟨#[]⟩] 72)) (.cells #[.int .i64 4, .int .i64 5000, .string ⟨#[]⟩] 72); rw [show ((wr.alloc (.cells #[.int .i64 0, .int .i64 1, .int .i64 1, .int .i64 0, .int .i64 2, .int .i64 1, .int .i64 1, .int .i64 0] 3)).alloc (.cells #[.int .i64 4, .int .i64 5000, .string ⟨#[]⟩] 72)).heap.size = wr.heap.size + 2 by simp] at this; exact this)
          case c2 => intro u hu; simp at hu; rcases hu with rfl | rfl | rfl <;> rfl
          case c3 => unfold maxLen; omega
          case c4 => omega
          case c5 => simp; omega
          case c6 =>
            intro v' w6 hown6 hgrow _
            have hl6 : (done ++ [⟨4, 5000, noText⟩] : List Act3).length = fl + 1 := by simp [Hfl.out]
            have Hown6 : Box (w6.ownsRow w.heap.size 72 3 v' (done ++ [⟨4, 5000, noText⟩] : List Act3).length (actCells (done ++ [⟨4, 5000, noText⟩]))) := ⟨by rw [hl6, actCells_snoc]; exact hown6⟩
            have k6 : Keeps (fun z => u3.ownBlock = some z) wr w6 := (((((Keeps.refl (fun z => u3.ownBlock = some z) wr).alloc _).alloc _).alloc _)).grown hgrow (fun k hk _ => hk)
            have hub : ∀ z, u3.ownBlock = some z → w.heap.size ≤ z := fun z hz => (Hown1.out.lt z hz).1
            have K6 := Box.mk (K.out.trans' k6 (by intro i hi h; have := hub _ h; omega))
            clear hown6 hgrow k6 hl6 hub Hown1 K
            go_wp2_with fail
            go_roundw
            case rel => exact ⟨done ++ [⟨4, 5000, noText⟩], _, rfl, by simp; omega, by have h := HA.out; rw [hr1s] at h; simpa using h, Hown6, K6⟩
            case measure => simp [strSize]; omega

end Go.Proofs.Ytljmfiegkefpoaa
