/- The script's Read, walked. -/
import Derived.Test.YtljmfiegkefpoaaScript3
namespace Go.Proofs.Ytljmfiegkefpoaa
set_option linter.unusedVariables false
set_option linter.unusedSimpArgs false
open Go.RowKit

/-- How many bytes are left on the tape in block b. -/
def tapeSize (w : World) (b : Nat) : Nat := match w.heap[b]? with
  | some (.cells cs _ _) => (match cs.getD 0 (.bool false) with | .string r => r.size | _ => 0)
  | _ => 0
theorem IsTape.size {w : World} {b : Nat} {r : ByteArray} (h : IsTape w b r) : tapeSize w b = r.size := by
  unfold tapeSize
  rw [h.head]
  simp

theorem lower {w : World} {base base' : Nat} {e : TypeId} {size : Nat} {v : Value} {n : Nat} {xs : List Value} (hb : base' ≤ base) (h : w.ownsRow base e size v n xs) : w.ownsRow base' e size v n xs :=
  ⟨h.1, h.2.imp id (fun ⟨g, cap, cur, h1, h2, h3⟩ => ⟨g, cap, cur, h1, Nat.le_trans hb h2, h3⟩)⟩

/-- The first bytes, as many as a script may have. -/
def cutTo (s : ByteArray) : ByteArray := s.extract 0 (min s.size 16384)

set_option maxRecDepth 100000 in
set_option maxHeartbeats 4000000 in
theorem read_is (s : ByteArray) (w : World) (hs : s.size ≤ 140737488351232) :
    Calls Try.prog 28 #[.string s] w fun e w' => ∃ v, e = .returned v ∧ w'.ownsRow w.heap.size 72 3 v (acts (cutTo s)).length (actCells (acts (cutTo s))) ∧ Keeps (fun _ => False) w w' := by
  obtain ⟨i0, hi0, hz0, hz1, hz2⟩ := info_parts info_act
  have Hi := Box.mk (And.intro hi0 (And.intro hz0 (And.intro hz1 hz2)))
  clear hi0 hz0 hz1 hz2
  obtain ⟨r0, hr0⟩ : ∃ r0, cutTo s = r0 := ⟨_, rfl⟩
  have hr16 : r0.size ≤ 16384 := by rw [← hr0]; unfold cutTo; simp; omega
  rcases Nat.lt_or_ge 16384 s.size with hb | hb
  · have hc : s.extract 0 16384 = r0 := by rw [← hr0]; unfold cutTo; rw [show min s.size 16384 = 16384 by omega]
    rw [hr0]
    clear hr0
    go_enter Try.func28, Try.ntmps28
    go_wp2_with fail
    clear hc hb
    have HT : Box (IsTape (w.alloc (.cells #[.string r0] 75)) w.heap.size r0) := ⟨⟨heap_alloc_new _ _, hr16⟩⟩
    have HK := Box.mk ((Keeps.refl (fun _ => False) w).alloc (.cells #[.string r0] 75))
    obtain ⟨b, hb⟩ : ∃ b, w.heap.size = b := ⟨_, rfl⟩
    rw [hb] at HT ⊢
    have Hown : Box ((w.alloc (.cells #[.string r0] 75)).ownsRow (b + 1) 72 3 (.slice none 0 0) ([] : List Act3).length (actCells [])) := ⟨World.ownsRow_nil _ _ _ _⟩
    have hbs : b < (w.alloc (.cells #[.string r0] 75)).heap.size := by rw [← hb]; simp
    go_loopw [2] (fun v wr => ∃ (done : List Act3) (r : ByteArray), acts r0 = done ++ acts r ∧ Box (IsTape wr b r) ∧ Box (wr.ownsRow (b + 1) 72 3 v done.length (actCells done)) ∧ Box (Keeps (fun _ => False) w wr)) (fun _ wr => tapeSize wr b)
    case atStart => exact ⟨[], r0, rfl, HT, Hown, HK⟩
    case round =>
      clear HT Hown HK hbs
      obtain ⟨done, r, hacts, HT, Hown, K⟩ := hrel
      have hts := HT.out.size
      have hbl := HT.out.lt
      go_wp2_with fail
      refine (act_is HT.out).mono ?_
      intro e w1 hsaid
      cases hsaid with
      | no k n t h hk =>
        have K1 := Box.mk (K.out.trans' hk (by intro i hi h; omega))
        have Hown1 := Box.mk (hk.own Hown.out (fun z hz e => by have := (Hown.out.lt z hz).1; omega))
        rw [acts_none h, List.append_nil] at hacts
        clear hk h HT Hown K
        go_wp2_with fail
        go_ret
        refine ⟨_, rfl, ?_, K1.out.alloc _⟩
        rw [hacts, hb]
        exact lower (Nat.le_succ b) (Hown1.out.alloc _)
      | yes a c h ht hk =>
        obtain ⟨ak, an, at_⟩ := a
        have hal := actOf_len h
        rw [acts_some h] at hacts
        have hlen : done.length ≤ 16384 := by
          have h1 := acts_length (r := r0)
          rw [hacts] at h1
          simp at h1
          omega
        have hb1 : b + 1 ≤ w1.heap.size := by have := hk.size; omega
        have HT1 := Box.mk ht
        have K1 := Box.mk (K.out.trans' hk (by intro i hi h; omega))
        obtain ⟨fl, hfl⟩ : ∃ fl, done.length = fl := ⟨_, rfl⟩
        have Hown1 : Box (w1.ownsRow (b + 1) 72 3 u2 fl (actCells done)) := ⟨by rw [← hfl]; exact hk.own Hown.out (fun z hz e => by have := (Hown.out.lt z hz).1; omega)⟩
        rw [hfl] at hlen
        have Hfl := Box.mk hfl
        have Hts : Box (tapeSize w1 b < tapeSize wr b) := ⟨by rw [ht.size, hts]; simp; omega⟩
        have Hacts := Box.mk hacts
        clear hk ht h HT Hown K hfl hal hts hacts
        simp only [Act3.val]
        go_wp2_with (at_builtin; refine wpList_append_own _ rfl _ _ 53 rfl (b + 1) 72 i0 _ 3 32 Try.underlying53 Hi.out.1 Hi.out.2.1 Hi.out.2.2.1 Hi.out.2.2.2 rfl (by decide) u2 fl _ rfl ((Hown1.out.alloc _).alloc _) ⟨w1.heap.size + 1, 0, none⟩ 1 1 [.int .i64 ak, .int .i64 an, .string at_] rfl rfl ?c1 ?c2 ?c3 ?c4 ?c5 ?c6)
        case c1 => exact World.news_of_block (cs := #[.int .i64 ak, .int .i64 an, .string at_]) (t := 72) (fr := (0, 0)) (by have := heap_alloc_new (w1.alloc (.cells #[.int .i64 ak, .int .i64 an, .string at_] 72)) (.cells #[.int .i64 ak, .int .i64 an, .string at_] 72); simpa using this)
        case c2 => intro u hu; simp at hu; rcases hu with rfl | rfl | rfl <;> rfl
        case c3 => unfold maxLen; omega
        case c4 => omega
        case c5 => simp; omega
        case c6 =>
          intro v' w6 hown6 hgrow _
          have hl6 : (done ++ [⟨ak, an, at_⟩] : List Act3).length = fl + 1 := by simp [Hfl.out]
          have Hown6 : Box (w6.ownsRow (b + 1) 72 3 v' (done ++ [⟨ak, an, at_⟩] : List Act3).length (actCells (done ++ [⟨ak, an, at_⟩]))) := ⟨by rw [hl6, actCells_snoc]; exact hown6⟩
          have k6 : Keeps (fun z => u2.ownBlock = some z) w1 w6 := (((Keeps.refl (fun z => u2.ownBlock = some z) w1).alloc _).alloc _).grown hgrow (fun k hk _ => hk)
          have hub : ∀ z, u2.ownBlock = some z → b + 1 ≤ z := fun z hz => (Hown1.out.lt z hz).1
          have HT6 := Box.mk (HT1.out.keeps k6 (fun h => by have := hub _ h; omega))
          have K6 := Box.mk (K1.out.trans' k6 (by intro i hi h; have := hub _ h; omega))
          have hts6 : tapeSize w6 b < tapeSize wr b := by rw [HT6.out.size, ← HT1.out.size]; exact Hts.out
          have Hts6 := Box.mk hts6
          clear hown6 hgrow k6 hl6 hub hts6 HT1 K1 Hown1 Hts
          go_wp2_with fail
          go_roundw
          case rel => exact ⟨done ++ [⟨ak, an, at_⟩], _, by rw [Hacts.out, List.append_assoc]; rfl, HT6, Hown6, K6⟩
          case measure => exact Hts6.out
  · have hc : s = r0 := by rw [← hr0]; unfold cutTo; rw [show min s.size 16384 = s.size by omega]; simp
    rw [hr0]
    clear hr0
    subst hc
    go_enter Try.func28, Try.ntmps28
    go_wp2_with fail
    clear hb
    have HT : Box (IsTape (w.alloc (.cells #[.string s] 75)) w.heap.size s) := ⟨⟨heap_alloc_new _ _, hr16⟩⟩
    have HK := Box.mk ((Keeps.refl (fun _ => False) w).alloc (.cells #[.string s] 75))
    obtain ⟨b, hb⟩ : ∃ b, w.heap.size = b := ⟨_, rfl⟩
    rw [hb] at HT ⊢
    have Hown : Box ((w.alloc (.cells #[.string s] 75)).ownsRow (b + 1) 72 3 (.slice none 0 0) ([] : List Act3).length (actCells [])) := ⟨World.ownsRow_nil _ _ _ _⟩
    have hbs : b < (w.alloc (.cells #[.string s] 75)).heap.size := by rw [← hb]; simp
    go_loopw [2] (fun v wr => ∃ (done : List Act3) (r : ByteArray), acts s = done ++ acts r ∧ Box (IsTape wr b r) ∧ Box (wr.ownsRow (b + 1) 72 3 v done.length (actCells done)) ∧ Box (Keeps (fun _ => False) w wr)) (fun _ wr => tapeSize wr b)
    case atStart => exact ⟨[], s, rfl, HT, Hown, HK⟩
    case round =>
      clear HT Hown HK hbs
      obtain ⟨done, r, hacts, HT, Hown, K⟩ := hrel
      have hts := HT.out.size
      have hbl := HT.out.lt
      go_wp2_with fail
      refine (act_is HT.out).mono ?_
      intro e w1 hsaid
      cases hsaid with
      | no k n t h hk =>
        have K1 := Box.mk (K.out.trans' hk (by intro i hi h; omega))
        have Hown1 := Box.mk (hk.own Hown.out (fun z hz e => by have := (Hown.out.lt z hz).1; omega))
        rw [acts_none h, List.append_nil] at hacts
        clear hk h HT Hown K
        go_wp2_with fail
        go_ret
        refine ⟨_, rfl, ?_, K1.out.alloc _⟩
        rw [hacts, hb]
        exact lower (Nat.le_succ b) (Hown1.out.alloc _)
      | yes a c h ht hk =>
        obtain ⟨ak, an, at_⟩ := a
        have hal := actOf_len h
        rw [acts_some h] at hacts
        have hlen : done.length ≤ 16384 := by
          have h1 := acts_length (r := s)
          rw [hacts] at h1
          simp at h1
          omega
        have hb1 : b + 1 ≤ w1.heap.size := by have := hk.size; omega
        have HT1 := Box.mk ht
        have K1 := Box.mk (K.out.trans' hk (by intro i hi h; omega))
        obtain ⟨fl, hfl⟩ : ∃ fl, done.length = fl := ⟨_, rfl⟩
        have Hown1 : Box (w1.ownsRow (b + 1) 72 3 u2 fl (actCells done)) := ⟨by rw [← hfl]; exact hk.own Hown.out (fun z hz e => by have := (Hown.out.lt z hz).1; omega)⟩
        rw [hfl] at hlen
        have Hfl := Box.mk hfl
        have Hts : Box (tapeSize w1 b < tapeSize wr b) := ⟨by rw [ht.size, hts]; simp; omega⟩
        have Hacts := Box.mk hacts
        clear hk ht h HT Hown K hfl hal hts hacts
        simp only [Act3.val]
        go_wp2_with (at_builtin; refine wpList_append_own _ rfl _ _ 53 rfl (b + 1) 72 i0 _ 3 32 Try.underlying53 Hi.out.1 Hi.out.2.1 Hi.out.2.2.1 Hi.out.2.2.2 rfl (by decide) u2 fl _ rfl ((Hown1.out.alloc _).alloc _) ⟨w1.heap.size + 1, 0, none⟩ 1 1 [.int .i64 ak, .int .i64 an, .string at_] rfl rfl ?d1 ?d2 ?d3 ?d4 ?d5 ?d6)
        case d1 => exact World.news_of_block (cs := #[.int .i64 ak, .int .i64 an, .string at_]) (t := 72) (fr := (0, 0)) (by have := heap_alloc_new (w1.alloc (.cells #[.int .i64 ak, .int .i64 an, .string at_] 72)) (.cells #[.int .i64 ak, .int .i64 an, .string at_] 72); simpa using this)
        case d2 => intro u hu; simp at hu; rcases hu with rfl | rfl | rfl <;> rfl
        case d3 => unfold maxLen; omega
        case d4 => omega
        case d5 => simp; omega
        case d6 =>
          intro v' w6 hown6 hgrow _
          have hl6 : (done ++ [⟨ak, an, at_⟩] : List Act3).length = fl + 1 := by simp [Hfl.out]
          have Hown6 : Box (w6.ownsRow (b + 1) 72 3 v' (done ++ [⟨ak, an, at_⟩] : List Act3).length (actCells (done ++ [⟨ak, an, at_⟩]))) := ⟨by rw [hl6, actCells_snoc]; exact hown6⟩
          have k6 : Keeps (fun z => u2.ownBlock = some z) w1 w6 := (((Keeps.refl (fun z => u2.ownBlock = some z) w1).alloc _).alloc _).grown hgrow (fun k hk _ => hk)
          have hub : ∀ z, u2.ownBlock = some z → b + 1 ≤ z := fun z hz => (Hown1.out.lt z hz).1
          have HT6 := Box.mk (HT1.out.keeps k6 (fun h => by have := hub _ h; omega))
          have K6 := Box.mk (K1.out.trans' k6 (by intro i hi h; have := hub _ h; omega))
          have hts6 : tapeSize w6 b < tapeSize wr b := by rw [HT6.out.size, ← HT1.out.size]; exact Hts.out
          have Hts6 := Box.mk hts6
          clear hown6 hgrow k6 hl6 hub hts6 HT1 K1 Hown1 Hts
          go_wp2_with fail
          go_roundw
          case rel => exact ⟨done ++ [⟨ak, an, at_⟩], _, by rw [Hacts.out, List.append_assoc]; rfl, HT6, Hown6, K6⟩
          case measure => exact Hts6.out

end Go.Proofs.Ytljmfiegkefpoaa
