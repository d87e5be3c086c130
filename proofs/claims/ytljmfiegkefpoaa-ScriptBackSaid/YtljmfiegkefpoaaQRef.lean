/- The document's queue: a block with one slice; its events in order. -/
import Derived.Test.YtljmfiegkefpoaaWQueueDrops
import Derived.Deep.RegionHeld3
import Derived.Deep.RegionLaw
namespace Go.Proofs.Ytljmfiegkefpoaa
set_option linter.unusedVariables false
set_option linter.unusedSimpArgs false
open Go.RowKit

/-- The block b is a document's queue of the events l; v: its slice. -/
structure IsRQ (w : World) (b : Nat) (v : Value) (l : List (Int × Int)) : Prop where
  head : w.heap[b]? = some (.cells #[v] 44 (0, 0))
  row : w.ownsRow 0 27 2 v l.length (evCells l)
  ne : v.ownBlock ≠ some b
  len : l.length ≤ 16

theorem IsRQ.lt {w : World} {b : Nat} {v : Value} {l : List (Int × Int)} (h : IsRQ w b v l) : b < w.heap.size := (Array.getElem?_eq_some_iff.1 h.head).1
theorem IsRQ.keeps {w w' : World} {b : Nat} {v : Value} {l : List (Int × Int)} (h : IsRQ w b v l) {S : Nat → Prop} (k : Keeps S w w') (hb : ¬ S b) (hs : ∀ z, v.ownBlock = some z → ¬ S z) : IsRQ w' b v l :=
  ⟨k.heap h.head hb, k.own h.row hs, h.ne, h.len⟩
theorem IsRQ.keeps0 {w w' : World} {b : Nat} {v : Value} {l : List (Int × Int)} (h : IsRQ w b v l) (k : Keeps (fun _ => False) w w') : IsRQ w' b v l := h.keeps k (fun h => h) (fun _ _ h => h)
theorem IsRQ.evs {w : World} {b : Nat} {v : Value} {l : List (Int × Int)} (h : IsRQ w b v l) : IsEvs w v l := IsEvs.of_own h.row

/-- The slice of a document's queue is set anew. -/
theorem IsRQ.put {w : World} {b : Nat} {x v : Value} {l : List (Int × Int)} (h : w.heap[b]? = some (.cells #[x] 44 (0, 0)))
    (row : w.ownsRow 0 27 2 v l.length (evCells l)) (ne : v.ownBlock ≠ some b) (len : l.length ≤ 16) : IsRQ (w.setCell ⟨b, 0, none⟩ v) b v l :=
  ⟨by have := heap_setCell_at h 0 v; simpa using this,
   ((Keeps.refl (fun j => j = b) w).setCell (p := ⟨b, 0, none⟩) (fun _ => rfl) v).own row (fun z hz e => ne (by rw [hz, e])), ne, len⟩

/-- The facts that the walk of a push needs of an event that may wait. -/
theorem evMay_cases {k n : Int} (h : evMay k n = true) : (k = 1 ∧ 0 ≤ n ∧ n ≤ 1152921504606846975) ∨ (k = 2 ∧ 0 ≤ n ∧ n ≤ 255) := by
  simp [evMay] at h; omega

set_option maxRecDepth 100000 in
theorem rpush_arg {b : Nat} {v : Value} {l : List (Int × Int)} {k n : Int} {w : World} (hm : evMay k n = false) :
    Calls Try.prog 22 #[.pointer (some ⟨b, 0, none⟩), .agg #[.int .i64 k, .int .i64 n]] w fun e w' => e = .returned (.int .i64 2) ∧ Keeps (fun _ => False) w w' := by
  have hk := Box.mk ((Keeps.refl (fun _ => False) w).alloc (.cells #[.int .i64 k, .int .i64 n] 27))
  by_cases h1 : k = 1
  · subst h1
    by_cases h0 : 0 ≤ n
    · have hm : ¬ n < 1152921504606846976 := by simp [evMay] at hm; omega
      go_enter Try.func22, Try.ntmps22
      go_wp2
      go_ret
      exact ⟨rfl, hk.out⟩
    · clear hm
      go_enter Try.func22, Try.ntmps22
      go_wp2
      go_ret
      exact ⟨rfl, hk.out⟩
  · by_cases h2 : k = 2
    · subst h2
      clear h1
      by_cases h0 : 0 ≤ n
      · have hm : ¬ n ≤ 255 := by simp [evMay] at hm; omega
        go_enter Try.func22, Try.ntmps22
        go_wp2
        go_ret
        exact ⟨rfl, hk.out⟩
      · clear hm
        go_enter Try.func22, Try.ntmps22
        go_wp2
        go_ret
        exact ⟨rfl, hk.out⟩
    · clear hm
      go_enter Try.func22, Try.ntmps22
      go_wp2
      go_ret
      exact ⟨rfl, hk.out⟩

set_option maxRecDepth 100000 in
theorem rpush_full {b : Nat} {v : Value} {l : List (Int × Int)} {k n : Int} {w : World} (hq : IsRQ w b v l) (h16 : l.length = 16) (hm : evMay k n = true) :
    Calls Try.prog 22 #[.pointer (some ⟨b, 0, none⟩), .agg #[.int .i64 k, .int .i64 n]] w fun e w' => e = .returned (.int .i64 18) ∧ Keeps (fun _ => False) w w' := by
  have hk := Box.mk ((Keeps.refl (fun _ => False) w).alloc (.cells #[.int .i64 k, .int .i64 n] 27))
  have hb := hq.lt
  obtain ⟨a, c, rfl⟩ := hq.evs.form
  have h0 := cell_of_heap hq.head 0
  simp only [List.getElem?_toArray, List.getElem?_cons_zero] at h0
  rw [h16] at h0
  clear hq h16
  rcases evMay_cases hm with ⟨rfl, hm0, hm1⟩ | ⟨rfl, hm0, hm1⟩
  all_goals
    clear hm
    go_enter Try.func22, Try.ntmps22
    go_wp2
    go_ret
    exact ⟨rfl, hk.out⟩

set_option maxRecDepth 100000 in
theorem rpush_ok {b : Nat} {v : Value} {l : List (Int × Int)} {k n : Int} {w : World} (hq : IsRQ w b v l) (h16 : l.length < 16) (hm : evMay k n = true) :
    Calls Try.prog 22 #[.pointer (some ⟨b, 0, none⟩), .agg #[.int .i64 k, .int .i64 n]] w fun e w' => e = .returned (.int .i64 0) ∧
      ∃ v', IsRQ w' b v' (l ++ [(k, n)]) ∧ (∀ z, v'.ownBlock = some z → v.ownBlock = some z ∨ w.heap.size ≤ z) ∧ Keeps (fun j => j = b ∨ v.ownBlock = some j) w w' := by
  have hb := hq.lt
  obtain ⟨i0, hi0, hz0, hz1, hz2⟩ := info_parts info_event
  have Hi := Box.mk (And.intro hi0 (And.intro hz0 (And.intro hz1 hz2)))
  clear hi0 hz0 hz1 hz2
  obtain ⟨a, c, rfl⟩ := hq.evs.form
  obtain ⟨m, hlm⟩ : ∃ m, l.length = m := ⟨_, rfl⟩
  have h0 := cell_of_heap hq.head 0
  have hf0 := frozen_of_heap hq.head 0
  simp only [List.getElem?_toArray, List.getElem?_cons_zero] at h0
  have Hr := Box.mk hq.row
  have Hn := Box.mk hq.ne
  have HQ := Box.mk hq
  rw [hlm] at h0 h16 Hr Hn ⊢
  have Hl := Box.mk hlm
  clear hlm hq
  rcases evMay_cases hm with ⟨rfl, hm0, hm1⟩ | ⟨rfl, hm0, hm1⟩
  case inl =>
    clear hm
    go_enter Try.func22, Try.ntmps22
    go_wp2_with fail
    clear hm0 hm1
    obtain ⟨g, hg⟩ : ∃ g, w.heap.size = g := ⟨_, rfl⟩
    have hx0 : (w.alloc (.cells #[.int .i64 1, .int .i64 n] 27)).cell? ⟨g, 0, none⟩ = some (.int .i64 1) := by subst hg; simp
    have hx1 : (w.alloc (.cells #[.int .i64 1, .int .i64 n] 27)).cell? ⟨g, 1, none⟩ = some (.int .i64 n) := by subst hg; simp
    have hx2 := ((Keeps.refl (fun _ => False) w).alloc (.cells #[.int .i64 1, .int .i64 n] 27)).cell h0 (fun h => h)
    have hx3 := (((Keeps.refl (fun _ => False) w).alloc (.cells #[.int .i64 1, .int .i64 n] 27)).frozen (p := ⟨b, 0, none⟩) hb (fun h => h)).trans hf0
    have hxs : (w.alloc (.cells #[.int .i64 1, .int .i64 n] 27)).heap.size = g + 1 := by subst hg; simp
    have HA := Box.mk (HQ.out.keeps0 ((Keeps.refl (fun _ => False) w).alloc (.cells #[.int .i64 1, .int .i64 n] 27)))
    have HR := Box.mk (Hr.out.alloc (.cells #[.int .i64 1, .int .i64 n] 27))
    have HK := Box.mk (((Keeps.refl (fun j => j = b ∨ (Value.slice a m c).ownBlock = some j) w).alloc (.cells #[.int .i64 1, .int .i64 n] 27)))
    have Hro : Box ((Value.slice a m c).ownBlock ≠ some g) := ⟨fun h => by have := (Hr.out.lt g h).2; omega⟩
    rw [hg] at hb ⊢
    have Hg := Box.mk hg
    generalize w.alloc (.cells #[.int .i64 1, .int .i64 n] 27) = wa at hx0 hx1 hx2 hx3 hxs HA HR HK ⊢
    clear h0 hf0 HQ Hr hg
    have ka := (Keeps.refl (fun _ => False) wa).alloc (.cells #[.int .i64 1, .int .i64 n] 27)
    have hy := And.intro (ka.cell hx2 (fun h => h)) (And.intro (ka.cell hx0 (fun h => h)) (And.intro (ka.cell hx1 (fun h => h)) ((ka.frozen (p := ⟨b, 0, none⟩) (by simp only; omega) (fun h => h)).trans hx3)))
    clear ka
    go_region_law (refine step_append_lies _ (by rfl) _ _ _ (by rfl) 0 27 i0 _ 2 16 Try.underlying22 Hi.out.1 Hi.out.2.1 Hi.out.2.2.1 Hi.out.2.2.2 rfl (by omega) (.slice a m c) m _ (by rfl) ((HR.out.alloc _).drew) ⟨g + 1, 0, none⟩ 1 1 [.int .i64 1, .int .i64 n] (by rfl) (by rfl) (World.news_of_block (cs := #[.int .i64 1, .int .i64 n]) (t := 27) (fr := (0, 0)) (by rw [← hxs]; exact heap_alloc_new wa _)) (by simp [Value.oneCell']) (by omega) (by unfold maxLen; omega) (by omega) (by simp) (g + 2) (by simp; omega) ?_; intro gg cap w5 hown5 hgrow hat hlt5; have hz0 := (hgrow.cell_far ⟨b, 0, none⟩ (by simp; omega) (Ne.symm Hn.out)).trans hy.1; have hz1 := (hgrow.frozen_far ⟨b, 0, none⟩ (by simp; omega) (Ne.symm Hn.out)).trans hy.2.2.2)
    all_goals
      have hh5 : w5.heap[b]? = some (.cells #[.slice a m c] 44 (0, 0)) := by
        rw [hgrow.block b (by simp; omega) (Ne.symm Hn.out)]
        have := ((Keeps.refl (fun _ => False) wa).alloc (.cells #[.int .i64 1, .int .i64 n] 27)).heap HA.out.head (fun h => h)
        rw [Hl.out] at this
        exact this
      have hgb : gg ≠ b := by
        rcases hat with h | h
        · exact fun e => Hn.out (by rw [h, e])
        · omega
      have hr5 : w5.ownsRow 0 27 2 (.slice (some ⟨gg, 0, none⟩) (m + 1) cap) (l ++ [(1, n)]).length (evCells (l ++ [(1, n)])) := by
        rw [evCells_snoc, List.length_append, Hl.out]; exact hown5
      have HP := Box.mk (IsRQ.put hh5 hr5 (fun h => hgb (by simpa [Value.ownBlock] using h)) (by simp [Hl.out]; omega))
      have K5 := Box.mk ((((HK.out.alloc (.cells #[.int .i64 1, .int .i64 n] 27)).drew).grown hgrow (fun k hk _ => Or.inr hk)).setCell (p := ⟨b, 0, none⟩) (fun _ => Or.inl rfl) (.slice (some ⟨gg, 0, none⟩) (m + 1) cap))
      have Hat : Box (∀ z, (Value.slice (some ⟨gg, 0, none⟩) (m + 1) cap).ownBlock = some z → (Value.slice a m c).ownBlock = some z ∨ g ≤ z) := ⟨fun z hz => by
        simp only [Value.ownBlock, Option.some.injEq] at hz
        subst hz
        rcases hat with h | h
        · exact .inl h
        · exact .inr (by omega)⟩
      clear hh5 hgb hr5 hown5 hgrow hat hlt5 hz0 hz1 hy hx0 hx1 hx2 hx3
      go_wp2
      go_ret
      exact ⟨rfl, _, HP.out, by rw [Hg.out]; exact Hat.out, K5.out⟩
  case inr =>
    clear hm
    go_enter Try.func22, Try.ntmps22
    go_wp2_with fail
    clear hm0 hm1
    obtain ⟨g, hg⟩ : ∃ g, w.heap.size = g := ⟨_, rfl⟩
    have hx0 : (w.alloc (.cells #[.int .i64 2, .int .i64 n] 27)).cell? ⟨g, 0, none⟩ = some (.int .i64 2) := by subst hg; simp
    have hx1 : (w.alloc (.cells #[.int .i64 2, .int .i64 n] 27)).cell? ⟨g, 1, none⟩ = some (.int .i64 n) := by subst hg; simp
    have hx2 := ((Keeps.refl (fun _ => False) w).alloc (.cells #[.int .i64 2, .int .i64 n] 27)).cell h0 (fun h => h)
    have hx3 := (((Keeps.refl (fun _ => False) w).alloc (.cells #[.int .i64 2, .int .i64 n] 27)).frozen (p := ⟨b, 0, none⟩) hb (fun h => h)).trans hf0
    have hxs : (w.alloc (.cells #[.int .i64 2, .int .i64 n] 27)).heap.size = g + 1 := by subst hg; simp
    have HA := Box.mk (HQ.out.keeps0 ((Keeps.refl (fun _ => False) w).alloc (.cells #[.int .i64 2, .int .i64 n] 27)))
    have HR := Box.mk (Hr.out.alloc (.cells #[.int .i64 2, .int .i64 n] 27))
    have HK := Box.mk (((Keeps.refl (fun j => j = b ∨ (Value.slice a m c).ownBlock = some j) w).alloc (.cells #[.int .i64 2, .int .i64 n] 27)))
    have Hro : Box ((Value.slice a m c).ownBlock ≠ some g) := ⟨fun h => by have := (Hr.out.lt g h).2; omega⟩
    rw [hg] at hb ⊢
    have Hg := Box.mk hg
    generalize w.alloc (.cells #[.int .i64 2, .int .i64 n] 27) = wa at hx0 hx1 hx2 hx3 hxs HA HR HK ⊢
    clear h0 hf0 HQ Hr hg
    have ka := (Keeps.refl (fun _ => False) wa).alloc (.cells #[.int .i64 2, .int .i64 n] 27)
    have hy := And.intro (ka.cell hx2 (fun h => h)) (And.intro (ka.cell hx0 (fun h => h)) (And.intro (ka.cell hx1 (fun h => h)) ((ka.frozen (p := ⟨b, 0, none⟩) (by simp only; omega) (fun h => h)).trans hx3)))
    clear ka
    go_region_law (refine step_append_lies _ (by rfl) _ _ _ (by rfl) 0 27 i0 _ 2 16 Try.underlying22 Hi.out.1 Hi.out.2.1 Hi.out.2.2.1 Hi.out.2.2.2 rfl (by omega) (.slice a m c) m _ (by rfl) ((HR.out.alloc _).drew) ⟨g + 1, 0, none⟩ 1 1 [.int .i64 2, .int .i64 n] (by rfl) (by rfl) (World.news_of_block (cs := #[.int .i64 2, .int .i64 n]) (t := 27) (fr := (0, 0)) (by rw [← hxs]; exact heap_alloc_new wa _)) (by simp [Value.oneCell']) (by omega) (by unfold maxLen; omega) (by omega) (by simp) (g + 2) (by simp; omega) ?_; intro gg cap w5 hown5 hgrow hat hlt5; have hz0 := (hgrow.cell_far ⟨b, 0, none⟩ (by simp; omega) (Ne.symm Hn.out)).trans hy.1; have hz1 := (hgrow.frozen_far ⟨b, 0, none⟩ (by simp; omega) (Ne.symm Hn.out)).trans hy.2.2.2)
    all_goals
      have hh5 : w5.heap[b]? = some (.cells #[.slice a m c] 44 (0, 0)) := by
        rw [hgrow.block b (by simp; omega) (Ne.symm Hn.out)]
        have := ((Keeps.refl (fun _ => False) wa).alloc (.cells #[.int .i64 2, .int .i64 n] 27)).heap HA.out.head (fun h => h)
        rw [Hl.out] at this
        exact this
      have hgb : gg ≠ b := by
        rcases hat with h | h
        · exact fun e => Hn.out (by rw [h, e])
        · omega
      have hr5 : w5.ownsRow 0 27 2 (.slice (some ⟨gg, 0, none⟩) (m + 1) cap) (l ++ [(2, n)]).length (evCells (l ++ [(2, n)])) := by
        rw [evCells_snoc, List.length_append, Hl.out]; exact hown5
      have HP := Box.mk (IsRQ.put hh5 hr5 (fun h => hgb (by simpa [Value.ownBlock] using h)) (by simp [Hl.out]; omega))
      have K5 := Box.mk ((((HK.out.alloc (.cells #[.int .i64 2, .int .i64 n] 27)).drew).grown hgrow (fun k hk _ => Or.inr hk)).setCell (p := ⟨b, 0, none⟩) (fun _ => Or.inl rfl) (.slice (some ⟨gg, 0, none⟩) (m + 1) cap))
      have Hat : Box (∀ z, (Value.slice (some ⟨gg, 0, none⟩) (m + 1) cap).ownBlock = some z → (Value.slice a m c).ownBlock = some z ∨ g ≤ z) := ⟨fun z hz => by
        simp only [Value.ownBlock, Option.some.injEq] at hz
        subst hz
        rcases hat with h | h
        · exact .inl h
        · exact .inr (by omega)⟩
      clear hh5 hgb hr5 hown5 hgrow hat hlt5 hz0 hz1 hy hx0 hx1 hx2 hx3
      go_wp2
      go_ret
      exact ⟨rfl, _, HP.out, by rw [Hg.out]; exact Hat.out, K5.out⟩

end Go.Proofs.Ytljmfiegkefpoaa
