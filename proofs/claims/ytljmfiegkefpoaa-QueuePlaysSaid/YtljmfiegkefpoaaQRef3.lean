/- The document's queue: drop. -/
import Derived.Test.YtljmfiegkefpoaaQRef2
namespace Go.Proofs.Ytljmfiegkefpoaa
set_option linter.unusedVariables false
set_option linter.unusedSimpArgs false
open Go.RowKit

set_option maxRecDepth 100000 in
set_option maxHeartbeats 2000000 in
theorem rdrop_is {b : Nat} {v : Value} (k : Int) {l : List (Int × Int)} {w : World} (hq : IsRQ w b v l) :
    Calls Try.prog 24 #[.pointer (some ⟨b, 0, none⟩), .int .i64 k] w fun e w' => e = .returned (.int .i64 ((l.length : Int) - ((l.filter (fun p => p.1 != k)).length : Int))) ∧
      ∃ v', IsRQ w' b v' (l.filter (fun p => p.1 != k)) ∧ (∀ z, v'.ownBlock = some z → w.heap.size ≤ z) ∧ Keeps (fun j => j = b) w w' := by
  have hb := hq.lt
  have hb' := hq.len
  obtain ⟨i0, hi0, hz0, hz1, hz2⟩ := info_parts info_event
  have Hi := Box.mk (And.intro hi0 (And.intro hz0 (And.intro hz1 hz2)))
  clear hi0 hz0 hz1 hz2
  obtain ⟨a, c, rfl⟩ := hq.evs.form
  obtain ⟨m, hlm⟩ : ∃ m, l.length = m := ⟨_, rfl⟩
  have h0 := cell_of_heap hq.head 0
  simp only [List.getElem?_toArray, List.getElem?_cons_zero] at h0
  have HE := Box.mk hq.evs
  have HQ := Box.mk hq
  have Hlm := Box.mk hlm
  rw [hlm] at h0 hb' ⊢
  have H0 := Box.mk h0
  clear hq hlm h0
  obtain ⟨W, hW⟩ : ∃ W, W = w := ⟨_, rfl⟩
  have Hown : Box (w.ownsRow w.heap.size 27 2 (.slice none 0 0) ((l.take 0).filter (fun p => p.1 != k)).length (evCells ((l.take 0).filter (fun p => p.1 != k)))) := ⟨World.ownsRow_nil _ _ _ _⟩
  have HK : Box (Keeps (fun _ => False) w w) := ⟨Keeps.refl _ _⟩
  go_enter Try.func24, Try.ntmps24
  go_wp2_with fail
  go_loopw [5, 6] (fun v i wr => ∃ (j : Nat), j ≤ m ∧ i = .int .i64 j ∧ Box (wr.ownsRow w.heap.size 27 2 v ((l.take j).filter (fun p => p.1 != k)).length (evCells ((l.take j).filter (fun p => p.1 != k)))) ∧ Box (Keeps (fun _ => False) w wr)) (fun _ i _ => m - (intOf i).toNat)
  case atStart => exact ⟨0, Nat.zero_le _, rfl, Hown, HK⟩
  case round =>
    clear Hown HK
    obtain ⟨j, hj, rfl, Hown, K⟩ := hrel
    have h0 := K.out.cell H0.out (fun h => h)
    have hsz := K.out.size
    by_cases hlt : j < m
    · obtain ⟨eb, eo, rfl, heb, c0, c1⟩ := HE.out.cells _ _ _ rfl j (by rw [Hlm.out]; exact hlt)
      have d0 := K.out.cell c0 (fun h => h)
      have d1 := K.out.cell c1 (fun h => h)
      clear c0 c1
      have hj1 : (j : Int) < (m : Int) := by omega
      cases hp : (fun p : Int × Int => p.1 != k) (l.getD j (0, 0))
      · have hsk := filter_take_skip (fun p => p.1 != k) l j (by rw [Hlm.out]; exact hlt) hp
        have hx : ((l.getD j (0, 0)).1 != k) = false := hp
        have Hown2 : Box (wr.ownsRow w.heap.size 27 2 u5 ((l.take (j + 1)).filter (fun p => p.1 != k)).length (evCells ((l.take (j + 1)).filter (fun p => p.1 != k)))) := ⟨by rw [hsk]; exact Hown.out⟩
        clear hsk hp Hown
        generalize (l.getD j (0, 0)).1 = x at *
        generalize (l.getD j (0, 0)).2 = y at *
        go_wp2_with fail
        go_roundw
        case rel => exact ⟨j + 1, by omega, by go_num, Hown2, K⟩
        case measure => simp [intOf]; omega
      · have hsn := evCells_filter_snoc (fun p => p.1 != k) l j (by rw [Hlm.out]; exact hlt) hp
        have hx : ((l.getD j (0, 0)).1 != k) = true := hp
        have hle : ((l.take j).filter (fun p => p.1 != k)).length ≤ 16 := by
          have := List.length_filter_le (fun p : Int × Int => p.1 != k) (l.take j)
          have h2 : (l.take j).length ≤ j := List.length_take_le _ _
          omega
        clear hp
        generalize (l.getD j (0, 0)).1 = x at *
        generalize (l.getD j (0, 0)).2 = y at *
        have Hsn := Box.mk hsn
        clear hsn
        obtain ⟨fl, hfl⟩ : ∃ fl, ((l.take j).filter (fun p => p.1 != k)).length = fl := ⟨_, rfl⟩
        have Hown' : Box (wr.ownsRow w.heap.size 27 2 u5 fl (evCells ((l.take j).filter (fun p => p.1 != k)))) := ⟨by rw [← hfl]; exact Hown.out⟩
        rw [hfl] at hle
        have Hfl := Box.mk hfl
        clear Hown hfl
        go_wp2_with (at_builtin; refine wpList_append_own _ rfl _ _ 22 rfl w.heap.size 27 i0 _ 2 16 Try.underlying22 Hi.out.1 Hi.out.2.1 Hi.out.2.2.1 Hi.out.2.2.2 rfl (by decide) u5 fl _ rfl (Hown'.out.alloc _) ⟨wr.heap.size, 0, none⟩ 1 1 [.int .i64 x, .int .i64 y] rfl rfl ?c1 ?c2 ?c3 ?c4 ?c5 ?c6)
        case c1 => exact World.news_of_block (cs := #[.int .i64 x, .int .i64 y]) (t := 27) (fr := (0, 0)) (by have := heap_alloc_new wr (.cells #[.int .i64 x, .int .i64 y] 27); simpa using this)
        case c2 => intro u hu; simp at hu; rcases hu with rfl | rfl <;> rfl
        case c3 => unfold maxLen; omega
        case c4 => omega
        case c5 => simp; omega
        case c6 =>
          intro v' w6 hown6 hgrow _
          have Hown6 : Box (w6.ownsRow w.heap.size 27 2 v' ((l.take (j + 1)).filter (fun p => p.1 != k)).length (evCells ((l.take (j + 1)).filter (fun p => p.1 != k)))) := ⟨by rw [Hsn.out.2, Hfl.out, ← Hsn.out.1]; exact hown6⟩
          have k6 : Keeps (fun _ => False) w w6 := (K.out.alloc _).grown hgrow (fun k hk hl => by have := (Hown'.out.lt k hk).1; omega)
          have K6 := Box.mk k6
          clear hown6 hgrow k6 K Hown'
          go_wp2_with fail
          go_roundw
          case rel => exact ⟨j + 1, by omega, by go_num, Hown6, K6⟩
          case measure => simp [intOf]; omega
    · have e : j = m := by omega
      subst e
      have htk : l.take j = l := List.take_of_length_le (by rw [Hlm.out]; exact Nat.le_refl _)
      have hown2 := Hown.out
      rw [htk] at hown2
      obtain ⟨fl, hfl⟩ : ∃ fl, (l.filter (fun p => p.1 != k)).length = fl := ⟨_, rfl⟩
      have hfq : fl ≤ j := by rw [← hfl, ← Hlm.out]; exact List.length_filter_le _ _
      obtain ⟨va, vn, vc, rfl⟩ : ∃ va vn vc, u5 = Value.slice va vn vc := by rcases hown2.2 with ⟨rfl, -⟩ | ⟨g', cap, cur, rfl, -⟩ <;> exact ⟨_, _, _, rfl⟩
      have hvb : (Value.slice va vn vc).ownBlock ≠ some b := fun h => by have := (hown2.lt b h).1; omega
      have hvz : Box (∀ z, (Value.slice va vn vc).ownBlock = some z → w.heap.size ≤ z) := ⟨fun z h => (hown2.lt z h).1⟩
      obtain ⟨vc', hform⟩ : ∃ va' vc', Value.slice va vn vc = .slice va' fl vc' := by
        obtain ⟨x, y, h⟩ := (IsEvs.of_own hown2).form
        rw [hfl] at h
        exact ⟨x, y, h⟩
      obtain ⟨vc'', hform⟩ := hform
      obtain rfl : vn = fl := by simp only [Value.slice.injEq] at hform; exact hform.2.1
      have hhead := K.out.heap HQ.out.head (fun h => h)
      have HP := Box.mk (IsRQ.put hhead (rebase hown2) hvb (by rw [hfl]; omega))
      have HKF := Box.mk ((K.out.mono (S' := fun j => j = b) (fun _ _ h => h.elim)).setCell (p := ⟨b, 0, none⟩) (fun _ => rfl) (.slice va vn vc))
      have hf0 := frozen_of_heap hhead 0
      obtain ⟨d, hd⟩ : ∃ d : Int, (j : Int) - (vn : Int) = d := ⟨_, rfl⟩
      have hwd : IntKind.i64.wrap d = d := by simp only [IntKind.wrap]; simp [IntKind.bits, IntKind.signed]; omega
      have Hfl := Box.mk hfl
      clear Hown hown2 htk hvb hform hhead hfl
      have hw64 : wrap64 d = d := by unfold wrap64; omega
      go_wp2_with fail
      go_ret
      refine ⟨?_, _, HP.out, hvz.out, HKF.out⟩
      rw [Hfl.out, hd]
      rfl

end Go.Proofs.Ytljmfiegkefpoaa
