/- The queue's Copy, All by contracts. -/
import Derived.Test.YtljmfiegkefpoaaQueue2
import Derived.Deep.AppendLies
import Derived.Laws.Tables
import Derived.Deep.WholeRow
namespace Go.Proofs.Ytljmfiegkefpoaa
set_option linter.unusedVariables false
set_option linter.unusedSimpArgs false
open Go.RowKit

theorem qcopy_nil (w : World) : Calls Try.prog 25 #[.pointer none] w fun e w' => e = .returned (.pointer none) ∧ w' = w := by
  go_enter Try.func25, Try.ntmps25
  go_wp2
  go_ret
  exact ⟨rfl, rfl⟩

theorem info_queue : (Try.prog.info? 65).map (·.size) = some 34 := by kernel_rfl

theorem qcopy_is (b : Nat) (L : List Int) (w : World) (hq : IsQ w b L) : Calls Try.prog 25 #[.pointer (some ⟨b, 0, none⟩)] w fun e w' => e = .returned (.pointer (some ⟨w.heap.size, 0, none⟩)) ∧ IsQ w' w.heap.size L ∧ Keeps (fun _ => False) w w' := by
  have hl := hq.len
  have HI : Box ((Try.prog.info? 65).map (·.size) = some ((L.map (Value.int .i64)).toArray).size) := ⟨by rw [info_queue]; simp [hl]⟩
  have hs : ((L.map (Value.int .i64)).toArray).size = 34 := by simp [hl]
  have H1 : Box (((L.map (Value.int .i64)).toArray).all (·.oneCell') = true) := ⟨by rw [Array.all_eq_true_iff_forall_mem]; intro x hx; simp only [List.mem_toArray, List.mem_map] at hx; obtain ⟨a, _, rfl⟩ := hx; rfl⟩
  have HB : Box (IsQ (w.alloc (.cells (L.map (Value.int .i64)).toArray 65)) w.heap.size L) := ⟨⟨heap_alloc_new w _, hq.len, hq.f0, hq.f1, hq.n0, hq.n1⟩⟩
  have HK := Box.mk ((Keeps.refl (fun _ => False) w).alloc (.cells (L.map (Value.int .i64)).toArray 65))
  have HH := Box.mk hq.head
  have hlt := hq.lt
  clear hq hl
  generalize (L.map (Value.int .i64)).toArray = arr at *
  have hst := run_storeCells_new (P := Try.prog) w 65 #[.int .i64 0, .int .i64 0, .int .i64 0, .int .i64 0, .int .i64 0, .int .i64 0, .int .i64 0, .int .i64 0, .int .i64 0, .int .i64 0, .int .i64 0, .int .i64 0, .int .i64 0, .int .i64 0, .int .i64 0, .int .i64 0, .int .i64 0, .int .i64 0, .int .i64 0, .int .i64 0, .int .i64 0, .int .i64 0, .int .i64 0, .int .i64 0, .int .i64 0, .int .i64 0, .int .i64 0, .int .i64 0, .int .i64 0, .int .i64 0, .int .i64 0, .int .i64 0, .int .i64 0, .int .i64 0] arr HI.out (by rw [hs]; rfl) H1.out
  go_enter Try.func25, Try.ntmps25
  go_wp2_with (refine wpList_load_row rfl 65 (.tmp 7) rfl b rfl 65 arr (0, 0) _ HH.out Try.underlying65 rfl HI.out ?_)
  go_ret
  exact ⟨rfl, HB.out, HK.out⟩

/-- The i-th event, of a queue that begins at F. -/
def qev (F : Nat) (L : List Int) (i : Nat) : Int × Int := (L.getD (2 * ((F + i) % 16)) 0, L.getD (2 * ((F + i) % 16) + 1) 0)
/-- A queue's events. -/
def qlist (L : List Int) : List (Int × Int) := (List.range (L.getD 33 0).toNat).map (qev (L.getD 32 0).toNat L)
/-- Events as cells. -/
def evCells (l : List (Int × Int)) : List Value := l.flatMap fun p => [.int .i64 p.1, .int .i64 p.2]
theorem evCells_length (l : List (Int × Int)) : (evCells l).length = l.length * 2 := by
  induction l with
  | nil => rfl
  | cons a l ih => simp only [evCells, List.flatMap_cons, List.length_append, List.length_cons, List.length_nil] at ih ⊢; omega
theorem evCells_snoc (l : List (Int × Int)) (p : Int × Int) : evCells (l ++ [p]) = evCells l ++ [.int .i64 p.1, .int .i64 p.2] := by simp [evCells]

theorem info_event : (Try.prog.info? 27).map (fun i => (i.zero, i.size, i.bytes)) = some (some (.agg #[.int .i64 0, .int .i64 0]), 2, 16) := by kernel_rfl

/-- All: the events, in new memory. -/
theorem all_nil (w : World) : Calls Try.prog 15 #[.pointer none] w fun e w' => e = .returned (.slice none 0 0) ∧ w' = w := by
  go_enter Try.func15, Try.ntmps15
  go_wp2_with (go_at_call 16; refine (qlen_nil _).mono ?_; rintro e w' ⟨rfl, rfl⟩)
  refine wp_loop_rounds 1 ?_
  rw [rounds_succ]
  go_wp2
  go_ret
  exact ⟨rfl, rfl⟩

set_option maxRecDepth 100000 in
set_option maxHeartbeats 3200000 in
theorem all_is (b : Nat) (L : List Int) (w : World) (hq : IsQ w b L) :
    Calls Try.prog 15 #[.pointer (some ⟨b, 0, none⟩)] w fun e w' => ∃ v, e = .returned v ∧ w'.ownsRow w.heap.size 27 2 v (qlist L).length (evCells (qlist L)) ∧ Keeps (fun _ => False) w w' := by
  obtain ⟨i0, hi0, hz0, hz1, hz2⟩ := info_parts info_event
  have Hi := Box.mk (And.intro hi0 (And.intro hz0 (And.intro hz1 hz2)))
  clear hi0 hz0 hz1 hz2
  have HQ := Box.mk hq
  have hlt := hq.lt
  have f0 := hq.f0
  have f1 := hq.f1
  have n0 := hq.n0
  have n1 := hq.n1
  have HL := Box.mk (qlen_is b L w hq)
  obtain ⟨F, hF⟩ : ∃ F : Nat, L.getD 32 0 = (F : Int) := ⟨(L.getD 32 0).toNat, by omega⟩
  obtain ⟨N, hN⟩ : ∃ N : Nat, L.getD 33 0 = (N : Int) := ⟨(L.getD 33 0).toNat, by omega⟩
  rw [hF] at f0 f1
  rw [hN] at n0 n1 HL
  have HF := Box.mk hF
  have HE : Box (qlist L = (List.range N).map (qev F L)) := ⟨by unfold qlist; rw [hF, hN]; rfl⟩
  rw [HE.out]
  clear hq hF hN
  go_enter Try.func15, Try.ntmps15
  go_wp2_with fail
  refine HL.out.mono ?_
  rintro e w1 ⟨rfl, rfl⟩
  go_wp2_with fail
  have Hown : Box (w1.ownsRow w1.heap.size 27 2 (.slice none 0 0) 0 (evCells ((List.range 0).map (qev F L)))) := ⟨World.ownsRow_nil _ _ _ _⟩
  have K0 := Box.mk (Keeps.refl (fun _ => False) w1)
  go_loopw [2, 6] (fun v i wr => ∃ k : Nat, k ≤ N ∧ i = .int .i64 k ∧ Box (wr.ownsRow w1.heap.size 27 2 v k (evCells ((List.range k).map (qev F L)))) ∧ Box (Keeps (fun _ => False) w1 wr)) (fun _ i _ => N - (intOf i).toNat)
  case atStart => exact ⟨0, Nat.zero_le _, rfl, Hown, K0⟩
  case round =>
    clear Hown K0
    obtain ⟨k, hk, rfl, Hown, K⟩ := hrel
    by_cases hkn : k < N
    · have q1 := HQ.out.keeps K.out (fun h => h)
      have hF1 := q1.cell (j := 32) (by omega)
      rw [HF.out] at hF1
      obtain ⟨j, hj⟩ : ∃ j : Nat, (F + k) % 16 = j := ⟨_, rfl⟩
      have hj16 : j < 16 := by omega
      have hj0 : (0 : Int) ≤ (j : Int) := by omega
      have hj1 : (j : Int) < (16 : Int) := by omega
      have hc0 := q1.cell (j := j * 2) (by omega)
      have hc1 := q1.cell (j := j * 2 + 1) (by omega)
      have Hsn : Box (evCells ((List.range k).map (qev F L)) ++ [.int .i64 (L.getD (j * 2) 0), .int .i64 (L.getD (j * 2 + 1) 0)] = evCells ((List.range (k + 1)).map (qev F L))) := ⟨by
        rw [List.range_succ, List.map_append, List.map_cons, List.map_nil, evCells_snoc]
        simp only [qev, hj, Nat.mul_comm 2 j]⟩
      have hA := fun (w : World) (h : w.cell? ⟨b, 32, none⟩ = some (.int .i64 F)) => at_is b k F w h f0 f1 (by omega) (by omega)
      rw [show ((F : Int) + (k : Int)) % 16 = (j : Int) by omega] at hA
      have HA := Box.mk hA
      have Hj := Box.mk hj
      clear hA hj q1
      generalize L.getD (j * 2) 0 = o0 at hc0 Hsn
      generalize L.getD (j * 2 + 1) 0 = o1 at hc1 Hsn
      have hsz := K.out.size
      have hb1 : b < wr.heap.size := by omega
      have hvb : u2.ownBlock ≠ some b := by intro h; have := (Hown.out.lt b h).1; omega
      have Hvb := Box.mk hvb
      clear hvb
      go_wp2_with fail
      go_region_held3 (fun w' => w'.cell? ⟨b, 32, none⟩ = some (.int .i64 F) ∧ w'.cell? ⟨b, j * 2, none⟩ = some (.int .i64 o0) ∧ w'.cell? ⟨b, j * 2 + 1, none⟩ = some (.int .i64 o1))
        (first
          | go_keep
          | (go_split_ands
             refine ⟨?_, ?_, ?_⟩
             · (rw [hgrow.cell_far _ (by simp; omega) (Ne.symm Hvb.out)]; assumption)
             · (rw [hgrow.cell_far _ (by simp; omega) (Ne.symm Hvb.out)]; assumption)
             · (rw [hgrow.cell_far _ (by simp; omega) (Ne.symm Hvb.out)]; assumption)))
        (first
          | (go_at_call 34; refine (HA.out _ (by assumption)).mono ?_; rintro e w' ⟨rfl, rfl⟩)
          | ((refine step_append_lies _ (by rfl) _ _ _ (by rfl) w1.heap.size 27 i0 _ 2 16 Try.underlying22 Hi.out.1 Hi.out.2.1 Hi.out.2.2.1 Hi.out.2.2.2 rfl (by omega) u2 k _ (by rfl) ((Hown.out.alloc _).drew) ⟨wr.heap.size, 0, none⟩ 1 1 [.int .i64 o0, .int .i64 o1] (by rfl) (by rfl) (World.news_of_block (cs := #[.int .i64 o0, .int .i64 o1]) (t := 27) (fr := (0, 0)) (heap_alloc_new wr _)) (by simp [Value.oneCell']) (by omega) (by unfold maxLen; omega) (by omega) (by simp; omega) (wr.heap.size + 1) (by simp) ?_; intro gg cap w5 hown5 hgrow hat hlt5)))
      have Hown5 : Box (w5.ownsRow w1.heap.size 27 2 (.slice (some ⟨gg, 0, none⟩) (k + 1) cap) (k + 1) (evCells ((List.range (k + 1)).map (qev F L)))) := ⟨by rw [← Hsn.out]; exact hown5⟩
      have K5 := Box.mk (((K.out.alloc (.cells #[.int .i64 o0, .int .i64 o1] 27)).drew).grown hgrow (fun k hk h => by have := (Hown.out.lt k hk).1; omega))
      clear hown5 hgrow hat hlt5 Hown K
      go_wp2_with fail
      go_roundw
      case rel => exact ⟨k + 1, by omega, by go_num, Hown5, K5⟩
      case measure => simp [intOf]; omega
    · go_wp2_with fail
      go_ret
      obtain rfl : k = N := by omega
      exact ⟨_, rfl, by simpa using Hown.out, K.out⟩

end Go.Proofs.Ytljmfiegkefpoaa
