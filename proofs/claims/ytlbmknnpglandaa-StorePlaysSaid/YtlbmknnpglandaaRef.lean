/- The reference's store (spindleref03) by contracts: its Get and Set. -/
import Derived.Test.YtlbmknnpglandaaStore3
namespace Go.Proofs.Ytlbmknnpglandaa
set_option linter.unusedVariables false
set_option linter.unusedSimpArgs false
open Go.RowKit

/-- The reference's store lies in memory. -/
structure IsRef (w : World) (s : SSt) : Prop where
  head : w.heap[s.b]? = some (.cells #[.slice (some ⟨s.g, 0, none⟩) s.ws.length s.c, .int .i64 s.k] 43 (0, 0))
  row : w.ownsRow 0 22 1 (.slice (some ⟨s.g, 0, none⟩) s.ws.length s.c) s.ws.length (s.ws.map (Value.int .u64))
  ne : s.b ≠ s.g
  len : s.ws.length ≤ 1048576

theorem IsRef.keeps {w w' : World} {s : SSt} (h : IsRef w s) {S : Nat → Prop} (hk : Keeps S w w') (h1 : ¬ S s.b) (h2 : ¬ S s.g) : IsRef w' s :=
  ⟨hk.heap h.head h1, hk.row h.row h2, h.ne, h.len⟩
theorem IsRef.lt {w : World} {s : SSt} (h : IsRef w s) : s.b < w.heap.size ∧ s.g < w.heap.size := ⟨lt_of_heap h.head, lt_of_row h.row⟩

theorem IsRef.word {w : World} {s : SSt} (hs : IsRef w s) {i : Int} (h : s.has i) : w.cell? ⟨s.g, i.toNat, none⟩ = some (.int .u64 (s.at_ i)) := by
  obtain ⟨h0, h1⟩ := h
  have := hs.row.cellAt i.toNat (by omega)
  rw [this]
  simp [SSt.at_, List.getD, show i.toNat < s.ws.length by omega]

theorem rtouched_is {w : World} {s : SSt} (hs : IsRef w s) : IsRef (w.setCell ⟨s.b, 1, none⟩ (.int .i64 (wrap64 (s.k + 1)))) s.touched := by
  refine ⟨?_, ?_, hs.ne, hs.len⟩
  · show (w.setCell ⟨s.b, 1, none⟩ _).heap[s.b]? = _
    rw [heap_setCell_at hs.head]; rfl
  · exact Keeps.row ((Keeps.refl (fun k => k = s.b) w).setCell (p := ⟨s.b, 1, none⟩) (fun _ => rfl) _) hs.row (fun e => hs.ne e.symm)
theorem rput_is {w : World} {s : SSt} (hs : IsRef w s) {i : Int} (h : s.has i) (v : Int) :
    IsRef ((w.setCell ⟨s.b, 1, none⟩ (.int .i64 (wrap64 (s.k + 1)))).setCell ⟨s.g, i.toNat, none⟩ (.int .u64 v)) (s.put i v) := by
  have ht := rtouched_is hs
  refine ⟨?_, ?_, hs.ne, by simpa [SSt.put] using hs.len⟩
  · show ((w.setCell ⟨s.b, 1, none⟩ _).setCell _ _).heap[s.b]? = _
    rw [heap_setCell_ne _ _ hs.ne]
    have := ht.head
    simpa [SSt.put, SSt.touched] using this
  · have := (ht.row.stored i.toNat (.int .u64 v)).1
    simpa [SSt.put, SSt.touched, List.map_set] using this

theorem rget_no (i : Int) (w : World) (s : SSt) (hs : IsRef w s) (h : ¬ s.has i) :
    Calls Try.prog 18 #[.pointer (some ⟨s.b, 0, none⟩), .int .i64 i] w fun e w' => e = .returned (.tuple #[.int .u64 0, .int .i64 3]) ∧ w' = w := by
  have h0 := (cell_of_heap hs.head 0)
  simp only [List.getElem?_toArray, List.getElem?_cons_zero] at h0
  unfold SSt.has at h
  obtain ⟨b, g, c, ws, k⟩ := s
  have hn := hs.len
  clear hs
  generalize ws.length = n at *
  dsimp only at *
  by_cases hi : i < 0
  · clear h
    go_enter Try.func18, Try.ntmps18
    go_wp2
    go_ret2
    exact ⟨rfl, rfl⟩
  · have hi2 : (n : Int) ≤ i := by omega
    clear h
    go_enter Try.func18, Try.ntmps18
    go_wp2
    all_goals
      go_ret2
      exact ⟨rfl, rfl⟩

theorem rget_yes (i : Int) (w : World) (s : SSt) (hs : IsRef w s) (h : s.has i) :
    Calls Try.prog 18 #[.pointer (some ⟨s.b, 0, none⟩), .int .i64 i] w fun e w' => e = .returned (.tuple #[.int .u64 (s.at_ i), .int .i64 0]) ∧ w' = w.setCell ⟨s.b, 1, none⟩ (.int .i64 (wrap64 (s.k + 1))) := by
  have h0 := (cell_of_heap hs.head 0)
  have h1 := (cell_of_heap hs.head 1)
  have f1 := (frozen_of_heap hs.head 1)
  simp only [List.getElem?_toArray, List.getElem?_cons_zero, List.getElem?_cons_succ] at h0 h1
  have h2 := hs.word (i := i) h
  have hne := hs.ne
  obtain ⟨n, rfl⟩ := Int.eq_ofNat_of_zero_le h.1
  have hl := h.2
  simp only [Int.toNat_natCast] at h2
  clear hs h
  obtain ⟨b, g, c, ws, k⟩ := s
  simp only [SSt.at_, Int.toNat_natCast] at *
  generalize ws.getD n 0 = x at *
  generalize ws.length = m at *
  have hgb : g ≠ b := fun e => hne e.symm
  go_enter Try.func18, Try.ntmps18
  go_wp2
  go_ret2
  exact ⟨rfl, rfl⟩

theorem rset_no (i v : Int) (w : World) (s : SSt) (hs : IsRef w s) (h : ¬ s.has i) :
    Calls Try.prog 19 #[.pointer (some ⟨s.b, 0, none⟩), .int .i64 i, .int .u64 v] w fun e w' => e = .returned (.int .i64 3) ∧ w' = w := by
  have h0 := (cell_of_heap hs.head 0)
  simp only [List.getElem?_toArray, List.getElem?_cons_zero] at h0
  unfold SSt.has at h
  obtain ⟨b, g, c, ws, k⟩ := s
  have hn := hs.len
  clear hs
  generalize ws.length = n at *
  dsimp only at *
  by_cases hi : i < 0
  · clear h
    go_enter Try.func19, Try.ntmps19
    go_wp2
    go_ret
    exact ⟨rfl, rfl⟩
  · have hi2 : (n : Int) ≤ i := by omega
    clear h
    go_enter Try.func19, Try.ntmps19
    go_wp2
    all_goals
      go_ret
      exact ⟨rfl, rfl⟩

theorem rset_yes (i v : Int) (w : World) (s : SSt) (hs : IsRef w s) (h : s.has i) :
    Calls Try.prog 19 #[.pointer (some ⟨s.b, 0, none⟩), .int .i64 i, .int .u64 v] w fun e w' => e = .returned (.int .i64 0) ∧
      w' = (w.setCell ⟨s.b, 1, none⟩ (.int .i64 (wrap64 (s.k + 1)))).setCell ⟨s.g, i.toNat, none⟩ (.int .u64 v) := by
  have h0 := (cell_of_heap hs.head 0)
  have h1 := (cell_of_heap hs.head 1)
  have f1 := (frozen_of_heap hs.head 1)
  simp only [List.getElem?_toArray, List.getElem?_cons_zero, List.getElem?_cons_succ] at h0 h1
  have h2 := hs.word (i := i) h
  have f2 := hs.row.frozenAt i.toNat
  have hne := hs.ne
  obtain ⟨n, rfl⟩ := Int.eq_ofNat_of_zero_le h.1
  have hl := h.2
  simp only [Int.toNat_natCast] at h2 f2
  clear hs h
  obtain ⟨b, g, c, ws, k⟩ := s
  simp only [SSt.at_, Int.toNat_natCast] at *
  generalize ws.getD n 0 = x at *
  generalize ws.length = m at *
  have hgb : g ≠ b := fun e => hne e.symm
  go_enter Try.func19, Try.ntmps19
  go_wp2
  go_ret
  exact ⟨rfl, rfl⟩

theorem rget_at {i x : Int} {w : World} {s t : SSt} (hs : IsRef w s) (h : s.has i) (hx : s.at_ i = x) (ht : s.touched = t) :
    Calls Try.prog 18 #[.pointer (some ⟨s.b, 0, none⟩), .int .i64 i] w fun e w' => e = .returned (.tuple #[.int .u64 x, .int .i64 0]) ∧ IsRef w' t ∧ Keeps s.foot w w' := by
  subst hx ht
  refine (rget_yes i w s hs h).mono ?_
  rintro e w' ⟨rfl, rfl⟩
  exact ⟨rfl, rtouched_is hs, (Keeps.refl _ w).setCell (fun _ => .inl rfl) _⟩

theorem rset_at {i v : Int} {w : World} {s t : SSt} (hs : IsRef w s) (h : s.has i) (ht : s.put i v = t) :
    Calls Try.prog 19 #[.pointer (some ⟨s.b, 0, none⟩), .int .i64 i, .int .u64 v] w fun e w' => e = .returned (.int .i64 0) ∧ IsRef w' t ∧ Keeps s.foot w w' := by
  subst ht
  refine (rset_yes i v w s hs h).mono ?_
  rintro e w' ⟨rfl, rfl⟩
  exact ⟨rfl, rput_is hs h v, ((Keeps.refl _ w).setCell (fun _ => .inl rfl) _).setCell (fun _ => .inr rfl) _⟩

end Go.Proofs.Ytlbmknnpglandaa
