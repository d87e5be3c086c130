/- The store's functions by contracts. -/
import Derived.Test.YtbjlapfcnldpoaaProg
import Derived.Test.YtbjlapfcnldpoaaBase
namespace Go.Proofs.Ytbjlapfcnldpoaa
set_option linter.unusedVariables false
set_option linter.unusedSimpArgs false
open Go.RowKit

/-- A store: its block, its words' block and capacity, its words, its count. -/
structure SSt where
  b : Nat
  g : Nat
  c : Nat
  ws : List Int
  k : Int

/-- It lies in memory. -/
structure IsStore (w : World) (s : SSt) : Prop where
  head : w.heap[s.b]? = some (.cells #[.slice (some ⟨s.g, 0, none⟩) s.ws.length s.c, .int .i64 s.k] 127 (0, 0))
  row : w.ownsRow 0 30 1 (.slice (some ⟨s.g, 0, none⟩) s.ws.length s.c) s.ws.length (s.ws.map (Value.int .u64))
  ne : s.b ≠ s.g
  len : s.ws.length ≤ 1048576

/-- its blocks -/
def SSt.foot (s : SSt) : Nat → Prop := fun k => k = s.b ∨ k = s.g
def SSt.has (s : SSt) (i : Int) : Prop := 0 ≤ i ∧ i < s.ws.length
instance (s : SSt) (i : Int) : Decidable (s.has i) := inferInstanceAs (Decidable (_ ∧ _))
def SSt.at_ (s : SSt) (i : Int) : Int := s.ws.getD i.toNat 0
def SSt.touched (s : SSt) : SSt := { s with k := wrap64 (s.k + 1) }
def SSt.put (s : SSt) (i : Int) (v : Int) : SSt := { s with ws := s.ws.set i.toNat v, k := wrap64 (s.k + 1) }

theorem IsStore.keeps {w w' : World} {s : SSt} (h : IsStore w s) {S : Nat → Prop} (hk : Keeps S w w') (h1 : ¬ S s.b) (h2 : ¬ S s.g) : IsStore w' s :=
  ⟨hk.heap h.head h1, hk.row h.row h2, h.ne, h.len⟩
theorem IsStore.lt {w : World} {s : SSt} (h : IsStore w s) : s.b < w.heap.size ∧ s.g < w.heap.size := ⟨lt_of_heap h.head, lt_of_row h.row⟩

theorem touch_nil (i : Int) (w : World) :
    Calls Try.prog 99 #[.pointer none, .int .i64 i] w fun e w' => e = .returned (.iface 97 (.int .i64 1)) ∧ w' = w := by
  go_enter Try.func99, Try.ntmps99
  go_wp2
  go_ret
  exact ⟨rfl, rfl⟩

theorem touch_no (i : Int) (w : World) (s : SSt) (hs : IsStore w s) (h : ¬ s.has i) :
    Calls Try.prog 99 #[.pointer (some ⟨s.b, 0, none⟩), .int .i64 i] w fun e w' => e = .returned (.iface 97 (.int .i64 3)) ∧ w' = w := by
  have h0 := (cell_of_heap hs.head 0)
  simp only [List.getElem?_toArray, List.getElem?_cons_zero] at h0
  unfold SSt.has at h
  obtain ⟨b, g, c, ws, k⟩ := s
  have hn := hs.len
  clear hs
  generalize ws.length = n at *
  dsimp only at *
  by_cases hi : i < 0
  · clear h
    go_enter Try.func99, Try.ntmps99
    go_wp2
    go_ret
    exact ⟨rfl, rfl⟩
  · have hi2 : (n : Int) ≤ i := by omega
    clear h
    go_enter Try.func99, Try.ntmps99
    go_wp2
    all_goals
      go_ret
      exact ⟨rfl, rfl⟩

theorem touch_yes (i : Int) (w : World) (s : SSt) (hs : IsStore w s) (h : s.has i) :
    Calls Try.prog 99 #[.pointer (some ⟨s.b, 0, none⟩), .int .i64 i] w fun e w' => e = .returned .nilIface ∧ w' = w.setCell ⟨s.b, 1, none⟩ (.int .i64 (wrap64 (s.k + 1))) := by
  have h0 := (cell_of_heap hs.head 0)
  have h1 := (cell_of_heap hs.head 1)
  have f1 := (frozen_of_heap hs.head 1)
  simp only [List.getElem?_toArray, List.getElem?_cons_zero, List.getElem?_cons_succ] at h0 h1
  unfold SSt.has at h
  obtain ⟨b, g, c, ws, k⟩ := s
  have hn := hs.len
  clear hs
  generalize ws.length = n at *
  dsimp only at *
  obtain ⟨hi0, hi1⟩ := h
  go_enter Try.func99, Try.ntmps99
  go_wp2
  go_ret
  exact ⟨rfl, rfl⟩

theorem touched_is {w : World} {s : SSt} (hs : IsStore w s) : IsStore (w.setCell ⟨s.b, 1, none⟩ (.int .i64 (wrap64 (s.k + 1)))) s.touched := by
  refine ⟨?_, ?_, hs.ne, hs.len⟩
  · show (w.setCell ⟨s.b, 1, none⟩ _).heap[s.b]? = _
    rw [heap_setCell_at hs.head]; rfl
  · exact Keeps.row ((Keeps.refl (fun k => k = s.b) w).setCell (p := ⟨s.b, 1, none⟩) (fun _ => rfl) _) hs.row (fun e => hs.ne e.symm)

theorem put_is {w : World} {s : SSt} (hs : IsStore w s) {i : Int} (h : s.has i) (v : Int) :
    IsStore ((w.setCell ⟨s.b, 1, none⟩ (.int .i64 (wrap64 (s.k + 1)))).setCell ⟨s.g, i.toNat, none⟩ (.int .u64 v)) (s.put i v) := by
  have ht := touched_is hs
  refine ⟨?_, ?_, hs.ne, by simpa [SSt.put] using hs.len⟩
  · show ((w.setCell ⟨s.b, 1, none⟩ _).setCell _ _).heap[s.b]? = _
    rw [heap_setCell_ne _ _ hs.ne]
    have := ht.head
    simpa [SSt.put, SSt.touched] using this
  · have := (ht.row.stored i.toNat (.int .u64 v)).1
    simpa [SSt.put, SSt.touched, List.map_set] using this

theorem get_nil (i : Int) (w : World) :
    Calls Try.prog 79 #[.pointer none, .int .i64 i] w fun e w' => e = .returned (.tuple #[.int .u64 0, .iface 97 (.int .i64 1)]) ∧ w' = w := by
  go_enter Try.func79, Try.ntmps79
  go_wp2_with (go_at_call 99; refine (touch_nil _ _).mono ?_; rintro e w' ⟨rfl, rfl⟩)
  go_ret2
  exact ⟨rfl, rfl⟩

theorem get_no (i : Int) (w : World) (s : SSt) (hs : IsStore w s) (h : ¬ s.has i) :
    Calls Try.prog 79 #[.pointer (some ⟨s.b, 0, none⟩), .int .i64 i] w fun e w' => e = .returned (.tuple #[.int .u64 0, .iface 97 (.int .i64 3)]) ∧ w' = w := by
  go_enter Try.func79, Try.ntmps79
  go_wp2_with (go_at_call 99; refine (touch_no _ _ s hs h).mono ?_; rintro e w' ⟨rfl, rfl⟩)
  go_ret2
  exact ⟨rfl, rfl⟩

/-- What the word i is, as a cell. -/
theorem IsStore.word {w : World} {s : SSt} (hs : IsStore w s) {i : Int} (h : s.has i) : w.cell? ⟨s.g, i.toNat, none⟩ = some (.int .u64 (s.at_ i)) := by
  obtain ⟨h0, h1⟩ := h
  have := hs.row.cellAt i.toNat (by omega)
  rw [this]
  simp [SSt.at_, List.getD, show i.toNat < s.ws.length by omega]

theorem get_yes (i : Int) (w : World) (s : SSt) (hs : IsStore w s) (h : s.has i) :
    Calls Try.prog 79 #[.pointer (some ⟨s.b, 0, none⟩), .int .i64 i] w fun e w' => e = .returned (.tuple #[.int .u64 (s.at_ i), .nilIface]) ∧ w' = w.setCell ⟨s.b, 1, none⟩ (.int .i64 (wrap64 (s.k + 1))) := by
  go_enter Try.func79, Try.ntmps79
  go_wp2_with fail
  refine (touch_yes _ _ s hs h).mono ?_
  rintro e w' ⟨rfl, hw⟩
  have ht := touched_is hs
  rw [← hw] at ht
  have h0 := (cell_of_heap ht.head 0)
  simp only [List.getElem?_toArray, List.getElem?_cons_zero] at h0
  have h1 := ht.word (i := i) h
  obtain ⟨n, rfl⟩ := Int.eq_ofNat_of_zero_le h.1
  have hl := h.2
  simp only [Int.toNat_natCast] at h1
  have hW := Box.mk hw
  clear hw hs h ht
  obtain ⟨b, g, c, ws, k⟩ := s
  simp only [SSt.touched, SSt.at_, Int.toNat_natCast] at *
  generalize ws.length = m at *
  go_wp2
  go_ret2
  exact ⟨rfl, hW.out⟩

theorem set_nil (i v : Int) (w : World) :
    Calls Try.prog 73 #[.pointer none, .int .i64 i, .int .u64 v] w fun e w' => e = .returned (.iface 97 (.int .i64 1)) ∧ w' = w := by
  go_enter Try.func73, Try.ntmps73
  go_wp2_with (go_at_call 99; refine (touch_nil _ _).mono ?_; rintro e w' ⟨rfl, rfl⟩)
  go_ret
  exact ⟨rfl, rfl⟩

theorem set_no (i v : Int) (w : World) (s : SSt) (hs : IsStore w s) (h : ¬ s.has i) :
    Calls Try.prog 73 #[.pointer (some ⟨s.b, 0, none⟩), .int .i64 i, .int .u64 v] w fun e w' => e = .returned (.iface 97 (.int .i64 3)) ∧ w' = w := by
  go_enter Try.func73, Try.ntmps73
  go_wp2_with (go_at_call 99; refine (touch_no _ _ s hs h).mono ?_; rintro e w' ⟨rfl, rfl⟩)
  go_ret
  exact ⟨rfl, rfl⟩

theorem set_yes (i v : Int) (w : World) (s : SSt) (hs : IsStore w s) (h : s.has i) :
    Calls Try.prog 73 #[.pointer (some ⟨s.b, 0, none⟩), .int .i64 i, .int .u64 v] w fun e w' => e = .returned .nilIface ∧
      w' = (w.setCell ⟨s.b, 1, none⟩ (.int .i64 (wrap64 (s.k + 1)))).setCell ⟨s.g, i.toNat, none⟩ (.int .u64 v) := by
  go_enter Try.func73, Try.ntmps73
  go_wp2_with fail
  refine (touch_yes _ _ s hs h).mono ?_
  rintro e w' ⟨rfl, hw⟩
  have ht := touched_is hs
  rw [← hw] at ht
  have hW := Box.mk hw
  have h0 := (cell_of_heap ht.head 0)
  simp only [List.getElem?_toArray, List.getElem?_cons_zero] at h0
  have h1 := ht.word (i := i) h
  have f1 := ht.row.frozenAt i.toNat
  obtain ⟨n, rfl⟩ := Int.eq_ofNat_of_zero_le h.1
  have hl := h.2
  simp only [Int.toNat_natCast] at h1 f1
  clear hw hs h ht
  obtain ⟨b, g, c, ws, k⟩ := s
  simp only [SSt.touched, SSt.at_, Int.toNat_natCast] at *
  generalize ws.length = m at *
  go_wp2
  go_ret
  exact ⟨rfl, by rw [hW.out]⟩

end Go.Proofs.Ytbjlapfcnldpoaa
