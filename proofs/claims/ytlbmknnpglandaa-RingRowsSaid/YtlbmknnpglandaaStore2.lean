/- The store's other functions by contracts: New, Size, Count, Copy. -/
import Derived.Test.YtlbmknnpglandaaStore
import Derived.Deep.RegionHeld3
namespace Go.Proofs.Ytlbmknnpglandaa
set_option linter.unusedVariables false
set_option linter.unusedSimpArgs false
open Go.RowKit

theorem info_u64 : (Try.prog.info? 22).map (fun i => (i.zero, i.size, i.bytes)) = some (some (.int .u64 0), 1, 8) := by kernel_rfl

theorem new_bad (n : Int) (w : World) (h : n < 0 ∨ 1048576 < n) :
    Calls Try.prog 11 #[.int .i64 n] w fun e w' => e = .returned (.tuple #[.pointer none, .iface 70 (.int .i64 2)]) ∧ w' = w := by
  rcases h with h | h
  · go_enter Try.func11, Try.ntmps11
    go_wp2
    go_ret2
    exact ⟨rfl, rfl⟩
  · go_enter Try.func11, Try.ntmps11
    go_wp2
    go_ret2
    exact ⟨rfl, rfl⟩

theorem made_one (z : Value) (n : Nat) : madeCells #[z] n = (List.replicate n z).toArray := by
  rw [← toList_madeCells_one]

theorem new_world (n : Nat) (w : World) (hn : n ≤ 1048576) :
    IsStore ((w.alloc (.cells (madeCells #[.int .u64 0] n) 22)).alloc (.cells #[.slice (some ⟨w.heap.size, 0, none⟩) n n, .int .i64 0] 72))
      ⟨w.heap.size + 1, w.heap.size, n, List.replicate n 0, 0⟩ := by
  refine ⟨?_, ?_, by simp, by simpa using hn⟩
  · have := heap_alloc_new (w.alloc (.cells (madeCells #[.int .u64 0] n) 22)) (.cells #[.slice (some ⟨w.heap.size, 0, none⟩) n n, .int .i64 0] 72)
    simpa using this
  · have := World.ownsRow_lit (e := 22) (size := 1) (base := 0) w (madeCells #[.int .u64 0] n) n (Nat.zero_le _) (by unfold maxLen; omega) (by simp [size_madeCells])
    rw [toList_madeCells_one] at this
    simpa using this.alloc _

theorem new_ok (n : Int) (w : World) (h : 0 ≤ n) (h2 : n ≤ 1048576) :
    Calls Try.prog 11 #[.int .i64 n] w fun e w' => ∃ s : SSt, e = .returned (.tuple #[.pointer (some ⟨s.b, 0, none⟩), .nilIface]) ∧ IsStore w' s ∧ s.ws = List.replicate n.toNat 0 ∧ s.k = 0 ∧
      Keeps (fun _ => False) w w' ∧ w.heap.size ≤ s.b ∧ w.heap.size ≤ s.g := by
  obtain ⟨n, rfl⟩ := Int.eq_ofNat_of_zero_le h
  obtain ⟨i0, hi, hz0, hz1, hz2⟩ := info_parts info_u64
  have hmk := fun (w : World) => run_make (P := Try.prog) w 41 22 i0 (.int .u64 0) Try.underlying41 hi hz0 .i64 .i64 n n (by omega) (by omega) (by rw [hz2]; omega) (by omega)
  simp only [hz1, Nat.mul_one, Int.toNat_natCast, Value.cells] at hmk
  have hw := Box.mk (new_world n w (by omega))
  clear hi hz0 hz1 hz2
  go_enter Try.func11, Try.ntmps11
  go_wp2
  go_ret2
  refine ⟨⟨w.heap.size + 1, w.heap.size, n, List.replicate n 0, 0⟩, rfl, hw.out, rfl, rfl, ((Keeps.refl _ w).alloc _).alloc _, Nat.le_succ _, Nat.le_refl _⟩

theorem size_nil (w : World) : Calls Try.prog 21 #[.pointer none] w fun e w' => e = .returned (.int .i64 0) ∧ w' = w := by
  go_enter Try.func21, Try.ntmps21
  go_wp2
  go_ret
  exact ⟨rfl, rfl⟩
theorem size_is (w : World) (s : SSt) (hs : IsStore w s) : Calls Try.prog 21 #[.pointer (some ⟨s.b, 0, none⟩)] w fun e w' => e = .returned (.int .i64 s.ws.length) ∧ w' = w := by
  have h0 := (cell_of_heap hs.head 0)
  simp only [List.getElem?_toArray, List.getElem?_cons_zero] at h0
  clear hs
  obtain ⟨b, g, c, ws, k⟩ := s
  dsimp only at *
  generalize ws.length = m at *
  go_enter Try.func21, Try.ntmps21
  go_wp2
  go_ret
  exact ⟨rfl, rfl⟩
theorem count_nil (w : World) : Calls Try.prog 16 #[.pointer none] w fun e w' => e = .returned (.int .i64 0) ∧ w' = w := by
  go_enter Try.func16, Try.ntmps16
  go_wp2
  go_ret
  exact ⟨rfl, rfl⟩
theorem count_is (w : World) (s : SSt) (hs : IsStore w s) : Calls Try.prog 16 #[.pointer (some ⟨s.b, 0, none⟩)] w fun e w' => e = .returned (.int .i64 s.k) ∧ w' = w := by
  have h0 := (cell_of_heap hs.head 1)
  simp only [List.getElem?_toArray, List.getElem?_cons_zero, List.getElem?_cons_succ] at h0
  clear hs
  obtain ⟨b, g, c, ws, k⟩ := s
  dsimp only at *
  go_enter Try.func16, Try.ntmps16
  go_wp2
  go_ret
  exact ⟨rfl, rfl⟩

/-- slices.Clone of a slice that is not nil. -/
theorem clone_some (g n c : Nat) (xs : List Int) (w : World) (hn : n ≤ 1048576) (hown : w.ownsRow 0 22 1 (.slice (some ⟨g, 0, none⟩) n c) n (xs.map (Value.int .u64))) :
    Calls Try.prog 34 #[.slice (some ⟨g, 0, none⟩) n c] w fun e w' => ∃ g' c', e = .returned (.slice (some ⟨g', 0, none⟩) n c') ∧ w.heap.size ≤ g' ∧
      w'.ownsRow 0 22 1 (.slice (some ⟨g', 0, none⟩) n c') n (xs.map (Value.int .u64)) ∧ Keeps (fun _ => False) w w' := by
  have hq := fun (w : World) => Lib.run_eql_slice_nil (P := Try.prog) w 41 22 (some ⟨g, 0, none⟩) n c 0 0 Try.underlying41
  obtain ⟨i0, hi, hz0, hz1, hz2⟩ := info_parts info_u64
  have hlen := hown.1
  have hlt := lt_of_row hown
  have hnews : ∀ j u, (xs.map (Value.int .u64))[j]? = some u → (w.alloc (.cells #[] 22)).cell? ((⟨g, 0, none⟩ : Addr).add j) = some u := (hown.alloc _).cells rfl
  have hfresh : (w.alloc (.cells #[] 22)).ownsRow w.heap.size 22 1 (.slice (some ⟨w.heap.size, 0, none⟩) 0 0) 0 [] :=
    World.ownsRow_lit w #[] 0 (Nat.le_refl _) (by unfold maxLen; omega) rfl
  have Hn := Box.mk hnews
  have Ho := Box.mk hown
  have Hl := Box.mk hlen
  clear hnews hown hlen
  go_enter Try.func34, Try.ntmps34
  go_wp2_with (at_builtin; refine wpList_append_own _ rfl _ _ 41 rfl w.heap.size 22 i0 (.int .u64 0) 1 8 Try.underlying41 hi hz0 hz1 hz2 rfl (by decide) _ _ _ rfl hfresh ⟨g, 0, none⟩ n c (xs.map (Value.int .u64)) rfl Hl.out Hn.out ?c2 ?c3 ?c4 ?c5 ?c6)
  case c2 => exact ints_oneCell _ _
  case c3 => unfold maxLen; omega
  case c4 => omega
  case c5 => simp
  case c6 =>
    intro v' w' hown' hgrow hiff
    have hv : ∃ g' c', v' = .slice (some ⟨g', 0, none⟩) n c' ∧ w.heap.size ≤ g' := by
      rcases hown'.2 with ⟨h, _⟩ | ⟨g', cap, cur, h, hb, _⟩
      · exact (hiff h).elim
      · exact ⟨g', cap, h, hb⟩
    obtain ⟨g', c', rfl, hg'⟩ := hv
    have hk : Keeps (fun _ => False) w w' := ((Keeps.refl _ w).alloc _).grown hgrow (by intro k hk; simp [Value.ownBlock] at hk; omega)
    have hown2 : w'.ownsRow 0 22 1 (.slice (some ⟨g', 0, none⟩) n c') n (xs.map (Value.int .u64)) := by
      refine ⟨hown'.1, ?_⟩
      rcases hown'.2 with ⟨h, _⟩ | ⟨g2, cap, cur, h, hb, r⟩
      · cases h
      · exact .inr ⟨g2, cap, cur, h, Nat.zero_le _, r⟩
    have Hk := Box.mk hk
    have Ho2 := Box.mk hown2
    clear hk hown2 hown' hgrow hiff hfresh hq
    go_wp2
    go_ret
    exact ⟨g', c', rfl, hg', Ho2.out, Hk.out⟩

theorem copy_nil (w : World) : Calls Try.prog 20 #[.pointer none] w fun e w' => e = .returned (.pointer none) ∧ w' = w := by
  go_enter Try.func20, Try.ntmps20
  go_wp2
  go_ret
  exact ⟨rfl, rfl⟩

theorem copy_is (w : World) (s : SSt) (hs : IsStore w s) : Calls Try.prog 20 #[.pointer (some ⟨s.b, 0, none⟩)] w fun e w' => ∃ t : SSt, e = .returned (.pointer (some ⟨t.b, 0, none⟩)) ∧
    IsStore w' t ∧ t.ws = s.ws ∧ t.k = s.k ∧ Keeps (fun _ => False) w w' ∧ w.heap.size ≤ t.b ∧ w.heap.size ≤ t.g := by
  have h0 := (cell_of_heap hs.head 0)
  have h1 := (cell_of_heap hs.head 1)
  simp only [List.getElem?_toArray, List.getElem?_cons_zero, List.getElem?_cons_succ] at h0 h1
  have Hs := Box.mk hs
  have hrow := Box.mk hs.row
  have hlen := hs.len
  have hlt := hs.lt.1
  clear hs
  obtain ⟨b, g, c, ws, k⟩ := s
  dsimp only at *
  obtain ⟨m, hm⟩ : ∃ m, m = ws.length := ⟨_, rfl⟩
  rw [← hm] at h0 hrow hlen
  have Hm := Box.mk hm
  clear hm
  go_enter Try.func20, Try.ntmps20
  go_wp2_with fail
  go_region_held3 (fun w' => w'.cell? ⟨b, 0, none⟩ = some (.slice (some ⟨g, 0, none⟩) m c) ∧ w'.cell? ⟨b, 1, none⟩ = some (.int .i64 k))
    (first | go_keep | exact ⟨hk'.cell (by first | exact h0 | assumption) (by simp), hk'.cell (by first | exact h1 | assumption) (by simp)⟩)
    (first | (go_at_call 34; refine (clone_some g m c ws _ hlen (by exact hrow.out)).mono ?_; rintro e w' ⟨g', c', rfl, hg', hr', hk'⟩))
  have hlt' := lt_of_row hr'
  have hT : IsStore (w'.alloc (.cells #[.slice (some ⟨g', 0, none⟩) m c', .int .i64 k] 72)) ⟨w'.heap.size, g', c', ws, k⟩ := by
    have hm := Hm.out
    subst hm
    refine ⟨?_, hr'.alloc _, ?_, hlen⟩
    · have := heap_alloc_new w' (.cells #[.slice (some ⟨g', 0, none⟩) ws.length c', .int .i64 k] 72)
      simpa using this
    · simp only [ne_eq]; omega
  have HT := Box.mk hT
  have HK := Box.mk (((show Keeps (fun _ => False) w w.drew from (Keeps.refl _ w).drew).trans hk').alloc (.cells #[.slice (some ⟨g', 0, none⟩) m c', .int .i64 k] 72))
  have hsz := hk'.size
  simp only [World.size_drew] at hsz hg'
  clear hT hk' hr' h0 h1
  go_wp2
  go_ret
  exact ⟨⟨w'.heap.size, g', c', ws, k⟩, rfl, HT.out, rfl, rfl, HK.out, hsz, hg'⟩

end Go.Proofs.Ytlbmknnpglandaa
