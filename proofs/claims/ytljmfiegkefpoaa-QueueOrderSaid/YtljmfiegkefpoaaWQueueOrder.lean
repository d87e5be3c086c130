/- QueueOrder's walk: events come out in the order in which they went in. -/
import Derived.Test.YtljmfiegkefpoaaWQueueDrops
import Derived.Stop.IfaceNil
namespace Go.Proofs.Ytljmfiegkefpoaa
set_option linter.unusedVariables false
set_option linter.unusedSimpArgs false
open Go.RowKit

theorem evCells_take_snoc (q : List (Int × Int)) (k n : Int) : evCells q ++ [.int .i64 k, .int .i64 n] = evCells (q ++ [(k, n)]) := by
  rw [evCells_snoc]
theorem drop_cons (q : List (Int × Int)) (j : Nat) (h : j < q.length) : q.drop j = q.getD j (0, 0) :: q.drop (j + 1) := by
  rw [List.drop_eq_getElem_cons h]
  simp [List.getD, h]

set_option maxRecDepth 100000 in
set_option maxHeartbeats 4000000 in
theorem QueueOrder_walk (v : Value) (t : Int) (w : World) (hv : Reads Try.prog w 22 v) (hk : (Lit.int .i64 t).wf = true) :
    Calls Try.prog 4 #[v, .int .i64 t] w fun e w' => e = .returned (.bool true) ∧ Below w.heap.size w w' := by
  clear hk
  obtain ⟨l, hl⟩ := events_of_reads hv
  clear hv
  obtain ⟨a, c, rfl⟩ := hl.form
  have hlen := hl.len
  have HL := Box.mk hl
  clear hl
  obtain ⟨n, hn⟩ : ∃ n, l.length = n := ⟨_, rfl⟩
  have Hn := Box.mk hn
  rw [hn] at hlen ⊢
  clear hn
  obtain ⟨i0, hi0, hz0, hz1, hz2⟩ := info_parts info_event
  have Hi := Box.mk (And.intro hi0 (And.intro hz0 (And.intro hz1 hz2)))
  clear hi0 hz0 hz1 hz2
  have hb := umod_bd t 40 (by omega) (by omega)
  go_enter Try.func4, Try.ntmps4
  go_wp2_with fail
  refine (awake20 _).mono ?_
  rintro e w1 ⟨rfl, k1⟩
  have K1 := Box.mk k1
  clear k1
  by_cases h200 : 200 < n
  · go_wp2_with fail
    refine (awake20 _).mono ?_
    rintro e w2 ⟨rfl, k2⟩
    have K2 := Box.mk (K1.out.trans k2)
    clear k2
    go_wp2_with fail
    go_ret
    exact ⟨rfl, K2.out.below (Nat.le_refl _) (fun _ h => h.elim)⟩
  go_wp2_with fail
  refine (lnew_is _).mono ?_
  rintro e w2 ⟨rfl, h2, k2⟩
  obtain ⟨b, hb0⟩ : ∃ b, w1.heap.size = b := ⟨_, rfl⟩
  rw [hb0] at h2 ⊢
  have Hb : w.heap.size ≤ b := by have := K1.out.size; omega
  have H2 := Box.mk h2
  have K2 := Box.mk (K1.out.trans k2)
  clear hb0 h2 k2 K1
  go_wp2_with fail
  generalize wrap64 ((IntKind.u64.wrap t).tmod 40) = m at hb ⊢
  generalize IntKind.u64.wrap t = n1
  generalize n1.tmod 40 = n2
  obtain ⟨m, rfl⟩ := Int.eq_ofNat_of_zero_le hb.1
  obtain ⟨-, hm⟩ := hb
  go_loopw [29] (fun i wr => ∃ (j : Nat), j ≤ m ∧ i = .int .i64 j ∧ Box (IsQL wr b []) ∧ Box (Keeps (fun _ => False) w wr)) (fun i _ => m - (intOf i).toNat)
  case atStart => exact ⟨0, Nat.zero_le _, rfl, H2, K2⟩
  case round =>
    clear H2 K2
    obtain ⟨j, hj, rfl, HQ, K⟩ := hrel
    by_cases hlt : j < m
    · go_wp2_with fail
      refine (lpush_is HQ.out (by simp) (by rfl)).mono ?_
      rintro e w3 ⟨rfl, hq3, k3⟩
      have HQ3 : Box (IsQL w3 b ((1, 0) :: [])) := ⟨hq3⟩
      have K3 := Box.mk (K.out.trans' k3 (by intro i hi h; omega))
      clear hq3 k3 HQ K
      go_wp2_with fail
      refine (lpop_is HQ3.out).mono ?_
      rintro e w4 ⟨rfl, hq4, k4⟩
      have HQ4 := Box.mk hq4
      have K4 := Box.mk (K3.out.trans' k4 (by intro i hi h; omega))
      clear hq4 k4 HQ3 K3
      go_wp2_with fail
      go_roundw
      case rel => exact ⟨j + 1, by omega, by go_num, HQ4, K4⟩
      case measure => simp [intOf]; omega
    · have hbl := HQ.out.lt
      obtain ⟨B, hB⟩ : ∃ B, wr.heap.size = B := ⟨_, rfl⟩
      have hbB : b < B := by omega
      have hBw : w.heap.size ≤ B := by have := K.out.size; omega
      have Hown : Box (wr.ownsRow B 27 2 (.slice none 0 0) ([] : List (Int × Int)).length (evCells [])) := ⟨World.ownsRow_nil _ _ _ _⟩
      have hBle : B ≤ wr.heap.size := by omega
      clear hbl hB
      go_wp2_with fail
      clear hlt hj hm
      go_loopw [6, 39] (fun v i wr => ∃ (j : Nat) (q : List (Int × Int)), j ≤ n ∧ i = .int .i64 j ∧ Box (IsQL wr b q) ∧ Box (wr.ownsRow B 27 2 v q.length (evCells q)) ∧ B ≤ wr.heap.size ∧ Box (Keeps (fun _ => False) w wr)) (fun _ i _ => n - (intOf i).toNat)
      case atStart => exact ⟨0, [], Nat.zero_le _, rfl, HQ, Hown, hBle, K⟩
      case round =>
        clear HQ Hown K hBle
        obtain ⟨j, q, hj, rfl, HQ, Hown, hBle, K⟩ := hrel
        by_cases hlt : j < n
        · obtain ⟨eb, eo, rfl, heb, c0, c1⟩ := HL.out.cells _ _ _ rfl j (by rw [Hn.out]; exact hlt)
          have d0 := K.out.cell c0 (fun h => h)
          have d1 := K.out.cell c1 (fun h => h)
          clear c0 c1
          generalize (l.getD j (0, 0)).1 = x at d0
          generalize (l.getD j (0, 0)).2 = y at d1
          have HQ1 := Box.mk (HQ.out.keeps0 ((Keeps.refl (fun _ => False) wr).alloc (.cells #[.int .i64 x, .int .i64 y] 27)))
          have K1 := Box.mk (K.out.alloc (.cells #[.int .i64 x, .int .i64 y] 27))
          go_wp2_with fail
          refine (lpush_any HQ1.out).mono ?_
          rintro e w3 ⟨r, q', rfl, hp, hq3, k3⟩
          have g3 : w3.heap[wr.heap.size]? = some (.cells #[.int .i64 x, .int .i64 y] 27 (0, 0)) := by
            refine k3.heap ?_ ?_
            · exact heap_alloc_new _ _
            · show ¬ wr.heap.size = b
              have := HQ.out.lt
              omega
          have d0 := cell_of_heap g3 0
          have d1 := cell_of_heap g3 1
          have hw3 : wr.heap.size < w3.heap.size := (Array.getElem?_eq_some_iff.1 g3).1
          have HQ3 := Box.mk hq3
          have hle := hq3.len
          have hB3 : B ≤ w3.heap.size := by omega
          have Hown3 := Box.mk (k3.own (Hown.out.alloc (.cells #[.int .i64 x, .int .i64 y] 27)) (fun z hz => by
            have := (Hown.out.lt z hz).1
            show ¬ z = b
            omega))
          have K3 := Box.mk (K1.out.trans' k3 (by intro i hi h; omega))
          clear hq3 k3 HQ1 K1 HQ K Hown g3
          cases hp with
          | ok h16 hm =>
            clear hm
            have hq16 : q.length < 16 := h16
            obtain ⟨fl, hfl⟩ : ∃ fl, q.length = fl := ⟨_, rfl⟩
            have Hfl := Box.mk hfl
            have Hown4 : Box (w3.ownsRow B 27 2 u6 fl (evCells q)) := ⟨by rw [← hfl]; exact Hown3.out⟩
            rw [hfl] at hq16
            clear Hown3 hfl h16 hle
            go_wp2_with (at_builtin; refine wpList_append_own _ rfl _ _ 22 rfl B 27 i0 _ 2 16 Try.underlying22 Hi.out.1 Hi.out.2.1 Hi.out.2.2.1 Hi.out.2.2.2 rfl (by decide) u6 fl _ rfl (Hown4.out.alloc _) ⟨w3.heap.size, 0, none⟩ 1 1 [.int .i64 x, .int .i64 y] rfl rfl ?c1 ?c2 ?c3 ?c4 ?c5 ?c6)
            case c1 => exact World.news_of_block (cs := #[.int .i64 x, .int .i64 y]) (t := 27) (fr := (0, 0)) (by have := heap_alloc_new w3 (.cells #[.int .i64 x, .int .i64 y] 27); simpa using this)
            case c2 => intro u hu; simp at hu; rcases hu with rfl | rfl <;> rfl
            case c3 => unfold maxLen; omega
            case c4 => omega
            case c5 => simp; omega
            case c6 =>
              intro v' w6 hown6 hgrow _
              have hle6 : (q ++ [(x, y)]).length = fl + 1 := by simp [Hfl.out]
              have Hown6 : Box (w6.ownsRow B 27 2 v' (q ++ [(x, y)]).length (evCells (q ++ [(x, y)]))) := ⟨by rw [hle6, ← evCells_take_snoc]; exact hown6⟩
              have k6 : Keeps (fun z => B ≤ z) w3 w6 := ((Keeps.refl _ _).alloc _).grown hgrow (fun k hk _ => (Hown4.out.lt k hk).1)
              have HQ6 := Box.mk (HQ3.out.keeps k6 (by show ¬ B ≤ b; omega))
              have K6 := Box.mk (K3.out.trans' k6 (by intro i hi h; omega))
              have hB6 : B ≤ w6.heap.size := by have := k6.size; omega
              clear hown6 hgrow k6 hle6 K3 HQ3 Hown4
              go_wp2_with fail
              go_roundw
              case rel => exact ⟨j + 1, _, by omega, by go_num, HQ6, Hown6, hB6, K6⟩
              case measure => simp [intOf]; omega
          | arg hm =>
            clear hm d0 d1
            have hif : Try.prog.isIface 29 = true := by kernel_rfl
            have hn2 := fun w => run_eql_iface_nil (P := Try.prog) w 29 hif 40 (.int .i64 2)
            have hn3 : ((2 : Int) == 18) = false := rfl
            have hn4 : ((2 : Int) == 2) = true := rfl
            obtain ⟨fa, fc, rfl⟩ := (IsEvs.of_own Hown3.out).form
            obtain ⟨fl, hfl⟩ : ∃ fl, q.length = fl := ⟨_, rfl⟩
            have Hfl := Box.mk hfl
            rw [hfl] at hle ⊢
            clear hfl
            by_cases h16 : fl = 16
            · subst h16
              go_wp2_with (first | (go_at_call 20; refine (is_kind _ _ _).mono ?_; rintro e w' ⟨rfl, rfl⟩))
              go_roundw
              case rel => exact ⟨j + 1, q, by omega, by go_num, HQ3, by rw [← Hfl.out] at *; exact Hown3, hB3, K3⟩
              case measure => simp [intOf]; omega
            · have h17 : ((fl : Int) == 16) = false := by rw [beq_eq_false_iff_ne]; omega
              go_wp2_with (first | (go_at_call 20; refine (is_kind _ _ _).mono ?_; rintro e w' ⟨rfl, rfl⟩))
              go_roundw
              case rel => exact ⟨j + 1, q, by omega, by go_num, HQ3, by rw [← Hfl.out] at *; exact Hown3, hB3, K3⟩
              case measure => simp [intOf]; omega
          | full h16 hm =>
            clear hm d0 d1
            have hif : Try.prog.isIface 29 = true := by kernel_rfl
            have hn2 := fun w => run_eql_iface_nil (P := Try.prog) w 29 hif 40 (.int .i64 18)
            have hn4 : ((18 : Int) == 18) = true := rfl
            obtain ⟨fa, fc, rfl⟩ := (IsEvs.of_own Hown3.out).form
            obtain ⟨fl, hfl⟩ : ∃ fl, q.length = fl := ⟨_, rfl⟩
            have Hfl := Box.mk hfl
            rw [hfl] at h16 ⊢
            clear hfl
            subst h16
            go_wp2_with (first | (go_at_call 20; refine (is_kind _ _ _).mono ?_; rintro e w' ⟨rfl, rfl⟩))
            go_roundw
            case rel => exact ⟨j + 1, q, by omega, by go_num, HQ3, by rw [← Hfl.out] at *; exact Hown3, hB3, K3⟩
            case measure => simp [intOf]; omega
        · have H4 := Box.mk (IsEvs.of_own Hown.out)
          obtain ⟨fa, fc, rfl⟩ := H4.out.form
          obtain ⟨fl, hfl⟩ : ∃ fl, q.length = fl := ⟨_, rfl⟩
          have Hfl := Box.mk hfl
          have hle := HQ.out.len
          rw [hfl] at hle ⊢
          have Hfa : Box (∀ bb oo, fa = some ⟨bb, oo, none⟩ → bb ≠ b) := ⟨fun bb oo h => by
            subst h
            have := (Hown.out.lt bb rfl).1
            omega⟩
          have HQ5 : Box (IsQL wr b (q.drop 0)) := ⟨HQ.out⟩
          clear hfl HQ Hown
          go_wp2_with fail
          clear hlt hj
          obtain ⟨wB, hwB⟩ : ∃ z, z = wr := ⟨_, rfl⟩
          rw [← hwB] at H4
          have K6 : Box (Keeps (fun z => z = b) wB wr) := ⟨by rw [hwB]; exact Keeps.refl _ _⟩
          have KB : Box (Keeps (fun _ => False) w wB) := ⟨by rw [hwB]; exact K.out⟩
          clear hwB K
          go_loopw [68] (fun i wr => ∃ (j : Nat), j ≤ fl ∧ i = .int .i64 j ∧ Box (IsQL wr b (q.drop j)) ∧ Box (Keeps (fun z => z = b) wB wr)) (fun i _ => fl - (intOf i).toNat)
          case atStart => exact ⟨0, Nat.zero_le _, rfl, HQ5, K6⟩
          case round =>
            clear HQ5 K6
            obtain ⟨j, hj, rfl, HQ, K⟩ := hrel
            by_cases hlt : j < fl
            · obtain ⟨eb, eo, rfl, heb, c0, c1⟩ := H4.out.cells _ _ _ rfl j (by rw [Hfl.out]; exact hlt)
              have hne := Hfa.out eb eo rfl
              have d0 := K.out.cell c0 (by simpa using hne)
              have d1 := K.out.cell c1 (by simpa using hne)
              clear c0 c1
              have hdc := drop_cons q j (by rw [Hfl.out]; exact hlt)
              rw [hdc] at HQ
              clear hdc
              generalize q.getD j (0, 0) = p at d0 d1 HQ
              obtain ⟨x, y⟩ := p
              simp only at d0 d1
              have HQ1 := Box.mk (HQ.out.keeps0 ((Keeps.refl (fun _ => False) wr).alloc (.cells #[.int .i64 x, .int .i64 y] 27)))
              have K1 := Box.mk (K.out.alloc (.cells #[.int .i64 x, .int .i64 y] 27))
              go_wp2_with fail
              refine (lpop_is HQ1.out).mono ?_
              rintro e w3 ⟨rfl, hq3, k3⟩
              have g3 : w3.heap[wr.heap.size]? = some (.cells #[.int .i64 x, .int .i64 y] 27 (0, 0)) := by
                refine k3.heap ?_ ?_
                · exact heap_alloc_new _ _
                · show ¬ wr.heap.size = b
                  have := HQ.out.lt
                  omega
              have e0 := cell_of_heap g3 0
              have e1 := cell_of_heap g3 1
              have hw3 : wr.heap.size < w3.heap.size := (Array.getElem?_eq_some_iff.1 g3).1
              have HQ3 := Box.mk hq3
              have K3 := Box.mk (K1.out.trans' k3 (by intro i hi h; exact h))
              clear hq3 k3 HQ1 K1 HQ K g3 d0 d1
              go_wp2_with fail
              exact ⟨⟨j + 1, by omega, by go_num, ⟨HQ3.out.keeps0 ((Keeps.refl (fun _ => False) _).alloc _)⟩, ⟨K3.out.alloc _⟩⟩, by simp [intOf]; omega⟩
            · have hdr : q.drop j = [] := List.drop_eq_nil_of_le (by rw [Hfl.out]; omega)
              rw [hdr] at HQ
              have K7 := Box.mk (KB.out.trans' K.out (by intro i hi h; omega))
              clear hdr K KB
              go_wp2_with fail
              clear hlt hj
              refine (lpop_none HQ.out).mono ?_
              rintro e w3 ⟨rfl, k3⟩
              have HQ3 := Box.mk (HQ.out.keeps0 k3)
              have HQ4 : Box (IsQL (w3.alloc (.cells #[.int .i64 0, .int .i64 0] 27)) b []) := ⟨HQ3.out.keeps0 ((Keeps.refl (fun _ => False) _).alloc _)⟩
              have K8 := Box.mk (K7.out.trans k3)
              clear k3 HQ K7 HQ3
              go_wp2_with (first | (go_at_call 16; refine (llen_is HQ4.out).mono ?_; rintro e w' ⟨rfl, rfl⟩))
              go_ret
              exact ⟨rfl, (K8.out.alloc _).below (Nat.le_refl _) (fun _ h => h.elim)⟩

end Go.Proofs.Ytljmfiegkefpoaa
