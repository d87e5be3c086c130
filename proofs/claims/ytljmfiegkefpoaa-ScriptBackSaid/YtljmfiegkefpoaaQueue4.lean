/- The queue's Drop by contract; lists of events compared; law 20's kind and awake. -/
import Derived.Test.YtljmfiegkefpoaaQueue3
import Derived.Test.YtljmfiegkefpoaaErr
namespace Go.Proofs.Ytljmfiegkefpoaa
set_option linter.unusedVariables false
set_option linter.unusedSimpArgs false
open Go.RowKit

theorem drop_nil (k : Int) (w : World) : Calls Try.prog 17 #[.pointer none, .int .i64 k] w fun e w' => e = .returned (.int .i64 0) ∧ w' = w := by
  go_enter Try.func17, Try.ntmps17
  go_wp2
  go_ret
  exact ⟨rfl, rfl⟩

/-- What is set at the place of the j-th event is the j-th event, and no other. -/
theorem qev_set (F : Nat) (L : List Int) (hL : L.length = 34) (a b : Int) (i j : Nat) (hi : i < 16) (hj : j < 16) :
    qev F ((L.set (((F + i) % 16) * 2) a).set (((F + i) % 16) * 2 + 1) b) j = if j = i then (a, b) else qev F L j := by
  by_cases h : j = i
  · subst h
    rw [if_pos rfl]
    unfold qev
    have h1 : (F + j) % 16 < 16 := Nat.mod_lt _ (by omega)
    generalize (F + j) % 16 = p at h1
    simp only [List.getD_eq_getElem?_getD, Nat.mul_comm 2 p]
    rw [List.getElem?_set_ne (by omega), List.getElem?_set_self (by omega), List.getElem?_set_self (by simp; omega)]
    rfl
  · rw [if_neg h]
    have h1 : (F + j) % 16 < 16 := Nat.mod_lt _ (by omega)
    have h2 : (F + i) % 16 < 16 := Nat.mod_lt _ (by omega)
    have h3 : (F + j) % 16 ≠ (F + i) % 16 := by omega
    unfold qev
    generalize (F + j) % 16 = p at *
    generalize (F + i) % 16 = q at *
    simp only [List.getD_eq_getElem?_getD, Nat.mul_comm 2 p]
    rw [List.getElem?_set_ne (by omega), List.getElem?_set_ne (by omega), List.getElem?_set_ne (by omega), List.getElem?_set_ne (by omega)]

/-- Amid Drop: behind i events those that were kept stand first, and the others are untouched. -/
structure Dropped (F N : Nat) (k : Int) (L L' : List Int) (i c : Nat) : Prop where
  len : L'.length = 34
  f : L'.getD 32 0 = F
  n : L'.getD 33 0 = N
  le : c ≤ i
  kept : (List.range c).map (qev F L') = ((List.range i).map (qev F L)).filter (fun p => p.1 != k)
  rest : ∀ j, i ≤ j → j < N → qev F L' j = qev F L j

theorem Dropped.start {F N : Nat} {k : Int} {L : List Int} (h : L.length = 34) (hf : L.getD 32 0 = F) (hn : L.getD 33 0 = N) : Dropped F N k L L 0 0 :=
  ⟨h, hf, hn, Nat.le_refl _, rfl, fun _ _ _ => rfl⟩
theorem Dropped.gone {F N : Nat} {k : Int} {L L' : List Int} {i c : Nat} (h : Dropped F N k L L' i c) (hi : i < N) (hk : (qev F L i).1 = k) : Dropped F N k L L' (i + 1) c := by
  refine ⟨h.len, h.f, h.n, by have := h.le; omega, ?_, fun j hj => h.rest j (by omega)⟩
  rw [h.kept, List.range_succ, List.map_append, List.filter_append]
  simp [hk]
theorem Dropped.stay {F N : Nat} {k : Int} {L L' : List Int} {i c : Nat} (h : Dropped F N k L L' i c) (hi : i < N) (hN : N ≤ 16) (hk : (qev F L i).1 ≠ k) :
    Dropped F N k L ((L'.set (((F + c) % 16) * 2) (qev F L' i).1).set (((F + c) % 16) * 2 + 1) (qev F L' i).2) (i + 1) (c + 1) := by
  have hc := h.le
  have hlen := h.len
  have h16 : (F + c) % 16 < 16 := Nat.mod_lt _ (by omega)
  refine ⟨by simpa using h.len, ?_, ?_, by omega, ?_, ?_⟩
  · rw [← h.f]; simp only [List.getD_eq_getElem?_getD]; rw [List.getElem?_set_ne (by omega), List.getElem?_set_ne (by omega)]
  · rw [← h.n]; simp only [List.getD_eq_getElem?_getD]; rw [List.getElem?_set_ne (by omega), List.getElem?_set_ne (by omega)]
  · rw [List.range_succ, List.map_append, List.range_succ, List.map_append, List.filter_append, ← h.kept]
    congr 1
    · apply List.map_congr_left
      intro j hj
      have : j < c := by simpa using hj
      rw [qev_set F L' hlen _ _ c j (by omega) (by omega), if_neg (by omega)]
    · simp only [List.map_cons, List.map_nil]
      rw [qev_set F L' hlen _ _ c c (by omega) (by omega), if_pos rfl, h.rest i (Nat.le_refl _) hi]
      simp [hk]
  · intro j hj hjN
    rw [qev_set F L' hlen _ _ c j (by omega) (by omega), if_neg (by omega)]
    exact h.rest j (by omega) hjN

/-- The queue behind Drop: the others, in order. -/
structure Drops (k : Int) (L L' : List Int) : Prop where
  list : qlist L' = (qlist L).filter (fun p => p.1 != k)

set_option maxRecDepth 100000 in
set_option maxHeartbeats 3200000 in
theorem drop_is (b : Nat) (k : Int) (L : List Int) (w : World) (hq : IsQ w b L) :
    Calls Try.prog 17 #[.pointer (some ⟨b, 0, none⟩), .int .i64 k] w fun e w' => ∃ L', e = .returned (.int .i64 (((qlist L).length : Int) - ((qlist L').length : Int))) ∧ IsQ w' b L' ∧ Drops k L L' ∧ Keeps (fun j => j = b) w w' := by
  have HQ := Box.mk hq
  have hlt := hq.lt
  have f0 := hq.f0
  have f1 := hq.f1
  have n0 := hq.n0
  have n1 := hq.n1
  obtain ⟨F, hF⟩ : ∃ F : Nat, L.getD 32 0 = (F : Int) := ⟨(L.getD 32 0).toNat, by omega⟩
  obtain ⟨N, hN⟩ : ∃ N : Nat, L.getD 33 0 = (N : Int) := ⟨(L.getD 33 0).toNat, by omega⟩
  have hN1 := hq.cell (j := 33) (by omega)
  rw [hN] at hN1
  have HD := Box.mk (Dropped.start (k := k) hq.len hF hN)
  rw [hF] at f0 f1
  rw [hN] at n0 n1
  have HF := Box.mk hF
  have HN := Box.mk hN
  have HE : Box (qlist L = (List.range N).map (qev F L)) := ⟨by unfold qlist; rw [hF, hN]; rfl⟩
  clear hq hF hN
  go_enter Try.func17, Try.ntmps17
  go_wp2_with fail
  have K0 := Box.mk (Keeps.refl (fun j => j = b) w)
  go_loopw [5, 15] (fun v i wr => ∃ (i' c : Nat) (L' : List Int), i' ≤ N ∧ c ≤ i' ∧ i = .int .i64 i' ∧ v = .int .i64 c ∧ Box (Dropped F N k L L' i' c) ∧ Box (IsQ wr b L') ∧ Box (Keeps (fun j => j = b) w wr)) (fun _ i _ => N - (intOf i).toNat)
  case atStart => exact ⟨0, 0, L, Nat.zero_le _, Nat.zero_le _, rfl, rfl, HD, HQ, K0⟩
  case round =>
    clear HD HQ K0 hN1
    obtain ⟨i, c, L', hi, hci, rfl, rfl, HD, HQ, K⟩ := hrel
    by_cases hin : i < N
    · have hF1 := HQ.out.cell (j := 32) (by omega)
      rw [HD.out.f] at hF1
      obtain ⟨j, hj⟩ : ∃ j : Nat, (F + i) % 16 = j := ⟨_, rfl⟩
      have hj16 : j < 16 := by omega
      have hj0 : (0 : Int) ≤ (j : Int) := by omega
      have hj1 : (j : Int) < (16 : Int) := by omega
      have hc0 := HQ.out.cell (j := j * 2) (by omega)
      have hc1 := HQ.out.cell (j := j * 2 + 1) (by omega)
      have he : qev F L' i = (L'.getD (j * 2) 0, L'.getD (j * 2 + 1) 0) := by simp only [qev, hj, Nat.mul_comm 2 j]
      have he2 : qev F L' i = qev F L i := HD.out.rest i (Nat.le_refl _) hin
      have hA := fun (w : World) (h : w.cell? ⟨b, 32, none⟩ = some (.int .i64 F)) => at_is b i F w h f0 f1 (by omega) (by omega)
      rw [show ((F : Int) + (i : Int)) % 16 = (j : Int) by omega] at hA
      have HA := Box.mk hA
      have Hj := Box.mk hj
      have He := Box.mk he
      have He2 := Box.mk he2
      clear hA hj he he2
      have hbw := HQ.out.lt
      generalize L'.getD (j * 2) 0 = o0 at hc0 He
      generalize L'.getD (j * 2 + 1) 0 = o1 at hc1 He
      have ne0 := World.new_ne wr ⟨b, 32, none⟩ hF1
      have ne1 := World.new_ne wr ⟨b, j * 2, none⟩ hc0
      have ne2 := World.new_ne wr ⟨b, j * 2 + 1, none⟩ hc1
      go_wp2_with fail
      go_region_held3 (fun w' => w'.cell? ⟨b, 32, none⟩ = some (.int .i64 F) ∧ w'.cell? ⟨b, j * 2, none⟩ = some (.int .i64 o0) ∧ w'.cell? ⟨b, j * 2 + 1, none⟩ = some (.int .i64 o1))
        (first | go_keep)
        (first | (go_at_call 34; refine (HA.out _ (by first | assumption | exact And.left (by assumption) | go_simp)).mono ?_; rintro e w' ⟨rfl, rfl⟩))
      all_goals
        have qa := Box.mk ((HQ.out.keeps ((Keeps.refl (fun _ => False) wr).alloc (.cells #[.int .i64 o0, .int .i64 o1] 27)) (fun h => h)).drew)
        have ka := Box.mk ((K.out.alloc (.cells #[.int .i64 o0, .int .i64 o1] 27)).drew)
        have t0 : (wr.alloc (.cells #[.int .i64 o0, .int .i64 o1] 27)).drew.cell? ⟨wr.heap.size, 0, none⟩ = some (.int .i64 o0) := by simp
        have t1 : (wr.alloc (.cells #[.int .i64 o0, .int .i64 o1] 27)).drew.cell? ⟨wr.heap.size, 1, none⟩ = some (.int .i64 o1) := by simp
        have tsz : Box ((wr.alloc (.cells #[.int .i64 o0, .int .i64 o1] 27)).drew.heap.size = wr.heap.size + 1) := ⟨by simp⟩
        rename_i hheld
        clear hheld hF1 hc0 hc1 ne0 ne1 ne2
        generalize (wr.alloc (.cells #[.int .i64 o0, .int .i64 o1] 27)).drew = wa at qa ka t0 t1 tsz ⊢
        by_cases hk : o0 = k
        · have HDn : Box (Dropped F N k L L' (i + 1) c) := ⟨HD.out.gone hin (by rw [← He2.out, He.out]; exact hk)⟩
          subst hk
          go_wp2_with fail
          go_roundw
          case rel => exact ⟨i + 1, c, L', by omega, by omega, by go_num, rfl, HDn, qa, ka⟩
          case measure => simp [intOf]; omega
        · have hkb : (o0 == k) = false := by simpa using hk
          have HDn := HD.out.stay hin (by omega) (by rw [← He2.out, He.out]; exact hk)
          obtain ⟨jc, hjc⟩ : ∃ jc : Nat, (F + c) % 16 = jc := ⟨_, rfl⟩
          rw [hjc, He.out] at HDn
          have HDn := Box.mk HDn
          have hjc16 : jc < 16 := by omega
          have hjc0 : (0 : Int) ≤ (jc : Int) := by omega
          have hjc1 : (jc : Int) < (16 : Int) := by omega
          have hd0 := qa.out.cell (j := jc * 2) (by omega)
          have hd1 := qa.out.cell (j := jc * 2 + 1) (by omega)
          have z0 := qa.out.frozen (jc * 2)
          have z1 := qa.out.frozen (jc * 2 + 1)
          have hF2 := qa.out.cell (j := 32) (by omega)
          rw [HD.out.f] at hF2
          generalize L'.getD (jc * 2) 0 = p0 at hd0
          generalize L'.getD (jc * 2 + 1) 0 = p1 at hd1
          have hA := fun (w : World) (h : w.cell? ⟨b, 32, none⟩ = some (.int .i64 F)) => at_is b c F w h f0 f1 (by omega) (by omega)
          rw [show ((F : Int) + (c : Int)) % 16 = (jc : Int) by omega] at hA
          have HA2 := Box.mk hA
          clear hA hjc hk
          have hne : wr.heap.size ≠ b := by omega
          have qf : IsQ (((wa.setCell ⟨b, jc * 2, none⟩ (.int .i64 o0)).setCell ⟨b, jc * 2 + 1, none⟩ (.int .i64 o1)).drew) b ((L'.set (jc * 2) o0).set (jc * 2 + 1) o1) := ((qa.out.set (by omega) o0).set (by omega) o1).drew
          have kf : Keeps (fun j => j = b) w (((wa.setCell ⟨b, jc * 2, none⟩ (.int .i64 o0)).setCell ⟨b, jc * 2 + 1, none⟩ (.int .i64 o1)).drew) := ((ka.out.setCell (p := ⟨b, jc * 2, none⟩) (fun _ => rfl) _).setCell (p := ⟨b, jc * 2 + 1, none⟩) (fun _ => rfl) _).drew
          have QF := Box.mk qf
          have KF := Box.mk kf
          clear qf kf
          go_wp2_with fail
          go_region_held3 (fun w' => w'.cell? ⟨b, 32, none⟩ = some (.int .i64 F) ∧ w'.cell? ⟨wr.heap.size, 0, none⟩ = some (.int .i64 o0) ∧ w'.cell? ⟨wr.heap.size, 1, none⟩ = some (.int .i64 o1))
            (first | exact ⟨cell_set2 hF2 (by intro h; simp only [Addr.mk.injEq] at h; omega) (by intro h; simp only [Addr.mk.injEq] at h; omega), cell_set2 t0 (by intro h; simp only [Addr.mk.injEq] at h; omega) (by intro h; simp only [Addr.mk.injEq] at h; omega), cell_set2 t1 (by intro h; simp only [Addr.mk.injEq] at h; omega) (by intro h; simp only [Addr.mk.injEq] at h; omega)⟩ | go_keep)
            (first | (go_at_call 34; refine (HA2.out _ (by first | assumption | exact And.left (by assumption) | go_simp)).mono ?_; rintro e w' ⟨rfl, rfl⟩))
          clear hF2 t0 t1 hd0 hd1 z0 z1
          go_wp2_with fail
          go_roundw
          case rel => exact ⟨i + 1, c + 1, _, by omega, by omega, by go_num, by go_num, HDn, QF, KF⟩
          case measure => simp [intOf]; omega
    · obtain rfl : i = N := by omega
      have hn1 := HQ.out.cell (j := 33) (by omega)
      rw [HD.out.n] at hn1
      have z3 := HQ.out.frozen 33
      have qf : IsQ (wr.setCell ⟨b, 33, none⟩ (.int .i64 c)) b (L'.set 33 (c : Int)) := HQ.out.setN c (by omega) (by omega)
      have kf : Keeps (fun j => j = b) w (wr.setCell ⟨b, 33, none⟩ (.int .i64 c)) := K.out.setCell (p := ⟨b, 33, none⟩) (fun _ => rfl) _
      have hlen := HD.out.len
      have hev : qev F (L'.set 33 (c : Int)) = qev F L' := by
        funext j
        have : (F + j) % 16 < 16 := Nat.mod_lt _ (by omega)
        simp only [qev, List.getD_eq_getElem?_getD]
        rw [List.getElem?_set_ne (by omega), List.getElem?_set_ne (by omega)]
      have hql : qlist (L'.set 33 (c : Int)) = (List.range c).map (qev F L') := by
        have e1 : (L'.set 33 (c : Int)).getD 33 0 = c := by simp [List.getD, List.getElem?_set_self (show 33 < L'.length by omega)]
        have e2 : (L'.set 33 (c : Int)).getD 32 0 = F := by rw [← HD.out.f]; simp only [List.getD_eq_getElem?_getD]; rw [List.getElem?_set_ne (by omega)]
        unfold qlist
        rw [e1, e2, ← hev]
        rfl
      have QD : Box (Drops k L (L'.set 33 (c : Int))) := ⟨⟨by rw [hql, HE.out]; exact HD.out.kept⟩⟩
      have QL : Box ((((qlist L).length : Int) - ((qlist (L'.set 33 (c : Int))).length : Int)) = (i : Int) - (c : Int)) := ⟨by rw [hql, HE.out]; simp⟩
      have QF := Box.mk qf
      have KF := Box.mk kf
      clear qf kf hlen hev hql HD
      go_wp2_with fail
      go_ret
      exact ⟨_, by rw [QL.out]; rfl, QF.out, QD.out, KF.out⟩

end Go.Proofs.Ytljmfiegkefpoaa
