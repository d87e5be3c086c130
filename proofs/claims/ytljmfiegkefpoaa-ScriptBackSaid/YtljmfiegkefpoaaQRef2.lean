/- The document's queue: pop. -/
import Derived.Test.YtljmfiegkefpoaaQRef
namespace Go.Proofs.Ytljmfiegkefpoaa
set_option linter.unusedVariables false
set_option linter.unusedSimpArgs false
open Go.RowKit

theorem step_append_own {P : Program} {ops : Array Oper} {o : Oper} {a : Act} {w : World} {K : Act → World → Prop} {Q : Exit → Act → World → Prop} {E : Prop} (hgd : o.guard = none) (s x : Operand) (t : TypeId)
    (ho : o.op = .call { callee := .builtin .append, args := #[s, x], argTypes := #[t, t] })
    (base : Nat) (e : TypeId) (i : TypeInfo) (z : Value) (size bytes : Nat) (ht : P.underlying t = some (.slice e)) (hi : P.info? e = some i) (hz : i.zero = some z)
    (hsize : i.size = size) (hby : i.bytes = bytes) (hzs : z.cells.size = size) (hsz : 0 < size)
    (v : Value) (n : Nat) (xs : List Value) (hs : a.eval s = v) (hown : w.ownsRow base e size v n xs)
    (ad : Addr) (m c : Nat) (news : List Value) (hx : a.eval x = .slice (some ad) m c) (hl : news.length = m * size) (hnews : ∀ j u, news[j]? = some u → w.cell? (ad.add j) = some u) (h1 : ∀ u ∈ news, u.oneCell' = true)
    (h63 : n + m ≤ maxLen) (hbytes : (n + m) * bytes ≤ 140737488355328) (hbase : base ≤ w.heap.size)
    (h : ∀ v' w', w'.ownsRow base e size v' (n + m) (xs ++ news) → w.grownBy w' v.ownBlock → K (a.put o.dst v') w') :
    if Region.wanted o (yielded ops a.tmps) = true then Oper.wp P o a w K Q else E := by
  have hw : Region.wanted o (yielded ops a.tmps) = true := by simp [Region.wanted, hgd]
  rw [if_pos hw]
  exact wp_append_own w s x t ho base e i z size bytes ht hi hz hsize hby hzs hsz v n xs hs hown ad m c news hx hl hnews h1 h63 hbytes hbase (fun v' w' h2 h3 _ => h v' w' h2 h3)

theorem rebase {w : World} {base : Nat} {e : TypeId} {size : Nat} {v : Value} {n : Nat} {xs : List Value} (h : w.ownsRow base e size v n xs) : w.ownsRow 0 e size v n xs :=
  ⟨h.1, h.2.imp id (fun ⟨g, cap, cur, h1, _, h3⟩ => ⟨g, cap, cur, h1, Nat.zero_le _, h3⟩)⟩

theorem evCells_one (l : List (Int × Int)) : ∀ u ∈ evCells l, u.oneCell' = true := by
  intro u hu
  simp only [evCells, List.mem_flatMap] at hu
  obtain ⟨p, -, hp⟩ := hu
  simp at hp
  rcases hp with rfl | rfl <;> rfl

set_option maxRecDepth 100000 in
theorem rpop_none {b : Nat} {v : Value} {w : World} (hq : IsRQ w b v []) :
    Calls Try.prog 23 #[.pointer (some ⟨b, 0, none⟩)] w fun e w' => e = .returned (.tuple #[.agg #[.int .i64 0, .int .i64 0], .bool false]) ∧ Keeps (fun _ => False) w w' := by
  have hb := hq.lt
  obtain ⟨a, c, rfl⟩ := hq.evs.form
  have h0 := cell_of_heap hq.head 0
  simp only [List.getElem?_toArray, List.getElem?_cons_zero, List.length_nil] at h0
  have hx2 := ((Keeps.refl (fun _ => False) w).alloc (.cells #[.int .i64 0, .int .i64 0] 27)).cell h0 (fun h => h)
  have HK := Box.mk ((Keeps.refl (fun _ => False) w).alloc (.cells #[.int .i64 0, .int .i64 0] 27))
  clear hq h0
  go_enter Try.func23, Try.ntmps23
  go_wp2
  exact bodyPost_ret (v := .tuple #[.agg #[.int .i64 0, .int .i64 0], .bool false]) (by simp [results, Try.results23, go_sem]) rfl ⟨rfl, HK.out⟩

set_option maxRecDepth 100000 in
set_option maxHeartbeats 2000000 in
theorem rpop_is {b : Nat} {v : Value} {p : Int × Int} {l : List (Int × Int)} {w : World} (hq : IsRQ w b v (p :: l)) :
    Calls Try.prog 23 #[.pointer (some ⟨b, 0, none⟩)] w fun e w' => e = .returned (.tuple #[.agg #[.int .i64 p.1, .int .i64 p.2], .bool true]) ∧
      ∃ v', IsRQ w' b v' l ∧ (∀ z, v'.ownBlock = some z → w.heap.size ≤ z) ∧ Keeps (fun j => j = b) w w' := by
  have hb := hq.lt
  obtain ⟨i0, hi0, hz0, hz1, hz2⟩ := info_parts info_event
  have Hi := Box.mk (And.intro hi0 (And.intro hz0 (And.intro hz1 hz2)))
  clear hi0 hz0 hz1 hz2
  obtain ⟨a, c, rfl⟩ := hq.evs.form
  obtain ⟨m, hlm⟩ : ∃ m, l.length = m := ⟨_, rfl⟩
  have hmc : (p :: l).length = m + 1 := by simp [hlm]
  obtain ⟨g, go, rfl, hgs, c0, c1⟩ := hq.evs.cells _ _ _ rfl 0 (by simp)
  have hrow := hq.row
  have hgo : go = 0 ∧ m + 1 ≤ c := by
    rcases hrow.2 with ⟨h, -⟩ | ⟨g', cap, cur, h, -, -, h2, -⟩
    · simp at h
    · simp only [Value.slice.injEq, Option.some.injEq, Addr.mk.injEq] at h
      exact ⟨h.1.2.1, by rw [← hmc, h.2.2]; exact h2⟩
  obtain ⟨rfl, hcap⟩ := hgo
  have hm16 : m + 1 ≤ 16 := by rw [← hmc]; exact hq.len
  obtain ⟨x, y⟩ := p
  have c0 : w.cell? ⟨g, 0, none⟩ = some (.int .i64 x) := by simpa using c0
  have c1 : w.cell? ⟨g, 1, none⟩ = some (.int .i64 y) := by simpa using c1
  have hnews : ∀ j u, (evCells l)[j]? = some u → w.cell? ⟨g, 2 + j, none⟩ = some u := by
    intro j u hu
    have hj : j < (evCells l).length := by
      rcases Nat.lt_or_ge j (evCells l).length with h | h
      · exact h
      · rw [List.getElem?_eq_none h] at hu; exact absurd hu (by simp)
    rcases hrow.2 with ⟨h, -⟩ | ⟨g', cap, cur, h, -, hh, -, -, hs, ht⟩
    · simp at h
    · simp only [Value.slice.injEq, Option.some.injEq, Addr.mk.injEq] at h
      obtain ⟨⟨rfl, -, -⟩, -, -⟩ := h
      rw [cell_of_heap hh]
      have h2 : (evCells ((x, y) :: l))[2 + j]? = some u := by
        have : evCells ((x, y) :: l) = .int .i64 x :: .int .i64 y :: evCells l := by simp [evCells]
        rw [this, Nat.add_comm 2 j]
        simpa using hu
      rw [← ht, List.getElem?_take] at h2
      split at h2
      · simpa using h2
      · exact absurd h2 (by simp)
  have hgb : g ≠ b := fun e => hq.ne (by simp [Value.ownBlock, e])
  have h0 := cell_of_heap hq.head 0
  have hf0 := frozen_of_heap hq.head 0
  simp only [List.getElem?_toArray, List.getElem?_cons_zero] at h0
  have HQ := Box.mk hq
  have Hrow := Box.mk hrow
  have Hmc := Box.mk hmc
  have Hlm := Box.mk hlm
  rw [hmc] at h0
  have Hnews := Box.mk hnews
  obtain ⟨o1, ho1⟩ : ∃ o, o = Obj.cells #[.int .i64 0, .int .i64 0] 27 := ⟨_, rfl⟩
  have k1 : Keeps (fun _ => False) w (w.alloc (.cells #[.int .i64 0, .int .i64 0] 27)) := (Keeps.refl _ _).alloc _
  have k2 := k1.alloc (.cells #[.int .i64 x, .int .i64 y] 27)
  have k3 := k2.alloc (.cells #[] 27)
  have p1 := k1.cell h0 (fun h => h)
  have p2 := k2.cell h0 (fun h => h)
  have p3 := k3.cell h0 (fun h => h)
  have q0 := k1.cell c0 (fun h => h)
  have q1 := k1.cell c1 (fun h => h)
  have HK3 := Box.mk k3
  have Hh3 := Box.mk (k3.heap hq.head (fun h => h))
  have s3 : (((w.alloc (.cells #[.int .i64 0, .int .i64 0] 27)).alloc (.cells #[.int .i64 x, .int .i64 y] 27)).alloc (.cells #[] 27)).heap.size = w.heap.size + 3 := by simp
  have x0 : (((w.alloc (.cells #[.int .i64 0, .int .i64 0] 27)).alloc (.cells #[.int .i64 x, .int .i64 y] 27)).alloc (.cells #[] 27)).heap[w.heap.size]? = some (.cells #[.int .i64 0, .int .i64 0] 27) :=
    (((Keeps.refl (fun _ => False) _).alloc (.cells #[.int .i64 x, .int .i64 y] 27)).alloc (.cells #[] 27)).heap (heap_alloc_new w (.cells #[.int .i64 0, .int .i64 0] 27)) (fun h => h)
  have x1 : (((w.alloc (.cells #[.int .i64 0, .int .i64 0] 27)).alloc (.cells #[.int .i64 x, .int .i64 y] 27)).alloc (.cells #[] 27)).heap[w.heap.size + 1]? = some (.cells #[.int .i64 x, .int .i64 y] 27) :=
    ((Keeps.refl (fun _ => False) _).alloc (.cells #[] 27)).heap (by have := heap_alloc_new (w.alloc (.cells #[.int .i64 0, .int .i64 0] 27)) (.cells #[.int .i64 x, .int .i64 y] 27); simpa using this) (fun h => h)
  have X0 := Box.mk x0
  have X1 := Box.mk x1
  have S3 := Box.mk s3
  clear hq hrow hmc hlm hnews k1 k2 k3 h0 c0 c1 x0 x1 s3 hf0 ho1 o1
  have Hemp : Box ((((w.alloc (.cells #[.int .i64 0, .int .i64 0] 27)).alloc (.cells #[.int .i64 x, .int .i64 y] 27)).alloc (.cells #[] 27)).ownsRow (w.heap.size + 2) 27 2 (.slice (some ⟨w.heap.size + 1 + 1, 0, none⟩) 0 0) 0 []) := ⟨⟨rfl, .inr ⟨w.heap.size + 1 + 1, 0, #[], rfl, by omega, by
    have := heap_alloc_new ((w.alloc (.cells #[.int .i64 0, .int .i64 0] 27)).alloc (.cells #[.int .i64 x, .int .i64 y] 27)) (.cells #[] 27)
    simpa using this, by omega, by unfold maxLen; omega, rfl, rfl⟩⟩⟩
  have Hne : Box ((Value.slice (some ⟨w.heap.size + 1 + 1, 0, none⟩) 0 0).ownBlock ≠ some b) := ⟨by simp [Value.ownBlock]; omega⟩
  by_cases hc1 : c = 1
  · subst hc1
    obtain rfl : m = 0 := by omega
    have hl0 : l = [] := List.length_eq_zero_iff.1 Hlm.out
    subst hl0
    go_enter Try.func23, Try.ntmps23
    go_wp2_with (at_builtin; refine wpList_append_own _ rfl _ _ 22 rfl (w.heap.size + 2) 27 i0 _ 2 16 Try.underlying22 Hi.out.1 Hi.out.2.1 Hi.out.2.2.1 Hi.out.2.2.2 rfl (by decide) _ 0 _ rfl Hemp.out ⟨g, 0, none⟩ 0 0 [] rfl rfl ?c1 ?c2 ?c3 ?c4 ?c5 ?c6)
    case c1 => intro j u hu; simp at hu
    case c2 => intro u hu; simp at hu
    case c3 => unfold maxLen; omega
    case c4 => omega
    case c5 => rw [S3.out]; omega
    case c6 =>
      intro v' w6 hown6 hgrow hnn
      clear hnn
      obtain ⟨va, vn, vc, rfl⟩ : ∃ va vn vc, v' = Value.slice va vn vc := by rcases hown6.2 with ⟨rfl, -⟩ | ⟨g', cap, cur, rfl, -⟩ <;> exact ⟨_, _, _, rfl⟩
      have hB := (hgrow.block b (by rw [S3.out]; omega) (Ne.symm Hne.out)).trans Hh3.out
      have hx0 : w6.heap[w.heap.size]? = some (.cells #[.int .i64 0, .int .i64 0] 27 (0, 0)) := by
        rw [hgrow.block _ (by rw [S3.out]; omega) (by simp [Value.ownBlock] <;> omega)]; exact X0.out
      have hx1 : w6.heap[w.heap.size + 1]? = some (.cells #[.int .i64 x, .int .i64 y] 27 (0, 0)) := by
        rw [hgrow.block _ (by rw [S3.out]; omega) (by simp [Value.ownBlock] <;> omega)]; exact X1.out
      have hvb : (Value.slice va vn vc).ownBlock ≠ some b := fun h => by have := (hown6.lt b h).1; omega
      have hv0 : ∀ z, (Value.slice va vn vc).ownBlock = some z → w.heap.size < z := fun z h => by have := (hown6.lt z h).1; omega
      have HP := IsRQ.put hB (l := []) (v := .slice va vn vc) (by simpa [evCells] using rebase hown6) hvb (by simp)
      have HP2 := Box.mk ((HP.keeps ((Keeps.refl (fun j => j = w.heap.size) _).setCell (p := ⟨w.heap.size, 0, none⟩) (fun _ => rfl) (.int .i64 x)) (by show ¬ b = w.heap.size; omega) (fun z hz => by have := hv0 z hz; show ¬ z = w.heap.size; omega)).keeps ((Keeps.refl (fun j => j = w.heap.size) _).setCell (p := ⟨w.heap.size, 1, none⟩) (fun _ => rfl) (.int .i64 y)) (by show ¬ b = w.heap.size; omega) (fun z hz => by have := hv0 z hz; show ¬ z = w.heap.size; omega))
      have HKF := Box.mk (((((HK3.out.mono (S' := fun j => j = b) (fun _ _ h => h.elim)).grown hgrow (fun k hk hl => by simp [Value.ownBlock] at hk; omega)).setCell (p := ⟨b, 0, none⟩) (fun _ => rfl) (.slice va vn vc)).setCell (p := ⟨w.heap.size, 0, none⟩) (fun h => by simp at h) (.int .i64 x)).setCell (p := ⟨w.heap.size, 1, none⟩) (fun h => by simp at h) (.int .i64 y))
      have Hv := Box.mk (fun z h => Nat.le_of_lt (hv0 z h))
      have b0 := cell_of_heap hB 0
      have bf := frozen_of_heap hB 0
      have a0 := cell_of_heap hx0 0
      have a1 := cell_of_heap hx0 1
      have f0 := frozen_of_heap hx0 0
      have f1 := frozen_of_heap hx0 1
      have y0 := cell_of_heap hx1 0
      have y1 := cell_of_heap hx1 1
      simp only [List.getElem?_toArray, List.getElem?_cons_zero, List.getElem?_cons_succ] at b0 a0 a1 y0 y1
      have hn0 : w.heap.size ≠ b := by omega
      have hn1 : w.heap.size + 1 ≠ b := by omega
      clear hown6 hgrow hB hx0 hx1 hvb hv0 HP HK3 Hh3 X0 X1 S3 Hnews Hemp Hne p1 p2 p3 q0 q1
      go_wp2_with fail
      exact bodyPost_ret (v := .tuple #[.agg #[.int .i64 x, .int .i64 y], .bool true]) (by simp [results, Try.results23, go_sem, a0, a1, b0, hn0]) rfl ⟨rfl, _, HP2.out, Hv.out, HKF.out⟩
  · have hl2 : (evCells l).length = m * 2 := by
      have e : evCells ((x, y) :: l) = .int .i64 x :: .int .i64 y :: evCells l := by simp [evCells]
      have := Hrow.out.1
      rw [e, List.length_cons, List.length_cons, Hmc.out] at this
      omega
    have Hl2 := Box.mk hl2
    clear hl2
    go_enter Try.func23, Try.ntmps23
    go_wp2_with (at_builtin; refine wpList_append_own _ rfl _ _ 22 rfl (w.heap.size + 2) 27 i0 _ 2 16 Try.underlying22 Hi.out.1 Hi.out.2.1 Hi.out.2.2.1 Hi.out.2.2.2 rfl (by decide) _ 0 _ rfl Hemp.out ⟨g, 2, none⟩ m (c - 1) (evCells l) rfl Hl2.out ?d1 ?d2 ?d3 ?d4 ?d5 ?d6)
    case d1 => intro j u hu; rw [show (⟨g, 2, none⟩ : Addr).add j = ⟨g, 2 + j, none⟩ by unfold Addr.add; split <;> simp_all]; exact HK3.out.cell (Hnews.out j u hu) (fun h => h)
    case d2 => exact evCells_one l
    case d3 => unfold maxLen; omega
    case d4 => omega
    case d5 => rw [S3.out]; omega
    case d6 =>
      intro v' w6 hown6 hgrow hnn
      clear hnn
      obtain ⟨va, vn, vc, rfl⟩ : ∃ va vn vc, v' = Value.slice va vn vc := by rcases hown6.2 with ⟨rfl, -⟩ | ⟨g', cap, cur, rfl, -⟩ <;> exact ⟨_, _, _, rfl⟩
      have hB := (hgrow.block b (by rw [S3.out]; omega) (Ne.symm Hne.out)).trans Hh3.out
      have hx0 : w6.heap[w.heap.size]? = some (.cells #[.int .i64 0, .int .i64 0] 27 (0, 0)) := by
        rw [hgrow.block _ (by rw [S3.out]; omega) (by simp [Value.ownBlock] <;> omega)]; exact X0.out
      have hx1 : w6.heap[w.heap.size + 1]? = some (.cells #[.int .i64 x, .int .i64 y] 27 (0, 0)) := by
        rw [hgrow.block _ (by rw [S3.out]; omega) (by simp [Value.ownBlock] <;> omega)]; exact X1.out
      have hvb : (Value.slice va vn vc).ownBlock ≠ some b := fun h => by have := (hown6.lt b h).1; omega
      have hv0 : ∀ z, (Value.slice va vn vc).ownBlock = some z → w.heap.size < z := fun z h => by have := (hown6.lt z h).1; omega
      have HP := IsRQ.put hB (l := l) (v := .slice va vn vc) (by rw [Hlm.out]; simpa using rebase hown6) hvb (by rw [Hlm.out]; omega)
      have HP2 := Box.mk ((HP.keeps ((Keeps.refl (fun j => j = w.heap.size) _).setCell (p := ⟨w.heap.size, 0, none⟩) (fun _ => rfl) (.int .i64 x)) (by show ¬ b = w.heap.size; omega) (fun z hz => by have := hv0 z hz; show ¬ z = w.heap.size; omega)).keeps ((Keeps.refl (fun j => j = w.heap.size) _).setCell (p := ⟨w.heap.size, 1, none⟩) (fun _ => rfl) (.int .i64 y)) (by show ¬ b = w.heap.size; omega) (fun z hz => by have := hv0 z hz; show ¬ z = w.heap.size; omega))
      have HKF := Box.mk (((((HK3.out.mono (S' := fun j => j = b) (fun _ _ h => h.elim)).grown hgrow (fun k hk hl => by simp [Value.ownBlock] at hk; omega)).setCell (p := ⟨b, 0, none⟩) (fun _ => rfl) (.slice va vn vc)).setCell (p := ⟨w.heap.size, 0, none⟩) (fun h => by simp at h) (.int .i64 x)).setCell (p := ⟨w.heap.size, 1, none⟩) (fun h => by simp at h) (.int .i64 y))
      have Hv := Box.mk (fun z h => Nat.le_of_lt (hv0 z h))
      have b0 := cell_of_heap hB 0
      have bf := frozen_of_heap hB 0
      have a0 := cell_of_heap hx0 0
      have a1 := cell_of_heap hx0 1
      have f0 := frozen_of_heap hx0 0
      have f1 := frozen_of_heap hx0 1
      have y0 := cell_of_heap hx1 0
      have y1 := cell_of_heap hx1 1
      simp only [List.getElem?_toArray, List.getElem?_cons_zero, List.getElem?_cons_succ] at b0 a0 a1 y0 y1
      have hn0 : w.heap.size ≠ b := by omega
      have hn1 : w.heap.size + 1 ≠ b := by omega
      clear hown6 hgrow hB hx0 hx1 hvb hv0 HP HK3 Hh3 X0 X1 S3 Hnews Hemp Hne p1 p2 p3 q0 q1
      go_wp2_with fail
      exact bodyPost_ret (v := .tuple #[.agg #[.int .i64 x, .int .i64 y], .bool true]) (by simp [results, Try.results23, go_sem, a0, a1, b0, hn0]) rfl ⟨rfl, _, HP2.out, Hv.out, HKF.out⟩

end Go.Proofs.Ytljmfiegkefpoaa
