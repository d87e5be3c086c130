/- Part 10 of 11 of this proof's own texts, joined in build order by a program. -/
import Derived.Test.YtbjlapfcnldpoaaZ9
import Derived.Test.YtbjlapfcnldpoaaZ8
import Derived.Test.YtbjlapfcnldpoaaZ3
import Derived.Deep.RegionHeld3
import Derived.Test.YtbjlapfcnldpoaaZ1
import Derived.Deep.Slices
import Derived.Deep.Fields
import Derived.ChangeSame
import Derived.OpenShut
import Derived.Test.YtbjlapfcnldpoaaZ4
/- Law 5's begin, may and long, by their contracts. -/
namespace Go.Proofs.Ytbjlapfcnldpoaa
set_option linter.unusedVariables false
set_option linter.unusedSimpArgs false
open Go.RowKit

/-- At the begin: no things. -/
def PSt.new (s : TH) : PSt := ⟨⟨List.replicate 8 (.num 12), []⟩, [], s, false⟩
def begG (j : Nat) : PG := ⟨List.replicate j (.num 12) ++ List.replicate (8 - j) (.num 0), []⟩
theorem begG_wf {j : Nat} (hj : j ≤ 8) : (begG j).WF := by
  refine ⟨fun i hi => ?_, (fun t ht => by cases ht), ?_, (fun t ht => by cases ht), (fun t ht => by cases ht)⟩
  · rcases List.mem_append.1 hi with e | e
    · have := List.eq_of_mem_replicate e; cases this
    · have := List.eq_of_mem_replicate e; cases this
  · simp [begG]; omega
theorem begG_set {j : Nat} (hj : j < 8) : (begG j).regs.set j (.num 12) = (begG (j + 1)).regs := by
  have : j = 0 ∨ j = 1 ∨ j = 2 ∨ j = 3 ∨ j = 4 ∨ j = 5 ∨ j = 6 ∨ j = 7 := by omega
  rcases this with rfl | rfl | rfl | rfl | rfl | rfl | rfl | rfl <;> rfl
theorem PSt.new_noPR {s : TH} : ∀ i, ¬ PR (PSt.new s).G i := by
  intro i h
  have hreg : ∀ i, PV.ref i ∉ (PSt.new s).G.regs := fun i hi => by have := List.eq_of_mem_replicate hi; cases this
  induction h with
  | reg h => exact hreg _ h
  | fld _ ht _ _ ih => exact ih
  | weakN _ ht _ _ _ ih => exact ih
  | weakR _ ht _ _ _ _ ih => exact ih
theorem Inv.new {s : TH} {L : Nat → Nat → List Nat} (h : St s L) (hk : s.k ≤ 64) (hr : s.roots = List.replicate 12 12) : Inv (PSt.new s) L := by
  refine ⟨h, ?_, rfl, hr, fun i t hi => absurd hi (PSt.new_noPR i), (fun t ht => by cases ht), fun i j hi => absurd hi (PSt.new_noPR i), fun x hx => ?_, (fun t ht => by cases ht), hk, (fun t ht => by cases ht)⟩
  · exact begG_wf (j := 8) (by omega)
  · have := List.eq_of_mem_replicate hx
    injection this with this
    rw [this]; exact numOK12
structure BeginSaid (s : TH) (w : World) (e : Ending) (w' : World) : Prop where
  said : ∃ xb hb b g, e = .returned (.pointer (some ⟨xb, 0, none⟩)) ∧ IsX w' xb hb b g (PSt.new s) [] ∧ (w.heap.size ≤ xb ∧ w.heap.size ≤ hb ∧ w.heap.size ≤ b ∧ w.heap.size ≤ g) ∧ w'.cell? ⟨xb, 17, none⟩ = some (.slice none 0 0)
  keeps : Keeps (fun _ => False) w w'
/-- The world and its heap, made since w0: nothing but they, and what is new, was written. -/
structure Own (w0 w : World) (xb hb b g : Nat) (P : PSt) (T : List Nat) : Prop where
  isX : IsX w xb hb b g P T
  foot : Foot w xb hb b g P.G.all.length T (fun z => w0.heap.size ≤ z)
  keeps : Keeps (fun z => w0.heap.size ≤ z) w0 w
theorem Own.said {w0 w w' : World} {xb hb b g : Nat} {P P' : PSt} {T : List Nat} {e : Ending} (h : Own w0 w xb hb b g P T) (k : XSaid w xb hb b g P.G.all.length T P' e w') : e = .returned (.tuple #[]) ∧ ∃ T', Own w0 w' xb hb b g P' T' ∧ (T' = T ∨ ∃ a, T' = T ++ [a] ∧ w.heap.size ≤ a) := by
  obtain ⟨h1, T', h2, h3, h4⟩ := k
  obtain ⟨f1, f2⟩ := h3 _ h.foot
  exact ⟨h1, T', ⟨h2, f1, h.keeps.trans f2⟩, h4⟩
theorem BeginSaid.own {w0 w w' : World} {s : TH} {e : Ending} (k : BeginSaid s w e w') (h : Keeps (fun z => w0.heap.size ≤ z) w0 w) : ∃ xb hb b g, e = .returned (.pointer (some ⟨xb, 0, none⟩)) ∧ Own w0 w' xb hb b g (PSt.new s) [] ∧ w.heap.size ≤ xb := by
  obtain ⟨⟨xb, hb, b, g, h1, h2, h3, h4⟩, h5⟩ := k
  have hs := h.size
  have hs2 := h5.size
  refine ⟨xb, hb, b, g, h1, ⟨h2, ⟨by omega, fun z hz => ?_, fun z l c e => ?_, (fun i hi => by cases hi), fun z hz => by omega⟩, h.trans (h5.mono (fun _ _ h => h.elim))⟩, h3.1⟩
  · rcases hz with rfl | rfl | rfl <;> omega
  · rw [h4] at e
    simp at e
theorem Own.step0 {w0 w w' : World} {xb hb b g : Nat} {P : PSt} {T : List Nat} (h : Own w0 w xb hb b g P T) (k : Keeps (fun _ => False) w w') : Own w0 w' xb hb b g P T := by
  obtain ⟨f1, f2⟩ := ((FK.refl xb hb b g P.G.all.length T w).step0 h.isX.rx k) _ h.foot
  exact ⟨h.isX.keeps0 k, f1, h.keeps.trans f2⟩
theorem Own.seen {w0 w w' : World} {xb hb b g : Nat} {P : PSt} {T : List Nat} {v : Value} {e : Ending} (h : Own w0 w xb hb b g P T) (k : SeenSaid w xb hb b g P T v e w') : e = .returned v ∧ Own w0 w' xb hb b g P T := by
  obtain ⟨h1, h2, h3⟩ := k
  obtain ⟨f1, f2⟩ := h3 _ h.foot
  exact ⟨h1, h2, f1, h.keeps.trans f2⟩
theorem Own.stepF {w0 w w' : World} {xb hb b g : Nat} {P : PSt} {T : List Nat} {s' : TH} {bf : Bool} (h : Own w0 w xb hb b g P T) (hI : IsTH w' hb b g s') (hbf : bf = P.full) (k : Keeps (foot3 hb b g) w w') : Own w0 w' xb hb b g { P with s := s', full := bf } T := by
  subst hbf
  obtain ⟨f1, f2⟩ := ((FK.refl xb hb b g P.G.all.length T w).stepF h.isX.rx h.isX.th k) _ h.foot
  exact ⟨⟨h.isX.rx.heap h.isX.th k, hI, h.isX.sep.keepsT h.isX.rx k (foot3_notT h.isX.th)⟩, f1, h.keeps.trans f2⟩

set_option maxRecDepth 100000 in
set_option maxHeartbeats 4000000 in
theorem begin_is {c0 c1 c2 c3 k : Nat} {s : TH} {w : World} (h0 : c0 ≤ 4000) (h1 : c1 ≤ 4000) (h2 : c2 ≤ 4000) (h3 : c3 ≤ 4000) (hk1 : 1 ≤ k) (hk2 : k ≤ 64) (hs : tlay (pre c0 c1 c2 c3 k) = some s) :
    Calls Try.prog 28 #[.agg #[.int .i64 (c0 : Int), .int .i64 (c1 : Int), .int .i64 (c2 : Int), .int .i64 (c3 : Int), .int .i64 (k : Int)]] w (BeginSaid s w) := by
  obtain ⟨wb, hwb⟩ : ∃ wb, w.alloc (.cells #[.int .i64 (c0 : Int), .int .i64 (c1 : Int), .int .i64 (c2 : Int), .int .i64 (c3 : Int), .int .i64 (k : Int)] 47) = wb := ⟨_, rfl⟩
  have kb : Keeps (fun _ => False) w wb := by rw [← hwb]; exact (Keeps.refl _ w).alloc _
  have KB := Box.mk kb
  have HN := Box.mk (tnew_is (w := wb) h0 h1 h2 h3 hk1 hk2 hs)
  have hbx : wb.heap[w.heap.size]? = some (.cells #[.int .i64 (c0 : Int), .int .i64 (c1 : Int), .int .i64 (c2 : Int), .int .i64 (c3 : Int), .int .i64 (k : Int)] 47 (0, 0)) := by rw [← hwb]; exact heap_alloc_new w _
  have b0 := cell_of_heap hbx 0
  have b1 := cell_of_heap hbx 1
  have b2 := cell_of_heap hbx 2
  have b3 := cell_of_heap hbx 3
  have b4 := cell_of_heap hbx 4
  simp only [List.getElem?_toArray, List.getElem?_cons_zero, List.getElem?_cons_succ] at b0 b1 b2 b3 b4
  clear hs kb hbx
  go_enter Try.func28, Try.ntmps28
  go_wp2_with fail
  clear hwb
  refine HN.out.mono ?_
  rintro e w1 ⟨hb, b, g, rfl, hI1, k1, q1, q2, q3⟩
  obtain ⟨xb, hxb⟩ : ∃ xb, w1.heap.size = xb := ⟨_, rfl⟩
  obtain ⟨w2, hw2⟩ : ∃ w2, w1.alloc (.cells (xcells hb (begG 0) [] (.slice none 0 0) false false).toArray 62) = w2 := ⟨_, rfl⟩
  have k2 : Keeps (fun _ => False) w1 w2 := by rw [← hw2]; exact (Keeps.refl _ w1).alloc _
  have HR2 : Box (RX w2 xb hb (begG 0) [] [] false false) := ⟨⟨⟨.slice none 0 0, 0, by rw [← hw2, ← hxb]; exact heap_alloc_new w1 _, World.ownsRow_nil _ _ _ _⟩, (fun i t ht => by cases ht), ⟨rfl, rfl⟩, begG_wf (by omega), List.nodup_nil⟩⟩
  have HI2 := Box.mk (hI1.keeps0 k2)
  have C17 : Box (w2.cell? ⟨xb, 17, none⟩ = some (.slice none 0 0)) := ⟨by
    have h : w2.heap[xb]? = some (.cells (xcells hb (begG 0) [] (.slice none 0 0) false false).toArray 62 (0, 0)) := by rw [← hw2, ← hxb]; exact heap_alloc_new w1 _
    rw [cell_of_heap h]; rfl⟩
  have K2 := Box.mk ((KB.out.trans k1).trans k2)
  have HB : Box (w.heap.size ≤ xb ∧ w.heap.size ≤ hb ∧ w.heap.size ≤ b ∧ w.heap.size ≤ g) := ⟨by have := KB.out.size; have := k1.size; omega⟩
  have hw2' := hw2
  unfold xcells begG at hw2'
  simp only [List.replicate, List.nil_append, List.flatMap_cons, List.flatMap_nil, pvc, pvw, pvp, List.cons_append, List.append_nil] at hw2'
  clear hI1 k1 k2 hw2
  have e0 : (((0 : Nat) : Int)) = 0 := rfl
  rw [e0] at hw2'
  clear e0 b0 b1 b2 b3 b4
  go_wp2_with fail
  clear hw2' hxb
  go_loopw [24] (fun i wr => ∃ (j : Nat), j ≤ 8 ∧ i = .int .i64 j ∧ Box (RX wr xb hb (begG j) [] [] false false) ∧ Box (IsTH wr hb b g s) ∧ Box (Keeps (fun _ => False) w wr) ∧ Box (wr.cell? ⟨xb, 17, none⟩ = some (.slice none 0 0))) (fun i _ => 8 - (intOf i).toNat)
  case atStart => exact ⟨0, by omega, rfl, HR2, HI2, K2, C17⟩
  case round =>
    clear HR2 HI2 K2 C17
    obtain ⟨j, hj, rfl, HR, HI, K, C17⟩ := hrel
    by_cases hj8 : j < 8
    · have hj0 : (0 : Int) ≤ (j : Int) := by omega
      have hj8I : (j : Int) < 8 := by omega
      obtain ⟨u1, c1, -⟩ := HR.out.cell (i := 1 + j * 2) (by omega)
      obtain ⟨u2, c2, -⟩ := HR.out.cell (i := 1 + j * 2 + 1) (by omega)
      have f1 := HR.out.frozen (1 + j * 2)
      have f2 := HR.out.frozen (1 + j * 2 + 1)
      go_wp2_with fail
      go_region_held3 (fun w' => True) (first | trivial | go_keep) (first | (go_at_call 24; refine (wvoid_is _).mono ?_; rintro e w5 ⟨rfl, rfl⟩) | fail)
      have hst := HR.out.setReg (r := j) hj8 (.num 12) (fun i e => nomatch e)
      have eG : ({ begG j with regs := (begG j).regs.set j (.num 12) } : PG) = begG (j + 1) := by
        have := begG_set hj8
        unfold begG at this ⊢
        simp only at this ⊢
        rw [this]
      rw [eG, show 1 + 2 * j = 1 + j * 2 from by omega, show 2 + 2 * j = 1 + j * 2 + 1 from by omega] at hst
      have hst1 : RX ((wr.setCell ⟨xb, 1 + j * 2, none⟩ (.int .u64 12)).setCell ⟨xb, 1 + j * 2 + 1, none⟩ (.pointer none)) xb hb (begG (j + 1)) [] [] false false ∧ Keeps (fun z => z = xb) wr ((wr.setCell ⟨xb, 1 + j * 2, none⟩ (.int .u64 12)).setCell ⟨xb, 1 + j * 2 + 1, none⟩ (.pointer none)) := hst
      have kd := (Keeps.refl (fun _ => False) ((wr.setCell ⟨xb, 1 + j * 2, none⟩ (.int .u64 12)).setCell ⟨xb, 1 + j * 2 + 1, none⟩ (.pointer none))).drew
      have HR5 := Box.mk (hst1.1.keeps0 kd)
      have HI5 := Box.mk ((HI.out.keepsX hst1.2 HR.out.xbX).keeps0 kd)
      have K5 := Box.mk ((K.out.trans' hst1.2 (fun i hi e => by have := HB.out; omega)).trans kd)
      have C5 : Box ((((wr.setCell ⟨xb, 1 + j * 2, none⟩ (.int .u64 12)).setCell ⟨xb, 1 + j * 2 + 1, none⟩ (.pointer none)).drew).cell? ⟨xb, 17, none⟩ = some (.slice none 0 0)) := ⟨by
        show ((wr.setCell ⟨xb, 1 + j * 2, none⟩ (.int .u64 12)).setCell ⟨xb, 1 + j * 2 + 1, none⟩ (.pointer none)).cell? ⟨xb, 17, none⟩ = _
        rw [World.cell?_setCell_other _ _ _ _ (fun e => by injection e with _ e2 _; omega), World.cell?_setCell_other _ _ _ _ (fun e => by injection e with _ e2 _; omega)]
        exact C17.out⟩
      clear hst hst1 kd eG HR HI K C17 c1 c2 f1 f2
      go_wp2_with fail
      go_roundw
      case rel => exact ⟨j + 1, by omega, by go_num, HR5, HI5, K5, C5⟩
      case measure => simp [intOf]; omega
    · have hj8e : j = 8 := by omega
      subst hj8e
      have eG : begG 8 = (PSt.new s).G := rfl
      rw [eG] at HR
      clear eG
      go_wp2_with fail
      go_ret
      exact ⟨⟨xb, hb, b, g, rfl, ⟨HR.out, HI.out, fun i j hi => by cases hi⟩, HB.out, C17.out⟩, K.out⟩

/-- May it be a configuration? -/
structure MaySaid (c0 c1 c2 c3 k : Int) (w : World) (e : Ending) (w' : World) : Prop where
  said : ∃ bl : Bool, e = .returned (.bool bl) ∧ (bl = true → 0 ≤ c0 ∧ c0 ≤ 300 ∧ 0 ≤ c1 ∧ c1 ≤ 300 ∧ 0 ≤ c2 ∧ c2 ≤ 300 ∧ 0 ≤ c3 ∧ c3 ≤ 300 ∧ 1 ≤ k ∧ k ≤ 64)
  keeps : Keeps (fun _ => False) w w'
theorem long_is {a : Option Addr} {n cap : Nat} (w : World) : Calls Try.prog 27 #[.slice a n cap] w fun e w' => e = .returned (.bool (decide ((300 : Int) < (n : Int)))) ∧ w' = w := by
  go_enter Try.func27, Try.ntmps27
  go_wp2_with fail
  go_ret
  exact ⟨rfl, rfl⟩
theorem idx4_0 (c0 c1 c2 c3 : Value) (w : World) : (Instr.index 28 (.agg #[c0, c1, c2, c3]) (.int .i64 0)).run Try.prog w = .ok c0 w := by kernel_rfl
theorem idx4_1 (c0 c1 c2 c3 : Value) (w : World) : (Instr.index 28 (.agg #[c0, c1, c2, c3]) (.int .i64 1)).run Try.prog w = .ok c1 w := by kernel_rfl
theorem idx4_2 (c0 c1 c2 c3 : Value) (w : World) : (Instr.index 28 (.agg #[c0, c1, c2, c3]) (.int .i64 2)).run Try.prog w = .ok c2 w := by kernel_rfl
theorem idx4_3 (c0 c1 c2 c3 : Value) (w : World) : (Instr.index 28 (.agg #[c0, c1, c2, c3]) (.int .i64 3)).run Try.prog w = .ok c3 w := by kernel_rfl
set_option maxRecDepth 100000 in
set_option maxHeartbeats 4000000 in
theorem may_is (c0 c1 c2 c3 k : Int) (w : World) : Calls Try.prog 26 #[.agg #[.int .i64 c0, .int .i64 c1, .int .i64 c2, .int .i64 c3, .int .i64 k]] w (MaySaid c0 c1 c2 c3 k w) := by
  have i0 := idx4_0 (.int .i64 c0) (.int .i64 c1) (.int .i64 c2) (.int .i64 c3)
  have i1 := idx4_1 (.int .i64 c0) (.int .i64 c1) (.int .i64 c2) (.int .i64 c3)
  have i2 := idx4_2 (.int .i64 c0) (.int .i64 c1) (.int .i64 c2) (.int .i64 c3)
  have i3 := idx4_3 (.int .i64 c0) (.int .i64 c1) (.int .i64 c2) (.int .i64 c3)
  have K := Box.mk ((Keeps.refl (fun _ => False) w).alloc (.cells #[.int .i64 c0, .int .i64 c1, .int .i64 c2, .int .i64 c3, .int .i64 k] 47))
  go_enter Try.func26, Try.ntmps26
  go_wp2_with fail
  refine wp_loop_rounds 5 ?_
  rw [rounds_succ]
  rcases (show c0 < 0 ∨ (300 < c0 ∧ 0 ≤ c0) ∨ (0 ≤ c0 ∧ c0 ≤ 300) by omega) with h0 | ⟨h0, g0⟩ | ⟨h0, g0⟩
  · go_wp2_with fail
    go_ret
    exact ⟨⟨false, rfl, fun h => by cases h⟩, K.out⟩
  · go_wp2_with fail
    go_ret
    exact ⟨⟨false, rfl, fun h => by cases h⟩, K.out⟩
  · go_wp2_with fail
    rw [rounds_succ]
    rcases (show c1 < 0 ∨ (300 < c1 ∧ 0 ≤ c1) ∨ (0 ≤ c1 ∧ c1 ≤ 300) by omega) with h1 | ⟨h1, g1⟩ | ⟨h1, g1⟩
    · go_wp2_with fail
      go_ret
      exact ⟨⟨false, rfl, fun h => by cases h⟩, K.out⟩
    · go_wp2_with fail
      go_ret
      exact ⟨⟨false, rfl, fun h => by cases h⟩, K.out⟩
    · go_wp2_with fail
      rw [rounds_succ]
      rcases (show c2 < 0 ∨ (300 < c2 ∧ 0 ≤ c2) ∨ (0 ≤ c2 ∧ c2 ≤ 300) by omega) with h2 | ⟨h2, g2⟩ | ⟨h2, g2⟩
      · go_wp2_with fail
        go_ret
        exact ⟨⟨false, rfl, fun h => by cases h⟩, K.out⟩
      · go_wp2_with fail
        go_ret
        exact ⟨⟨false, rfl, fun h => by cases h⟩, K.out⟩
      · go_wp2_with fail
        rw [rounds_succ]
        rcases (show c3 < 0 ∨ (300 < c3 ∧ 0 ≤ c3) ∨ (0 ≤ c3 ∧ c3 ≤ 300) by omega) with h3 | ⟨h3, g3⟩ | ⟨h3, g3⟩
        · go_wp2_with fail
          go_ret
          exact ⟨⟨false, rfl, fun h => by cases h⟩, K.out⟩
        · go_wp2_with fail
          go_ret
          exact ⟨⟨false, rfl, fun h => by cases h⟩, K.out⟩
        · go_wp2_with fail
          rw [rounds_succ]
          by_cases h4 : k < 1
          · go_wp2_with fail
            go_ret
            exact ⟨⟨false, rfl, fun h => by cases h⟩, K.out⟩
          · have h4' : 1 ≤ k := by omega
            clear h4
            go_wp2_with fail
            go_ret
            exact ⟨⟨decide (k ≤ 64), rfl, fun h => ⟨h0, g0, h1, g1, h2, g2, h3, g3, h4', of_decide_eq_true h⟩⟩, K.out⟩

end Go.Proofs.Ytbjlapfcnldpoaa

/- TreadRoom's plain law: where never more than most are reached, there is room. No program in sight. -/
namespace Go.Proofs.Ytbjlapfcnldpoaa
set_option linter.unusedVariables false
set_option linter.unusedSimpArgs false
open Go.RowKit

theorem nodup_get {l : List Nat} (h : l.Nodup) {i j : Nat} (hi : i < l.length) (hj : j < l.length) (e : l[i] = l[j]) : i = j := by
  have hp := List.pairwise_iff_getElem.1 h
  rcases Nat.lt_trichotomy i j with h1 | h1 | h1
  · exact absurd e (hp i j hi hj h1)
  · exact h1
  · exact absurd e.symm (hp j i hj hi h1)
theorem nodup_filter (p : Nat → Bool) {l : List Nat} (h : l.Nodup) : (l.filter p).Nodup := List.Pairwise.filter p h
theorem nodup_mapon {f : Nat → Nat} {l : List Nat} (hf : ∀ i ∈ l, ∀ j ∈ l, f i = f j → i = j) (h : l.Nodup) : (l.map f).Nodup := by
  induction l with
  | nil => exact List.nodup_nil
  | cons a l ih =>
    obtain ⟨h1, h2⟩ := List.nodup_cons.1 h
    refine List.nodup_cons.2 ⟨fun hm => ?_, ih (fun i hi j hj => hf i (List.mem_cons_of_mem _ hi) j (List.mem_cons_of_mem _ hj)) h2⟩
    obtain ⟨b, hb, e⟩ := List.mem_map.1 hm
    have := hf b (List.mem_cons_of_mem _ hb) a List.mem_cons_self e
    exact h1 (this ▸ hb)
/-- So many are reached at most. -/
def RB (most : Nat) (G : PG) : Prop := ∃ R : List Nat, R.Nodup ∧ (∀ i, i ∈ R ↔ PR G i) ∧ R.length ≤ most
def RoomQ (most k M : Nat) (P : PSt) (L : Nat → Nat → List Nat) : Prop := P.s.k = k ∧ (∀ c, c < 4 → most + 2 * M < P.s.count.getD c 0) ∧ ∃ mu tau, AccE P.s L most k M mu tau
theorem rb_cells {P : PSt} {L : Nat → Nat → List Nat} {most : Nat} (h : Inv P L) (hR : RB most P.G) : ∃ Rl : List Nat, (∀ v, Rch P.s v ↔ v ∈ Rl) ∧ Rl.length ≤ most := by
  obtain ⟨R, -, h2, h3⟩ := hR
  refine ⟨R.map (fun i => P.U.getD i 0), fun v => ⟨fun hv => ?_, fun hv => ?_⟩, by simpa using h3⟩
  · obtain ⟨i, hi, rfl⟩ := h.back hv
    exact List.mem_map.2 ⟨i, (h2 i).2 hi, rfl⟩
  · obtain ⟨i, hi, rfl⟩ := List.mem_map.1 hv
    exact h.rch ((h2 i).1 hi)
theorem rep_isC {s : TH} {L : Nat → Nat → List Nat} (h : St s L) {v k : Nat} (hv : colOf L v = k) (hk : k ≠ 0) : ∃ c, IsC s.count c v := by
  obtain ⟨c, hc, hm⟩ := col_ne0 hv hk
  have := colOf_le L v
  exact ⟨c, h.rep.rl.mem c k v hc (by omega) hm⟩
theorem track_room {most k M : Nat} (hk : 1 ≤ k) (hM : M = (most + 2) / k + 1) : Track (RB most) (RoomQ most k M) False := by
  refine ⟨fun P L n h hq hc hcy => ?_, fun P L h hq hc hcy => ?_, fun P L r v h hq hr hv => ?_, fun P L i t q v h hq hi ht hf hlt hv => ?_⟩
  · obtain ⟨Rl, hR1, hR2⟩ := rb_cells h hc
    obtain ⟨q1, q2, mu, tau, hA⟩ := hq
    obtain ⟨s1, L1, e1, st1, k1, mu', tau', hA', -⟩ := incr_acc n h.st hA hk hM hcy Rl hR1 hR2
    exact ⟨s1, L1, e1, st1, k1, fun b => ⟨k1.k.trans q1, fun c hc => by show _ < s1.count.getD c 0; rw [k1.count]; exact q2 c hc, mu', tau', hA'⟩⟩
  · obtain ⟨Rl, hR1, hR2⟩ := rb_cells h hc
    obtain ⟨q1, q2, mu, tau, hA⟩ := hq
    obtain ⟨s1, L1, e1, st1, k1, mu', tau', hA', hj⟩ := incr_acc P.s.k h.st hA hk hM hcy Rl hR1 hR2
    have hj0 : mu * k ≤ tau + k := by
      obtain ⟨Sl, Bl, A0, R, hA⟩ := hA
      exact hA.j
    have hj1 : mu' * k ≤ tau' := by
      rcases hj with ⟨rfl, rfl⟩ | rfl
      · rw [q1]; exact hj0
      · simp
    have hcnt : ∀ c, c < 4 → most + 2 * M < s1.count.getD c 0 := fun c hc => by rw [k1.count]; exact q2 c hc
    refine ⟨s1, L1, e1, st1, k1, Or.inr (fun c hc => acc_room st1 hA' hk hM hc (hcnt c hc)), fun b => ⟨k1.k.trans q1, hcnt, mu', tau', hA'⟩, fun r form n s2 L2 u hr hf hn tk => ⟨?_, fun c hc => ?_, mu' + 1, tau', ?_⟩⟩
    · show s2.k = k
      rw [tk.k, k1.k]; exact q1
    · show _ < s2.count.getD c 0
      rw [tk.count]; exact hcnt c hc
    · exact takeRoot_acc st1 hA' tk (by unfold fillv; split <;> simp) hf (by decide) hn hj1
  · obtain ⟨q1, q2, mu, tau, hA⟩ := hq
    exact ⟨q1, q2, mu, tau, setRoot_acc hA (fun c u hu e => hv.rch h c u hu e)⟩
  · obtain ⟨q1, q2, mu, tau, hA⟩ := hq
    have ho := h.obj i t hi ht
    have hle := szs_tcls ho.le
    obtain ⟨s', L', e1, k1, g1, g0, g3⟩ := set_ok2 h.st (x := pword P.U v) ho.isC ho.alive (by rw [ho.num]; exact hlt) (hv.small h) (fun _ c u hu e => (hv.rch h c u hu e).ok h.st)
    refine ⟨s', L', e1, k1, k1.k.trans q1, fun c hc => ?_, mu, tau, ?_⟩
    · show _ < s'.count.getD c 0
      rw [k1.count]; exact q2 c hc
    · refine set_acc hA k1 g1 g0 g3 ho.isC (by rw [ho.num]; exact hlt) (by omega) (fun v hv3 => ?_) (h.rch hi) (fun _ c u hu e => hv.rch h c u hu e)
      have := rep_isC k1.st hv3 (by omega)
      rwa [k1.count] at this

/-- The graphs of a script, where kinds 6 and 7 are left out. -/
def Gs (ops : Nat → POp) : Nat → PG
  | 0 => ⟨List.replicate 8 (.num 12), []⟩
  | j + 1 => if (ops j).kind = 6 ∨ (ops j).kind = 7 then Gs ops j else pdo (Gs ops j) (ops j)
theorem RB.mono {a b : Nat} {G : PG} (h : RB a G) (hab : a ≤ b) : RB b G := by
  obtain ⟨R, h1, h2, h3⟩ := h
  exact ⟨R, h1, h2, by omega⟩
theorem rb_start (ops : Nat → POp) (most : Nat) : RB most (Gs ops 0) :=
  ⟨[], List.nodup_nil, fun i => ⟨(fun h => by cases h), fun h => absurd h (PSt.new_noPR (s := ⟨[], [], [], [], 0, 0, false, 0, 0, 0, []⟩) i)⟩, Nat.zero_le _⟩
/-- Of a set of things, how many are reached. -/
theorem rb_of_set {w : World} {mb : Nat} {l T : List Nat} {G : PG} (h : IsSet w mb l) (hT : T.length = G.all.length) (hwf : G.WF) (him : ∀ a ∈ l, ∃ i, PR G i ∧ a = T.getD i 0) (hall : ∀ i, PR G i → T.getD i 0 ∈ l) (hnd : T.Nodup) : RB l.length G ∧ l.length ≤ G.all.length := by
  have hTi : ∀ i, i < T.length → T.getD i 0 ∈ T := fun i hi => by simp [List.getD, List.getElem?_eq_getElem hi]
  have hinj : ∀ i j, i < T.length → j < T.length → T.getD i 0 = T.getD j 0 → i = j := fun i j hi hj e => by
    simp only [List.getD, List.getElem?_eq_getElem hi, List.getElem?_eq_getElem hj, Option.getD_some] at e
    exact nodup_get hnd hi hj e
  constructor
  · refine ⟨(List.range T.length).filter (fun i => decide (T.getD i 0 ∈ l)), nodup_filter _ List.nodup_range, fun i => ?_, ?_⟩
    · rw [List.mem_filter, List.mem_range]
      constructor
      · rintro ⟨hi, hm⟩
        obtain ⟨j, hj, e⟩ := him _ (of_decide_eq_true hm)
        have := hinj i j hi (by have := hj.lt hwf; omega) e
        subst this; exact hj
      · intro hi
        exact ⟨by have := hi.lt hwf; omega, decide_eq_true (hall i hi)⟩
    · have h1 := nodup_le (((List.range T.length).filter (fun i => decide (T.getD i 0 ∈ l))).map (fun i => T.getD i 0)) l ?_ ?_
      · simpa using h1
      · refine nodup_mapon (fun i hi j hj e => ?_) (nodup_filter _ List.nodup_range)
        rw [List.mem_filter, List.mem_range] at hi hj
        exact hinj i j hi.1 hj.1 e
      · intro v hv
        obtain ⟨i, hi, rfl⟩ := List.mem_map.1 hv
        rw [List.mem_filter] at hi
        exact of_decide_eq_true hi.2
  · rw [← hT]
    refine nodup_le l T h.nd (fun a ha => ?_)
    obtain ⟨i, hi, rfl⟩ := him a ha
    exact hTi i (by have := hi.lt hwf; omega)

end Go.Proofs.Ytbjlapfcnldpoaa

/- Arguments that can be read as data, opened step by step: numbers, strings, slices, structs. -/
namespace Go.Proofs.Ytbjlapfcnldpoaa
set_option linter.unusedVariables false
set_option linter.unusedSimpArgs false
open Go.RowKit Go.ChangeShapes Go.WideShapes Go.Deep

/-- The cells cs can be read as data of type t, to the depth n. -/
def TR (P : Program) (w : World) (n : Nat) (t : TypeId) (cs : List Value) : Prop :=
  ∃ (H : Type) (enc : TypeId × Value → H) (y : DataW H × List MemPlace), DataW.trod enc P w 0 (fun _ => true) true n t cs = some y

theorem Reads.tr {P : Program} {w : World} {t : TypeId} {v : Value} (h : Reads P w t v) : ∃ n, TR P w n t v.cells.toList := by
  obtain ⟨H, enc, b0, d, p, ⟨n, hn⟩, _⟩ := h
  exact ⟨n, H, enc, _, hn⟩
theorem Reads.wide {P : Program} {w : World} {t : TypeId} {v : Value} (h : Reads P w t v) : ∃ b0, Value.okWide P w .any b0 t v := by
  obtain ⟨H, enc, b0, d, p, _, h⟩ := h
  exact ⟨b0, h⟩

variable {P : Program} {w : World} {n : Nat} {t e : TypeId} {cs : List Value}

theorem TR.int {k : IntKind} (ht : P.underlying t = some (.int k)) (h : TR P w n t cs) : ∃ m, cs = [.int k m] ∧ (Lit.int k m).wf = true := by
  obtain ⟨H, enc, y, h⟩ := h
  obtain ⟨m, hc, _, hw⟩ := DataW.trod_int ht h
  exact ⟨m, hc, hw⟩
theorem TR.bool (ht : P.underlying t = some .bool) (h : TR P w n t cs) : ∃ b, cs = [.bool b] := by
  obtain ⟨H, enc, y, h⟩ := h
  obtain ⟨b, hc, _⟩ := DataW.trod_bool ht h
  exact ⟨b, hc⟩
theorem TR.str (ht : P.underlying t = some .string) (h : TR P w n t cs) : ∃ s : ByteArray, cs = [.string s] ∧ s.size ≤ maxLen := by
  obtain ⟨H, enc, y, h⟩ := h
  obtain ⟨s, hc, _, hl⟩ := DataW.trod_string ht h
  exact ⟨s, hc, hl⟩
theorem TR.struct {fs : Array Field} (ht : P.underlying t = some (.struct fs)) (h : TR P w n t cs) :
    ∃ m, n = m + 1 ∧ cs.length = P.cellsOf t ∧ ∀ (i : Nat) (f : Field), fs[i]? = some f → TR P w m f.type ((cs.drop f.offset).take (P.cellsOf f.type)) := by
  obtain ⟨H, enc, y, h⟩ := h
  obtain ⟨xs, m, hm, _, hl, hx, hf⟩ := DataW.trod_struct ht h
  refine ⟨m, hm, hl, fun i f hi => ?_⟩
  have hlt : i < xs.length := by rw [hx]; exact (Array.getElem?_eq_some_iff.1 hi).1
  exact ⟨H, enc, xs[i], by rw [hf i f hi, List.getElem?_eq_getElem hlt]⟩
theorem TR.array {k : Nat} (ht : P.underlying t = some (.array k e)) (h : TR P w n t cs) :
    ∃ m, n = m + 1 ∧ cs.length = P.cellsOf t ∧ ∀ i, i < k → TR P w m e ((cs.drop (i * P.cellsOf e)).take (P.cellsOf e)) := by
  obtain ⟨H, enc, y, h⟩ := h
  obtain ⟨xs, m, hm, _, hl, hx, hf⟩ := DataW.trod_array ht h
  refine ⟨m, hm, hl, fun i hi => ?_⟩
  have hlt : i < xs.length := by omega
  exact ⟨H, enc, xs[i], by rw [hf i hi, List.getElem?_eq_getElem hlt]⟩

/-- A slice: none; or a row of elements of which each can be read. -/
theorem TR.slice (ht : P.underlying t = some (.slice e)) (h : TR P w n t cs) :
    cs = [.slice none 0 0] ∨ ∃ (a : Addr) (len cap m : Nat), cs = [.slice (some a) len cap] ∧ len ≤ cap ∧ cap ≤ maxLen ∧ m < n ∧
      ∀ i, i < len → ∃ cs' : List Value, cs'.length = P.cellsOf e ∧ (∀ j, j < P.cellsOf e → w.cell? ((a.add (i * P.cellsOf e)).add j) = cs'[j]?) ∧ TR P w m e cs' := by
  obtain ⟨H, enc, y, h⟩ := h
  rcases DataW.trod_slice ht h with ⟨h0, _⟩ | ⟨a, len, cap, elems, rest, m, hn, hcs, _, hb, hl, hm, hlen, hel, hsp, hns⟩
  · exact .inl h0
  · refine .inr ⟨a, len, cap, m, hcs, hl, hm, by omega, fun i hi => ?_⟩
    have key := hel i hi
    rw [List.getElem?_eq_getElem (by omega)] at key
    obtain ⟨cs', h1, h2⟩ := Option.bind_eq_some_iff.1 key
    obtain ⟨_, h4, h5⟩ := World.cells?_some h1
    exact ⟨cs', h4, h5, H, enc, _, h2⟩

/-- A slice of structs whose k fields are one cell each: every field is a cell that can be read. -/
theorem TR.recs {fs : Array Field} (ht : P.underlying t = some (.slice e)) (he : P.underlying e = some (.struct fs)) (hone : oneCellFields P fs = true) (hC : P.cellsOf e = fs.size) (h0 : 0 < fs.size) (h : TR P w n t cs) :
    cs = [.slice none 0 0] ∨ ∃ (a : Addr) (len cap m : Nat), cs = [.slice (some a) len cap] ∧ len ≤ cap ∧ cap ≤ maxLen ∧
      (0 < len → ∃ b o, a = ⟨b, o, none⟩ ∧ b < w.heap.size) ∧
      ∀ i, i < len → ∀ (j : Nat) (f : Field), fs[j]? = some f → ∃ u, w.cell? ⟨a.block, a.off + (i * fs.size + j), none⟩ = some u ∧ TR P w m f.type [u] := by
  rcases h.slice ht with h | ⟨a, len, cap, m, hcs, hl, hm, _, hx⟩
  · exact .inl h
  · have hspot : 0 < len → a.spot = none ∧ a.block < w.heap.size := by
      intro hp
      obtain ⟨cs', h1, h2, _⟩ := hx 0 hp
      have h3 := h2 0 (by omega)
      rw [List.getElem?_eq_getElem (by omega)] at h3
      have h5 := World.block_lt_of_cell? w _ h3
      have h4 := World.cell?_spot h3
      obtain ⟨b, o, sp⟩ := a
      cases sp <;> simp_all [Addr.add]
    refine .inr ⟨a, len, cap, m - 1, hcs, hl, hm, ?_, ?_⟩
    · intro hp
      obtain ⟨h1, h2⟩ := hspot hp
      obtain ⟨b, o, sp⟩ := a
      simp only at h1 h2
      subst h1
      exact ⟨b, o, rfl, h2⟩
    · intro i hi j f hj
      obtain ⟨cs', h1, h2, h3⟩ := hx i hi
      obtain ⟨m', rfl, h4, h5⟩ := h3.struct he
      obtain ⟨ho, hk⟩ := hone_of hone j f hj
      have hjl : j < fs.size := (Array.getElem?_eq_some_iff.1 hj).1
      have h6 := h5 j f hj
      rw [ho, hk, List.drop_eq_getElem_cons (by omega)] at h6
      refine ⟨cs'[j]'(by omega), ?_, h6⟩
      have h7 := h2 j (by omega)
      rw [List.getElem?_eq_getElem (by omega), hC] at h7
      have h8 := (hspot (by omega)).1
      obtain ⟨b, o, sp⟩ := a
      simp only at h8
      subst h8
      rw [Addr.add_lit, Addr.add_lit] at h7
      rw [← h7, Nat.add_assoc]

end Go.Proofs.Ytbjlapfcnldpoaa

/- Law 5's script in memory, read. -/
namespace Go.Proofs.Ytbjlapfcnldpoaa
set_option linter.unusedVariables false
set_option linter.unusedSimpArgs false
open Go.RowKit

structure IsOps5 (w : World) (a : Option Addr) (len : Nat) (ops : Nat → POp) : Prop where
  cells : ∀ i, i < len → ∃ b o, a = some ⟨b, o, none⟩ ∧ b < w.heap.size ∧ w.cell? ⟨b, o + i * 5, none⟩ = some (.int .i64 (ops i).kind) ∧ w.cell? ⟨b, o + i * 5 + 1, none⟩ = some (.int .i64 (ops i).a) ∧
    w.cell? ⟨b, o + i * 5 + 2, none⟩ = some (.int .i64 (ops i).b) ∧ w.cell? ⟨b, o + i * 5 + 3, none⟩ = some (.int .i64 (ops i).c) ∧ w.cell? ⟨b, o + i * 5 + 4, none⟩ = some (.int .i64 (ops i).n)
theorem IsOps5.keeps {w w' : World} {a : Option Addr} {len : Nat} {ops : Nat → POp} (h : IsOps5 w a len ops) (k : Keeps (fun z => w.heap.size ≤ z) w w') : IsOps5 w' a len ops := by
  refine ⟨fun i hi => ?_⟩
  obtain ⟨b, o, e, hb, h1, h2, h3, h4, h5⟩ := h.cells i hi
  have hn : ¬ w.heap.size ≤ b := by omega
  exact ⟨b, o, e, Nat.lt_of_lt_of_le hb k.size, k.cell h1 hn, k.cell h2 hn, k.cell h3 hn, k.cell h4 hn, k.cell h5 hn⟩

set_option maxRecDepth 100000 in
theorem ops5_of_reads {w : World} {v : Value} (h : Reads Try.prog w 48 v) : ∃ a len cap ops, v = .slice a len cap ∧ len ≤ maxLen ∧ IsOps5 w a len ops := by
  obtain ⟨n, ht⟩ := h.tr
  have hv : ∃ a len cap, v = .slice a len cap := by
    obtain ⟨b0, hw⟩ := h.wide
    exact Go.WideShapes.okWide_slice Try.underlying48 hw
  obtain ⟨a, len, cap, rfl⟩ := hv
  have h3 : (Value.slice a len cap).cells.toList = [.slice a len cap] := by simp [Value.cells]
  rw [h3] at ht
  rcases ht.recs Try.underlying48 Try.underlying54 (by kernel_rfl) (by kernel_rfl) (by decide) with h0 | ⟨x, l, c, m, hcs, hl, hm, h0, hf⟩
  · simp only [List.cons.injEq, Value.slice.injEq, and_true] at h0
    obtain ⟨rfl, rfl, rfl⟩ := h0
    exact ⟨none, 0, 0, fun _ => ⟨0, 0, 0, 0, 0⟩, rfl, Nat.zero_le _, ⟨fun i hi => by omega⟩⟩
  · simp only [List.cons.injEq, Value.slice.injEq, and_true] at hcs
    obtain ⟨rfl, rfl, rfl⟩ := hcs
    have key : ∀ i, i < len → ∃ p : POp, w.cell? ⟨x.block, x.off + i * 5, none⟩ = some (.int .i64 p.kind) ∧ w.cell? ⟨x.block, x.off + i * 5 + 1, none⟩ = some (.int .i64 p.a) ∧
        w.cell? ⟨x.block, x.off + i * 5 + 2, none⟩ = some (.int .i64 p.b) ∧ w.cell? ⟨x.block, x.off + i * 5 + 3, none⟩ = some (.int .i64 p.c) ∧ w.cell? ⟨x.block, x.off + i * 5 + 4, none⟩ = some (.int .i64 p.n) := by
      intro i hi
      obtain ⟨u0, h0, r0⟩ := hf i hi 0 _ rfl
      obtain ⟨u1, h1, r1⟩ := hf i hi 1 _ rfl
      obtain ⟨u2, h2, r2⟩ := hf i hi 2 _ rfl
      obtain ⟨u3, h3, r3⟩ := hf i hi 3 _ rfl
      obtain ⟨u4, h4, r4⟩ := hf i hi 4 _ rfl
      obtain ⟨k0, e0, _⟩ := r0.int Try.underlying3
      obtain ⟨k1, e1, _⟩ := r1.int Try.underlying3
      obtain ⟨k2, e2, _⟩ := r2.int Try.underlying3
      obtain ⟨k3, e3, _⟩ := r3.int Try.underlying3
      obtain ⟨k4, e4, _⟩ := r4.int Try.underlying3
      simp only [List.cons.injEq, and_true] at e0 e1 e2 e3 e4
      subst e0 e1 e2 e3 e4
      exact ⟨⟨k0, k1, k2, k3, k4⟩, h0, h1, h2, h3, h4⟩
    have : Inhabited POp := ⟨⟨0, 0, 0, 0, 0⟩⟩
    obtain ⟨f, hf⟩ := Go.Deep.choose_lt key
    refine ⟨some x, len, cap, f, rfl, by omega, ⟨fun i hi => ?_⟩⟩
    obtain ⟨b, o, rfl, hb⟩ := h0 (by omega)
    exact ⟨b, o, rfl, hb, hf i hi⟩

/-- A script longer than none has a place. -/
theorem IsOps5.nosome {w : World} {a : Option Addr} {len : Nat} {ops : Nat → POp} (h : IsOps5 w a len ops) {i : Nat} (hi : i < len) : ∃ ad, a = some ad := by
  obtain ⟨b, o, e, -⟩ := h.cells i hi
  exact ⟨_, e⟩

end Go.Proofs.Ytbjlapfcnldpoaa

/- TreadFlip's plain law: a cycle's snapshot, and what is free at its end. No program in sight. -/
namespace Go.Proofs.Ytbjlapfcnldpoaa
set_option linter.unusedVariables false
set_option linter.unusedSimpArgs false
open Go.RowKit

theorem si_any {s : TH} {L : Nat → Nat → List Nat} (h : St s L) : SI s L (IsOK s L) :=
  ⟨fun v hv => h.gi.root v hv, fun u v hu he => ok_edge h.gi (colOf_le L) hu he, fun _ h => h, fun v hv => hv.elim Or.inl (fun e => Or.inr (Or.inl e))⟩
/-- Steps, with a snapshot, until the cycle's end. -/
theorem incr_si : ∀ (m : Nat) {s : TH} {L : Nat → Nat → List Nat} (S : Nat → Prop), St s L → s.cycles + m ≤ 1000000 →
    ∃ s' L', tincr m s = some s' ∧ St s' L' ∧ KeptN m s s' ∧ s.cycles ≤ s'.cycles ∧ (s.marking = true → SI s L S → s'.cycles = s.cycles → s'.marking = true ∧ SI s' L' S) := by
  intro m
  induction m with
  | zero => intro s L S h _; exact ⟨s, L, rfl, h, ⟨rfl, rfl, rfl, Nat.le_refl _, Same.refl _ _, fun _ _ => Nat.le_refl _⟩, Nat.le_refl _, fun hm hS _ => ⟨hm, hS⟩⟩
  | succ m ih =>
    intro s L S h hcy
    by_cases hSI : s.marking = true ∧ SI s L S
    · obtain ⟨t, L1, e1, h1, k1, st⟩ := step_si h hSI.2 (by omega)
      obtain ⟨s', L', e2, h2, k2, c2, q2⟩ := ih S h1 (by have := k1.cyc; omega)
      have hkn : KeptN (m + 1) s s' := ⟨k2.count.trans k1.count, k2.roots.trans k1.roots, k2.k.trans k1.k, by have := k1.cyc; have := k2.cyc; omega, k1.same.trans (by have := k2.same; rwa [k1.count] at this), fun c hc => Nat.le_trans (k1.free c hc) (k2.free c hc)⟩
      have he : tincr (m + 1) s = some s' := by simp only [tincr]; rw [e1, Option.bind_some]; exact e2
      cases st with
      | flip a1 => rw [hSI.1] at a1; cases a1
      | scan a1 a2 a3 a4 a5 a6 a7 => exact ⟨s', L', he, h2, hkn, by omega, fun _ _ hc => q2 a2 a4 (by omega)⟩
      | done a1 a2 a3 a4 a5 a6 a7 a8 => exact ⟨s', L', he, h2, hkn, by omega, fun _ _ hc => by omega⟩
    · obtain ⟨t, L1, e1, h1, k1, st⟩ := step_si h (si_any h) (by omega)
      obtain ⟨s', L', e2, h2, k2, c2, q2⟩ := ih S h1 (by have := k1.cyc; omega)
      have hkn : KeptN (m + 1) s s' := ⟨k2.count.trans k1.count, k2.roots.trans k1.roots, k2.k.trans k1.k, by have := k1.cyc; have := k2.cyc; omega, k1.same.trans (by have := k2.same; rwa [k1.count] at this), fun c hc => Nat.le_trans (k1.free c hc) (k2.free c hc)⟩
      have he : tincr (m + 1) s = some s' := by simp only [tincr]; rw [e1, Option.bind_some]; exact e2
      refine ⟨s', L', he, h2, hkn, ?_, fun hm hS => absurd ⟨hm, hS⟩ hSI⟩
      cases st with
      | flip a1 a2 a3 => omega
      | scan a1 a2 a3 => omega
      | done a1 a2 a3 => omega

/-- The things of the snapshot: those that were reached at the flip (lv), and those that were made since (from m0 on). -/
def Lvs (lv : Nat → Prop) (m0 : Nat) (G : PG) (i : Nat) : Prop := (i < m0 ∧ lv i) ∨ (m0 ≤ i ∧ i < G.all.length)
def SPs (lv : Nat → Prop) (m0 : Nat) (P : PSt) (v : Nat) : Prop := ∃ i, Lvs lv m0 P.G i ∧ P.U.getD i 0 = v
def clsOf (G : PG) (i : Nat) : Nat := match G.all[i]? with | some t => tcls t.fields.length | none => 0
structure FlipI (lv : Nat → Prop) (m0 cyc : Nat) (P : PSt) (L : Nat → Nat → List Nat) : Prop where
  si : SI P.s L (SPs lv m0 P)
  m : m0 ≤ P.G.all.length
  isC : ∀ i, Lvs lv m0 P.G i → IsC P.s.count (clsOf P.G i) (P.U.getD i 0)
  inj : ∀ i j, Lvs lv m0 P.G i → Lvs lv m0 P.G j → P.U.getD i 0 = P.U.getD j 0 → i = j
def FlipQ (lv : Nat → Prop) (m0 cyc : Nat) (P : PSt) (L : Nat → Nat → List Nat) : Prop :=
  cyc < P.s.cycles ∨ (P.s.cycles = cyc ∧ P.s.marking = true ∧ FlipI lv m0 cyc P L)
theorem Lvs.lt {lv : Nat → Prop} {m0 i : Nat} {G : PG} (h : Lvs lv m0 G i) (hm : m0 ≤ G.all.length) : i < G.all.length := by
  rcases h with h | h <;> omega
theorem FlipI.of {lv : Nat → Prop} {m0 cyc : Nat} {P : PSt} {L L' : Nat → Nat → List Nat} {s' : TH} {b : Bool} (h : FlipI lv m0 cyc P L) (hc : s'.count = P.s.count) (hs : SI s' L' (SPs lv m0 P)) : FlipI lv m0 cyc { P with s := s', full := b } L' :=
  ⟨hs, h.m, fun i hi => by show IsC s'.count _ _; rw [hc]; exact h.isC i hi, h.inj⟩
theorem clsOf_app {G : PG} {t : PTh} {r i : Nat} {v : PV} (hi : i < G.all.length) : clsOf ⟨G.regs.set r v, G.all ++ [t]⟩ i = clsOf G i := by
  unfold clsOf
  rw [show (⟨G.regs.set r v, G.all ++ [t]⟩ : PG).all = G.all ++ [t] from rfl, List.getElem?_append_left hi]
theorem track_flip (lv : Nat → Prop) (m0 cyc : Nat) : Track (fun _ => True) (FlipQ lv m0 cyc) True := by
  refine ⟨fun P L n h hq _ hcy => ?_, fun P L h hq _ hcy => ?_, fun P L r v h hq hr hv => ?_, fun P L i t q v h hq hi ht hf hlt hv => ?_⟩
  · obtain ⟨s1, L1, e1, st1, k1, c1, q1⟩ := incr_si n (SPs lv m0 P) h.st hcy
    refine ⟨s1, L1, e1, st1, k1, fun b => ?_⟩
    rcases hq with hq | ⟨hc, hm, hI⟩
    · exact Or.inl (Nat.lt_of_lt_of_le hq c1)
    · by_cases e : s1.cycles = P.s.cycles
      · obtain ⟨m1, S1⟩ := q1 hm hI.si e
        exact Or.inr ⟨by show s1.cycles = cyc; omega, m1, hI.of k1.count S1⟩
      · exact Or.inl (by show cyc < s1.cycles; omega)
  · obtain ⟨s1, L1, e1, st1, k1, c1, q1⟩ := incr_si P.s.k (SPs lv m0 P) h.st hcy
    refine ⟨s1, L1, e1, st1, k1, Or.inl trivial, fun b => ?_, fun r form n s2 L2 u hr hf hn tk => ?_⟩
    · rcases hq with hq | ⟨hc, hm, hI⟩
      · exact Or.inl (Nat.lt_of_lt_of_le hq c1)
      · by_cases e : s1.cycles = P.s.cycles
        · obtain ⟨m1, S1⟩ := q1 hm hI.si e
          exact Or.inr ⟨by show s1.cycles = cyc; omega, m1, hI.of k1.count S1⟩
        · exact Or.inl (by show cyc < s1.cycles; omega)
    · have hcy2 : (P.made r form n u s2).s.cycles = s1.cycles := tk.cyc
      rcases hq with hq | ⟨hc, hm, hI⟩
      · exact Or.inl (by rw [hcy2]; omega)
      · by_cases e : s1.cycles = P.s.cycles
        · obtain ⟨m1, S1⟩ := q1 hm hI.si e
          have hul := h.ul
          have hS2 := take_si st1 S1 tk (by unfold fillv; split <;> simp) hf (by decide) hn
          have hLv : ∀ i, Lvs lv m0 (P.made r form n u s2).G i ↔ Lvs lv m0 P.G i ∨ i = P.G.all.length := fun i => by
            have hl : (P.made r form n u s2).G.all.length = P.G.all.length + 1 := by simp [PSt.made]
            unfold Lvs
            rw [hl]
            have := hI.m
            constructor
            · rintro (h1 | h1)
              · exact Or.inl (Or.inl h1)
              · by_cases e : i < P.G.all.length
                · exact Or.inl (Or.inr ⟨h1.1, e⟩)
                · exact Or.inr (by omega)
            · rintro ((h1 | h1) | h1)
              · exact Or.inl h1
              · exact Or.inr ⟨h1.1, by omega⟩
              · exact Or.inr ⟨by omega, by omega⟩
          have hU1 : ∀ i, i < P.G.all.length → (P.U ++ [u]).getD i 0 = P.U.getD i 0 := fun i hi => getD_app_lt (by omega)
          have hU2 : (P.U ++ [u]).getD P.G.all.length 0 = u := by rw [← hul, getD_app_eq]
          have hSP : (fun v => SPs lv m0 P v ∨ v = u) = SPs lv m0 (P.made r form n u s2) := by
            funext v
            apply propext
            constructor
            · rintro (⟨i, hi, hv⟩ | rfl)
              · exact ⟨i, (hLv i).2 (Or.inl hi), (hU1 i (hi.lt hI.m)).trans hv⟩
              · exact ⟨P.G.all.length, (hLv _).2 (Or.inr rfl), hU2⟩
            · rintro ⟨i, hi, hv⟩
              rcases (hLv i).1 hi with hi | rfl
              · exact Or.inl ⟨i, hi, (hU1 i (hi.lt hI.m)).symm.trans hv⟩
              · exact Or.inr (hv.symm.trans hU2)
          rw [hSP] at hS2
          have hne : ∀ i, Lvs lv m0 P.G i → P.U.getD i 0 ≠ u := fun i hi e => (S1.ok _ ⟨i, hi, rfl⟩).ne0 (by rw [e]; exact tk.was)
          refine Or.inr ⟨by rw [hcy2]; omega, ?_, ?_, ?_, fun i hi => ?_, fun i j hi hj e => ?_⟩
          · show s2.marking = true
            rw [tk.marking]; exact m1
          · refine setRoot_si hS2 (fun c v hv e => ?_)
            have : v = u := by omega
            rw [this, ← hSP]
            exact Or.inr rfl
          · show m0 ≤ (P.G.all ++ [_]).length
            simp; have := hI.m; omega
          · show IsC s2.count (clsOf (P.made r form n u s2).G i) ((P.U ++ [u]).getD i 0)
            rw [tk.count]
            rcases (hLv i).1 hi with hi | rfl
            · have hlt := hi.lt hI.m
              rw [hU1 i hlt, k1.count]
              have : clsOf (P.made r form n u s2).G i = clsOf P.G i := clsOf_app hlt
              rw [this]; exact hI.isC i hi
            · rw [hU2]
              have : clsOf (P.made r form n u s2).G P.G.all.length = tcls n := by
                unfold clsOf PSt.made
                simp
              rw [this]; exact tk.isC
          · have e' : (P.U ++ [u]).getD i 0 = (P.U ++ [u]).getD j 0 := e
            rcases (hLv i).1 hi with hi | rfl
            · rcases (hLv j).1 hj with hj | rfl
              · rw [hU1 i (hi.lt hI.m), hU1 j (hj.lt hI.m)] at e'
                exact hI.inj i j hi hj e'
              · rw [hU1 i (hi.lt hI.m), hU2] at e'
                exact absurd e' (hne i hi)
            · rcases (hLv j).1 hj with hj | rfl
              · rw [hU1 j (hj.lt hI.m), hU2] at e'
                exact absurd e'.symm (hne j hj)
              · rfl
        · exact Or.inl (by rw [hcy2]; omega)
  · rcases hq with hq | ⟨hc, hm, hI⟩
    · exact Or.inl hq
    · exact Or.inr ⟨hc, hm, setRoot_si hI.si (fun c u hu e => hI.si.rch (hv.rch h c u hu e)), hI.m, hI.isC, hI.inj⟩
  · have ho := h.obj i t hi ht
    have hle := szs_tcls ho.le
    have hil := hi.lt h.wf
    obtain ⟨s', L', e1, k1, g1, g0, g3⟩ := set_ok2 h.st (x := pword P.U v) ho.isC ho.alive (by rw [ho.num]; exact hlt) (hv.small h) (fun _ c u hu e => (hv.rch h c u hu e).ok h.st)
    refine ⟨s', L', e1, k1, ?_⟩
    have hcy2 : (P.put i q t v s').s.cycles = P.s.cycles := k1.cyc
    rcases hq with hq | ⟨hc, hm, hI⟩
    · exact Or.inl (by rw [hcy2]; exact hq)
    · have hlen : (P.put i q t v s').G.all.length = P.G.all.length := by simp [PSt.put]
      have hLv : ∀ j, Lvs lv m0 (P.put i q t v s').G j ↔ Lvs lv m0 P.G j := fun j => by unfold Lvs; rw [hlen]
      have hSP : SPs lv m0 (P.put i q t v s') = SPs lv m0 P := by
        funext x
        apply propext
        constructor
        · rintro ⟨j, hj, e⟩; exact ⟨j, (hLv j).1 hj, e⟩
        · rintro ⟨j, hj, e⟩; exact ⟨j, (hLv j).2 hj, e⟩
      have hcl : ∀ j, clsOf (P.put i q t v s').G j = clsOf P.G j := fun j => by
        unfold clsOf PSt.put
        simp only
        by_cases e : j = i
        · subst e
          rw [List.getElem?_set_self hil, ht]
          simp
        · rw [List.getElem?_set_ne (Ne.symm e)]
      refine Or.inr ⟨hcy2.trans hc, ?_, ?_, by rw [hlen]; exact hI.m, fun j hj => ?_, fun a b ha hb e => hI.inj a b ((hLv a).1 ha) ((hLv b).1 hb) e⟩
      · show s'.marking = true
        rw [k1.marking]; exact hm
      · rw [hSP]
        refine set_si hI.si k1 g1 g3 ho.isC (by rw [ho.num]; exact hlt) (by omega) (fun v hv3 => ?_) (hI.si.rch (h.rch hi)) (fun _ c u hu e => hI.si.rch (hv.rch h c u hu e))
        have := rep_isC k1.st hv3 (by omega)
        rwa [k1.count] at this
      · show IsC s'.count _ (P.U.getD j 0)
        rw [k1.count, hcl]
        exact hI.isC j ((hLv j).1 hj)

/-- At the flip. -/
theorem flip_begins {P : PSt} {L : Nat → Nat → List Nat} (h : Inv P L) (hm : P.s.marking = false) (hcy : P.s.cycles < 1000000) :
    ∃ s' L', tincr 1 P.s = some s' ∧ Inv { P with s := s' } L' ∧ s'.cycles = P.s.cycles ∧ FlipQ (PR P.G) P.G.all.length P.s.cycles { P with s := s' } L' := by
  obtain ⟨t, L1, e1, h1, k1, st⟩ := step_si h.st (si_any h.st) hcy
  have e2 : tincr 1 P.s = some t := by
    simp only [tincr]
    rw [e1, Option.bind_some]
  have kn : KeptN 1 P.s t := ⟨k1.count, k1.roots, k1.k, k1.cyc, k1.same, k1.free⟩
  cases st with
  | flip a1 a2 a3 a4 a5 a6 =>
    have hLv : ∀ i, Lvs (PR P.G) P.G.all.length P.G i ↔ PR P.G i := fun i => by
      unfold Lvs
      constructor
      · rintro (h1 | h1)
        · exact h1.2
        · omega
      · intro h1; exact Or.inl ⟨h1.lt h.wf, h1⟩
    have hSP : Rch P.s = SPs (PR P.G) P.G.all.length { P with s := t } := by
      funext v
      apply propext
      constructor
      · intro hv
        obtain ⟨i, hi, e⟩ := h.back hv
        exact ⟨i, (hLv i).2 hi, e⟩
      · rintro ⟨i, hi, rfl⟩
        exact h.rch ((hLv i).1 hi)
    refine ⟨t, L1, e2, h.incr kn h1 P.full, a3, Or.inr ⟨a3, a2, by rw [← hSP]; exact a4, Nat.le_refl _, fun i hi => ?_, fun i j hi hj e => h.inj i j ((hLv i).1 hi) ((hLv j).1 hj) e⟩⟩
    have hi' := (hLv i).1 hi
    obtain ⟨tt, ht⟩ := hi'.ex h.wf
    show IsC t.count (clsOf P.G i) (P.U.getD i 0)
    rw [k1.count]
    have : clsOf P.G i = tcls tt.fields.length := by unfold clsOf; rw [ht]
    rw [this]
    exact (h.obj i tt hi' ht).isC
  | scan a1 => rw [hm] at a1; cases a1
  | done a1 => rw [hm] at a1; cases a1

/-- White and grey ones, and whether it is marking. -/
def gwS (s : TH) : Nat := lget s 0 2 + lget s 0 3 + lget s 1 2 + lget s 1 3 + lget s 2 2 + lget s 2 3 + lget s 3 2 + lget s 3 3 + (if s.marking then 1 else 0)
def gwL (L : Nat → Nat → List Nat) : List Nat := (L 0 2 ++ L 0 3) ++ ((L 1 2 ++ L 1 3) ++ ((L 2 2 ++ L 2 3) ++ (L 3 2 ++ L 3 3)))
theorem gwL_len {s : TH} {L : Nat → Nat → List Nat} (h : St s L) : gwS s = (gwL L).length + (if s.marking then 1 else 0) := by
  have hc : ∀ c l, c < 4 → l < 4 → lget s c l = (L c l).length := fun c l hc hl => by have := h.rep.cnt c l hc hl; simpa [d0] using this
  unfold gwS gwL
  simp only [List.length_append]
  rw [hc 0 2 (by omega) (by omega), hc 0 3 (by omega) (by omega), hc 1 2 (by omega) (by omega), hc 1 3 (by omega) (by omega), hc 2 2 (by omega) (by omega), hc 2 3 (by omega) (by omega), hc 3 2 (by omega) (by omega), hc 3 3 (by omega) (by omega)]
  omega
theorem gwL_mem {s : TH} {L : Nat → Nat → List Nat} (h : St s L) (v : Nat) : v ∈ gwL L ↔ colOf L v = 2 ∨ colOf L v = 3 := by
  constructor
  · intro hv
    have key : ∃ c l, c < 4 ∧ (l = 2 ∨ l = 3) ∧ v ∈ L c l := by
      unfold gwL at hv
      simp only [List.mem_append] at hv
      rcases hv with (e | e) | (e | e) | (e | e) | (e | e)
      · exact ⟨0, 2, by omega, Or.inl rfl, e⟩
      · exact ⟨0, 3, by omega, Or.inr rfl, e⟩
      · exact ⟨1, 2, by omega, Or.inl rfl, e⟩
      · exact ⟨1, 3, by omega, Or.inr rfl, e⟩
      · exact ⟨2, 2, by omega, Or.inl rfl, e⟩
      · exact ⟨2, 3, by omega, Or.inr rfl, e⟩
      · exact ⟨3, 2, by omega, Or.inl rfl, e⟩
      · exact ⟨3, 3, by omega, Or.inr rfl, e⟩
    obtain ⟨c, l, hc, hl, hm⟩ := key
    have := col_mem h.rep.rl hc (by omega) hm
    omega
  · intro hv
    have key : ∀ k, k ≠ 0 → colOf L v = k → (k = 2 ∨ k = 3) → v ∈ gwL L := by
      intro k hk e h23
      obtain ⟨c, hc, hm⟩ := col_ne0 e hk
      unfold gwL
      simp only [List.mem_append]
      have : c = 0 ∨ c = 1 ∨ c = 2 ∨ c = 3 := by omega
      rcases this with rfl | rfl | rfl | rfl <;> rcases h23 with rfl | rfl <;> simp [hm]
    rcases hv with e | e
    · exact key 2 (by omega) e (Or.inl rfl)
    · exact key 3 (by omega) e (Or.inr rfl)
theorem gwL_nodup {s : TH} {L : Nat → Nat → List Nat} (h : St s L) : (gwL L).Nodup := by
  have hR := h.rep.rl
  have one : ∀ c, c < 4 → (L c 2 ++ L c 3).Nodup := fun c hc => List.nodup_append.2 ⟨hR.nodup hc (by omega), hR.nodup hc (by omega), fun a ha b hb e => by
    subst e
    have := hR.disj c 2 3 a hc (by omega) (by omega) ha hb
    omega⟩
  have cls : ∀ c v, c < 4 → v ∈ L c 2 ++ L c 3 → IsC s.count c v := fun c v hc hv => by
    rcases List.mem_append.1 hv with e | e
    · exact hR.mem c 2 v hc (by omega) e
    · exact hR.mem c 3 v hc (by omega) e
  unfold gwL
  refine List.nodup_append.2 ⟨one 0 (by omega), List.nodup_append.2 ⟨one 1 (by omega), List.nodup_append.2 ⟨one 2 (by omega), one 3 (by omega), fun a ha b hb e => ?_⟩, fun a ha b hb e => ?_⟩, fun a ha b hb e => ?_⟩
  · subst e
    have := (cls 2 a (by omega) ha).one (cls 3 a (by omega) hb)
    omega
  · subst e
    have h1 := cls 1 a (by omega) ha
    rcases List.mem_append.1 hb with hb | hb
    · have := h1.one (cls 2 a (by omega) hb); omega
    · have := h1.one (cls 3 a (by omega) hb); omega
  · subst e
    have h1 := cls 0 a (by omega) ha
    rcases List.mem_append.1 hb with hb | hb
    · have := h1.one (cls 1 a (by omega) hb); omega
    · rcases List.mem_append.1 hb with hb | hb
      · have := h1.one (cls 2 a (by omega) hb); omega
      · have := h1.one (cls 3 a (by omega) hb); omega
/-- A step amid a cycle. -/
theorem mark_step {P : PSt} {L : Nat → Nat → List Nat} (h : Inv P L) (hm : P.s.marking = true) (hcy : P.s.cycles < 1000000) (S : Nat → Prop) (hS : SI P.s L S) :
    ∃ s' L', tincr 1 P.s = some s' ∧ Inv { P with s := s' } L' ∧ gwS s' < gwS P.s ∧ s'.count = P.s.count ∧
      ((s'.marking = true ∧ s'.cycles = P.s.cycles ∧ SI s' L' S) ∨ (s'.marking = false ∧ s'.cycles = P.s.cycles + 1 ∧ (∀ v, colOf L' v = 1 ↔ S v) ∧ ∀ v, colOf L' v = 0 ∨ colOf L' v = 1)) := by
  obtain ⟨t, L1, e1, h1, k1, st⟩ := step_si h.st hS hcy
  have e2 : tincr 1 P.s = some t := by
    simp only [tincr]
    rw [e1, Option.bind_some]
  have kn : KeptN 1 P.s t := ⟨k1.count, k1.roots, k1.k, k1.cyc, k1.same, k1.free⟩
  have hl := gwL_len h.st
  have hl1 := gwL_len h1
  rw [hm, if_pos rfl] at hl
  cases st with
  | flip a1 => rw [hm] at a1; cases a1
  | scan a1 a2 a3 a4 a5 a6 a7 =>
    refine ⟨t, L1, e2, h.incr kn h1 P.full, ?_, k1.count, Or.inl ⟨a2, a3, a4⟩⟩
    obtain ⟨u, hu3, hu1⟩ := a6
    rw [a2, if_pos rfl] at hl1
    have hum : u ∈ gwL L := (gwL_mem h.st u).2 (Or.inr hu3)
    have hle := nodup_le (gwL L1) ((gwL L).erase u) (gwL_nodup h1) (fun v hv => by
      have hv' := (gwL_mem h1 v).1 hv
      have hne : v ≠ u := fun e => by rw [e, hu1] at hv'; omega
      refine (List.mem_erase_of_ne hne).2 ((gwL_mem h.st v).2 ?_)
      have h0 := a5 v
      have h7 := a7 v
      have hc := colOf_le L v
      by_cases e0 : colOf L v = 0
      · have := h0.2 e0; omega
      · by_cases e1 : colOf L v = 1
        · have := h7 e1; omega
        · omega)
    rw [List.length_erase_of_mem hum] at hle
    have := List.length_pos_of_mem hum
    omega
  | done a1 a2 a3 a4 a5 a6 a7 a8 =>
    refine ⟨t, L1, e2, h.incr kn h1 P.full, ?_, k1.count, Or.inr ⟨a2, a3, a5, a6⟩⟩
    rw [a2, if_neg (by simp)] at hl1
    have h0 : gwL L1 = [] := by
      cases hg : gwL L1 with
      | nil => rfl
      | cons a l =>
        have := (gwL_mem h1 a).1 (by rw [hg]; exact List.mem_cons_self)
        have := a6 a
        omega
    rw [h0] at hl1
    simp at hl1
    omega
/-- So many are free at the end. -/
theorem flip_free {lv : Nat → Prop} {m0 cyc : Nat} {P : PSt} {L : Nat → Nat → List Nat} (h : St P.s L) (h1 : ∀ v, colOf L v = 1 ↔ SPs lv m0 P v) (h2 : ∀ v, colOf L v = 0 ∨ colOf L v = 1) (hC : ∀ i, Lvs lv m0 P.G i → IsC P.s.count (clsOf P.G i) (P.U.getD i 0)) (hinj : ∀ i j, Lvs lv m0 P.G i → Lvs lv m0 P.G j → P.U.getD i 0 = P.U.getD j 0 → i = j)
    {c : Nat} (hc : c < 4) (I : List Nat) (hI : I.Nodup) (hmI : ∀ i, i ∈ I ↔ Lvs lv m0 P.G i ∧ clsOf P.G i = c) : lget P.s c 0 + I.length = P.s.count.getD c 0 := by
  have hR := h.rep
  have h0 := hR.cnt c 0 hc (by omega)
  simp only [d0, Nat.add_zero] at h0
  have ht := hR.tot c hc
  have hno : ∀ l, l = 2 ∨ l = 3 → L c l = [] := fun l hl => by
    cases e : L c l with
    | nil => rfl
    | cons a m =>
      have := col_mem hR.rl hc (by omega) (show a ∈ L c l by rw [e]; exact List.mem_cons_self)
      have := h2 a
      omega
  rw [hno 2 (Or.inl rfl), hno 3 (Or.inr rfl)] at ht
  simp only [List.length_nil, Nat.add_zero] at ht
  have hlen : (L c 1).length = I.length := by
    have hmap : (I.map (fun i => P.U.getD i 0)).Nodup := nodup_mapon (fun i hi j hj e => hinj i j ((hmI i).1 hi).1 ((hmI j).1 hj).1 e) hI
    apply Nat.le_antisymm
    · have := nodup_le (L c 1) (I.map (fun i => P.U.getD i 0)) (hR.rl.nodup hc (by omega)) (fun v hv => by
        obtain ⟨i, hi, e⟩ := (h1 v).1 (col_mem hR.rl hc (by omega) hv)
        have hcv := hR.rl.mem c 1 v hc (by omega) hv
        have hci := hC i hi
        rw [e] at hci
        exact List.mem_map.2 ⟨i, (hmI i).2 ⟨hi, hci.one hcv⟩, e⟩)
      simpa using this
    · have := nodup_le (I.map (fun i => P.U.getD i 0)) (L c 1) hmap (fun v hv => by
        obtain ⟨i, hi, rfl⟩ := List.mem_map.1 hv
        obtain ⟨hi1, hi2⟩ := (hmI i).1 hi
        obtain ⟨c2, hc2, hm⟩ := col_ne0 ((h1 _).2 ⟨i, hi1, rfl⟩) (by decide)
        have hcv := hR.rl.mem c2 1 _ hc2 (by omega) hm
        have := hcv.one (hC i hi1)
        rw [this, hi2] at hm
        exact hm)
      simpa using this
  omega

end Go.Proofs.Ytbjlapfcnldpoaa

/- Law 5's count, by its contract; Marking, Cycles. -/
namespace Go.Proofs.Ytbjlapfcnldpoaa
set_option linter.unusedVariables false
set_option linter.unusedSimpArgs false
open Go.RowKit

theorem marking_is {hb b g : Nat} {s : TH} {w : World} (hI : IsTH w hb b g s) : Calls Try.prog 33 #[.pointer (some ⟨hb, 0, none⟩)] w fun e w' => e = .returned (.bool s.marking) ∧ w' = w := by
  have hc := hI.marking
  clear hI
  go_enter Try.func33, Try.ntmps33
  go_wp2_with fail
  go_ret
  exact ⟨rfl, rfl⟩
theorem cycles_is {hb b g : Nat} {s : TH} {w : World} (hI : IsTH w hb b g s) : Calls Try.prog 34 #[.pointer (some ⟨hb, 0, none⟩)] w fun e w' => e = .returned (.int .i64 (s.cycles : Nat)) ∧ w' = w := by
  have hc := hI.cycles
  clear hI
  go_enter Try.func34, Try.ntmps34
  go_wp2_with fail
  go_ret
  exact ⟨rfl, rfl⟩

/-- The iterator in block r has handed out the entries V of the set. -/
structure IsItV (w : World) (r b : Nat) (l V : List Nat) : Prop where
  h : ∃ (es : Array MapEntry) (seen : Array Nat), w.heap[b]? = some (.map es l.length) ∧ es.toList = pents l 0 ∧ w.heap[r]? = some (.mapIter (some b) l.length seen l.length) ∧ seen.toList = V
  nd : V.Nodup
  lt : ∀ j ∈ V, j < l.length
theorem IsItV.keeps {w w' : World} {r b : Nat} {l V : List Nat} {S : Nat → Prop} (h : IsItV w r b l V) (kk : Keeps S w w') (hb : ¬ S b) (hr : ¬ S r) : IsItV w' r b l V := by
  obtain ⟨es, seen, h1, h2, h3, h4⟩ := h.h
  exact ⟨⟨es, seen, kk.heap h1 hb, h2, kk.heap h3 hr, h4⟩, h.nd, h.lt⟩
theorem set_rangeV (w : World) {b : Nat} {l : List Nat} (h : IsSet w b l) :
    (Instr.range 64 (.map (some b))).run Try.prog w = .ok (.pointer (some ⟨w.heap.size, 0, none⟩)) (w.alloc (.mapIter (some b) l.length #[] l.length)) ∧ IsItV (w.alloc (.mapIter (some b) l.length #[] l.length)) w.heap.size b l [] := by
  obtain ⟨⟨es, h1, h2⟩, -, -⟩ := h
  refine ⟨run_range_map w _ _ _ b es l.length Try.underlying64 h1, ⟨⟨es, #[], ?_, h2, heap_alloc_new w _, rfl⟩, List.nodup_nil, (fun j hj => by cases hj)⟩⟩
  rw [heap_alloc_old w _ (lt_of_heap' h1)]; exact h1
theorem pents_at {e : MapEntry} : ∀ {l : List Nat} {i : Nat}, e ∈ pents l i → ∃ q a, l[q]? = some a ∧ e.key = pkey a ∧ e.val = .bool true ∧ e.born = i + q
  | [], i, h => by cases h
  | a :: l, i, h => by
    rcases List.mem_cons.1 h with rfl | h
    · exact ⟨0, a, rfl, rfl, rfl, rfl⟩
    · obtain ⟨q, x, h1, h2, h3, h4⟩ := pents_at h
      exact ⟨q + 1, x, h1, h2, h3, by omega⟩
theorem pents_has : ∀ {l : List Nat} {i q a : Nat}, l[q]? = some a → ⟨pkey a, .bool true, i + q⟩ ∈ pents l i
  | [], i, q, a, h => by cases h
  | x :: l, i, 0, a, h => by
    have : x = a := by simpa using h
    subst this
    exact List.mem_cons_self
  | x :: l, i, q + 1, a, h => by
    have h2 : l[q]? = some a := by simpa using h
    have := pents_has (i := i + 1) h2
    rw [show i + 1 + q = i + (q + 1) from by omega] at this
    exact List.mem_cons_of_mem _ this
/-- The next one, once each. -/
theorem set_nextV (w : World) (ty : TypeId) {r b : Nat} {l V : List Nat} (h : IsItV w r b l V) (hrb : r ≠ b) :
    ((∀ j, j < l.length → j ∈ V) ∧ (Instr.next (.pointer (some ⟨r, 0, none⟩)) false ty).run Try.prog w = .ok (.tuple #[.bool false]) w) ∨
    ∃ j a, l[j]? = some a ∧ j ∉ V ∧ ∃ w', (Instr.next (.pointer (some ⟨r, 0, none⟩)) false ty).run Try.prog w = .ok (.tuple #[.bool true, pkey a, .bool true]) w' ∧ (Instr.entry (.pointer (some ⟨r, 0, none⟩))).run Try.prog w' = .ok (.tuple #[pkey a, .bool true]) w' ∧ IsItV w' r b l (V ++ [j]) ∧ Keeps (fun z => z = r) w w' := by
  obtain ⟨es, seen, h1, h2, h3, h4⟩ := h.h
  have hold : ∀ x ∈ es.toList, x.born < l.length := fun x hx => by
    rw [h2] at hx
    obtain ⟨-, -, -, -, -, h⟩ := pents_mem hx
    omega
  have hlr := lt_of_heap' h3
  have hlb := lt_of_heap' h1
  simp only [Instr.next, getObj, Sem.run_bind, Sem.run, h3, h1, Result.andThen, next_test_false seen es l.length l.length hold (Nat.le_refl _), Bool.false_eq_true, if_false]
  have hmemL : ∀ x ∈ (leftOf es seen).toList, x.born < l.length := fun x hx => hold x (mem_left hx).1
  have hin : ∀ x ∈ (leftOf es seen).toList, x ∈ es.toList ∧ x.born ∉ V := fun x hx => by
    refine ⟨(mem_left hx).1, fun hm => ?_⟩
    have h5 : x ∈ leftOf es seen := by simpa using hx
    unfold leftOf at h5
    have h6 := (Array.mem_filter.1 h5).2
    rw [← h4] at hm
    simp at h6
    exact h6 (by simpa using hm)
  have hall : (leftOf es seen).size = 0 → ∀ j, j < l.length → j ∈ V := fun h0 j hj => by
    have hL : leftOf es seen = #[] := Array.eq_empty_of_size_eq_zero h0
    obtain ⟨a, ha⟩ : ∃ a, l[j]? = some a := ⟨_, List.getElem?_eq_getElem hj⟩
    have hp := pents_has (i := 0) ha
    rw [Nat.zero_add, ← h2] at hp
    rcases Classical.em (j ∈ V) with hm | hm
    · exact hm
    · exfalso
      have : (⟨pkey a, .bool true, j⟩ : MapEntry) ∈ leftOf es seen := by
        unfold leftOf
        refine Array.mem_filter.2 ⟨by simpa using hp, ?_⟩
        simp
        intro hx
        exact hm (by rw [← h4]; simpa using hx)
      rw [hL] at this
      simp at this
  show (_ ∧ _) ∨ _
  unfold leftOf at hmemL hin hall
  generalize Array.filter (fun e => !seen.contains e.born) es = L at hmemL hin hall ⊢
  have e1 : L.filter (fun x => decide (x.born < l.length)) = L := Array.filter_eq_self.2 (fun x hx => by simpa using hmemL x (by simpa using hx))
  have e2 : L.filter (fun x => decide (x.born ≥ l.length)) = #[] := by
    rw [Array.filter_eq_empty_iff]
    intro x hx
    have := hmemL x (by simpa using hx)
    simp
    omega
  simp only [e1, e2, Array.append_empty]
  by_cases h0 : L.size = 0
  · left
    have hall' := hall h0
    have : L = #[] := Array.eq_empty_of_size_eq_zero h0
    subst this
    refine ⟨hall', ?_⟩
    simp [choose, Sem.run, Question.forced]
  · right
    have hne : L.isEmpty = false := by simp [Array.isEmpty, h0]
    simp only [hne, Bool.false_eq_true, if_false, Array.empty_append, Array.size_map]
    have hch : ∃ (j : Nat) (w1 : World), j < L.size ∧ Keeps (fun _ => False) w w1 ∧ w1.heap = w.heap ∧ (choose (Question.mapNext L.size)).run Try.prog w = .ok j w1 := by
      by_cases hf : L.size ≤ 1
      · exact ⟨0, w, by omega, Keeps.refl _ w, rfl, by simp [choose, Sem.run, Question.forced, hf]⟩
      · exact ⟨_, w.drew, Nat.mod_lt _ (by omega), (Keeps.refl (fun _ => False) w).drewN 1, rfl, by
          simp only [choose, Sem.run, Question.forced, decide_eq_true_eq, hf, if_false, Question.cut]
          rfl⟩
    obtain ⟨j, w1, hj, hk1, hh1, hrun⟩ := hch
    have hLm : L[j] ∈ L.toList := by simp
    obtain ⟨hes, hnV⟩ := hin L[j] hLm
    have hes0 := hes
    rw [h2] at hes
    obtain ⟨q, a, hq, hkey, hval, hborn⟩ := pents_at hes
    rw [Nat.zero_add] at hborn
    have hset : (setObj r (.mapIter (some b) l.length (seen.push L[j].born) l.length)).run Try.prog w1 = .ok () { w1 with heap := w1.heap.setIfInBounds r (.mapIter (some b) l.length (seen.push L[j].born) l.length) } := by
      simp only [setObj, Sem.run, hh1, h3]
    have hbn : ({ w1 with heap := w1.heap.setIfInBounds r (.mapIter (some b) l.length (seen.push L[j].born) l.length) } : World).heap[b]? = some (.map es l.length) := by
      show (w1.heap.setIfInBounds r _)[b]? = _
      rw [hh1]
      simp [hrb, h1]
    have hrn : ({ w1 with heap := w1.heap.setIfInBounds r (.mapIter (some b) l.length (seen.push L[j].born) l.length) } : World).heap[r]? = some (.mapIter (some b) l.length (seen.push L[j].born) l.length) := by
      show (w1.heap.setIfInBounds r _)[r]? = _
      rw [hh1]
      simp [hlr]
    have hqV : q ∉ V := by rw [← hborn]; exact hnV
    refine ⟨q, a, hq, hqV, _, ?_, ?_, ⟨⟨es, _, hbn, h2, hrn, ?_⟩, ?_, ?_⟩, ⟨hk1.os, hk1.tape, hk1.output, by simpa using hk1.size, fun q hq hs => ?_⟩⟩
    · simp only [hrun, Array.getElem?_map, Array.getElem?_eq_getElem hj, Option.map_some, Sem.run_bind, hset, Result.andThen]
      rw [hkey, hval]
      rfl
    · have hf : es.find? (·.born == L[j].born) = some L[j] := by
        rw [← Array.find?_toList]
        exact find_born L[j] es.toList (by rw [h2]; exact pents_born_nd l 0) hes0
      simp only [Instr.entry, getObj, Sem.run_bind, Sem.run, hrn, hbn, Result.andThen, Array.back?_push, bne_self_eq_false, Bool.false_eq_true, if_false, hf]
      rw [hkey, hval]
      rfl
    · rw [Array.toList_push, h4, hborn]
    · refine List.nodup_append.2 ⟨h.nd, by simp, fun x hx y hy e => ?_⟩
      rw [List.mem_singleton.1 hy] at e
      exact hqV (e ▸ hx)
    · intro x hx
      rcases List.mem_append.1 hx with hx | hx
      · exact h.lt x hx
      · rw [List.mem_singleton.1 hx]; exact (List.getElem?_eq_some_iff.1 hq).1
    · show (w1.heap.setIfInBounds r _)[q]? = _
      rw [hh1]
      simp [Ne.symm hs]
theorem IsItV.notCells {w : World} {r b : Nat} {l V : List Nat} (h : IsItV w r b l V) : (∀ (cs : Array Value) (t : TypeId), ¬ w.heap[r]? = some (.cells cs t (0, 0))) ∧ (∀ (cs : Array Value) (t : TypeId), ¬ w.heap[b]? = some (.cells cs t (0, 0))) := by
  obtain ⟨es, seen, h1, h2, h3, h4⟩ := h.h
  exact ⟨(fun cs t e => by rw [h3] at e; cases e), (fun cs t e => by rw [h1] at e; cases e)⟩
/-- How many an iterator has handed out. -/
def itSeen (w : World) (r : Nat) : Nat := match w.heap[r]? with
  | some (.mapIter _ _ seen _) => seen.size
  | _ => 0
theorem IsItV.seen {w : World} {r b : Nat} {l V : List Nat} (h : IsItV w r b l V) : itSeen w r = V.length ∧ V.length ≤ l.length := by
  obtain ⟨es, seen, h1, h2, h3, h4⟩ := h.h
  refine ⟨?_, ?_⟩
  · unfold itSeen
    rw [h3]
    simp only
    rw [← h4, Array.length_toList]
  · have := nodup_le V (List.range l.length) h.nd (fun j hj => List.mem_range.2 (h.lt j hj))
    simpa using this

/-- How many of class c are among those. -/
def cntV (l : List Nat) (cl : Nat → Nat) (V : List Nat) (c : Nat) : Nat := (V.filter (fun j => decide (cl (l.getD j 0) = c))).length
theorem cntV_snoc (l : List Nat) (cl : Nat → Nat) (V : List Nat) (j c : Nat) : cntV l cl (V ++ [j]) c = cntV l cl V c + (if cl (l.getD j 0) = c then 1 else 0) := by
  unfold cntV
  rw [List.filter_append, List.length_append]
  congr 1
  by_cases h : cl (l.getD j 0) = c
  · rw [if_pos h, List.filter_cons, if_pos (by simp only [decide_eq_true_eq]; exact h)]; rfl
  · rw [if_neg h, List.filter_cons, if_neg (by simp only [decide_eq_true_eq]; exact h)]; rfl
theorem cntV_all {l V : List Nat} (cl : Nat → Nat) (hn : V.Nodup) (hl : ∀ j ∈ V, j < l.length) (ha : ∀ j, j < l.length → j ∈ V) (c : Nat) : cntV l cl V c = (l.filter (fun a => decide (cl a = c))).length := by
  have e1 : cntV l cl V c = cntV l cl (List.range l.length) c := by
    unfold cntV
    apply Nat.le_antisymm
    · refine nodup_le _ _ (nodup_filter _ hn) (fun j hj => ?_)
      rw [List.mem_filter] at hj ⊢
      exact ⟨List.mem_range.2 (hl j hj.1), hj.2⟩
    · refine nodup_le _ _ (nodup_filter _ List.nodup_range) (fun j hj => ?_)
      rw [List.mem_filter] at hj ⊢
      exact ⟨ha j (List.mem_range.1 hj.1), hj.2⟩
  rw [e1]
  have e2 : l = (List.range l.length).map (fun j => l.getD j 0) := by
    apply List.ext_getElem
    · simp
    · intro i h1 h2
      simp [List.getD, List.getElem?_eq_getElem h1]
  unfold cntV
  conv => rhs; rw [e2]
  rw [List.filter_map, List.length_map]
  rfl

/-- What count leaves. -/
structure CountSaid (l : List Nat) (cl : Nat → Nat) (w : World) (e : Ending) (w' : World) : Prop where
  said : ∃ n0 n1 n2 n3 : Nat, e = .returned (.agg #[.int .i64 (n0 : Int), .int .i64 (n1 : Int), .int .i64 (n2 : Int), .int .i64 (n3 : Int)]) ∧ ∀ c, c < 4 → [n0, n1, n2, n3].getD c 0 = (l.filter (fun a => decide (cl a = c))).length
  keeps : Keeps (fun _ => False) w w'

set_option maxRecDepth 100000 in
set_option maxHeartbeats 4000000 in
theorem count_is {w : World} {mb : Nat} {l : List Nat} (cl : Nat → Nat) (hs : IsSet w mb l) (hlen : l.length ≤ 5000) (hcl : ∀ a ∈ l, ∃ n fa fc, n ≤ 127 ∧ cl a = tcls n ∧ w.cell? ⟨a, 1, none⟩ = some (.slice fa n fc)) :
    Calls Try.prog 35 #[.map (some mb)] w (CountSaid l cl w) := by
  obtain ⟨w1, hw1⟩ : ∃ w1, w.alloc (.cells #[.int .i64 0, .int .i64 0, .int .i64 0, .int .i64 0] 28) = w1 := ⟨_, rfl⟩
  obtain ⟨w2, hw2⟩ : ∃ w2, w1.alloc (.cells #[.int .i64 0, .int .i64 0, .int .i64 0, .int .i64 0] 28) = w2 := ⟨_, rfl⟩
  have k1 : Keeps (fun _ => False) w w1 := by rw [← hw1]; exact (Keeps.refl _ w).alloc _
  have k2 : Keeps (fun _ => False) w1 w2 := by rw [← hw2]; exact (Keeps.refl _ w1).alloc _
  obtain ⟨rb, hrb⟩ : ∃ rb, w.heap.size = rb := ⟨_, rfl⟩
  obtain ⟨ob, hob⟩ : ∃ ob, w1.heap.size = ob := ⟨_, rfl⟩
  have hs1 : ob = rb + 1 := by rw [← hob, ← hrb, ← hw1]; simp
  have hr2 : w2.heap[rb]? = some (.cells #[.int .i64 0, .int .i64 0, .int .i64 0, .int .i64 0] 28 (0, 0)) := k2.heap (by rw [← hw1, ← hrb]; exact heap_alloc_new w _) (fun h => h)
  have ho2 : w2.heap[ob]? = some (.cells #[.int .i64 0, .int .i64 0, .int .i64 0, .int .i64 0] 28 (0, 0)) := by rw [← hw2, ← hob]; exact heap_alloc_new w1 _
  have hset2 := (hs.keeps k1 (fun h => h) (fun _ _ h => h)).keeps k2 (fun h => h) (fun _ _ h => h)
  obtain ⟨hrg, hit⟩ := set_rangeV w2 hset2
  obtain ⟨r1, hr1⟩ : ∃ r1, w2.heap.size = r1 := ⟨_, rfl⟩
  obtain ⟨w3, hw3⟩ : ∃ w3, w2.alloc (.mapIter (some mb) l.length #[] l.length) = w3 := ⟨_, rfl⟩
  have k3 := (Keeps.refl (fun _ => False) w2).alloc (.mapIter (some mb) l.length #[] l.length)
  rw [hr1, hw3] at hrg hit
  rw [hw3] at k3
  have hr1s : r1 = rb + 2 := by rw [← hr1, ← hw2]; simp; omega
  have hmbl : mb < rb := by
    obtain ⟨es, h1, -⟩ := hs.map
    rw [← hrb]; exact lt_of_heap h1
  have hne : rb < ob ∧ ob < r1 := by omega
  have HIt := Box.mk hit
  have HSm := Box.mk hs
  have HCl := Box.mk hcl
  have HR := Box.mk (k3.heap hr2 (fun h => h))
  have HO := Box.mk (k3.heap ho2 (fun h => h))
  have K3 := Box.mk ((k1.trans k2).trans k3)
  have Hrb := Box.mk hrb
  clear hs hcl hset2 hit k1 k2 k3 hr2 ho2 hs1 hr1s
  go_enter Try.func35, Try.ntmps35
  go_wp2_with fail
  clear hrg hw1 hw2 hw3 hrb hob hr1
  go_loopw [] (fun wr => ∃ (V : List Nat) (n0 n1 n2 n3 : Nat), Box (IsItV wr r1 mb l V) ∧ Box (wr.heap[ob]? = some (.cells #[.int .i64 (n0 : Int), .int .i64 (n1 : Int), .int .i64 (n2 : Int), .int .i64 (n3 : Int)] 28 (0, 0))) ∧ Box (wr.heap[rb]? = some (.cells #[.int .i64 0, .int .i64 0, .int .i64 0, .int .i64 0] 28 (0, 0))) ∧ Box (∀ c, c < 4 → [n0, n1, n2, n3].getD c 0 = cntV l cl V c) ∧ Box (Keeps (fun _ => False) w wr)) (fun wr => l.length + 1 - itSeen wr r1)
  case atStart => exact ⟨[], 0, 0, 0, 0, HIt, HO, HR, ⟨fun c hc => by
    have : c = 0 ∨ c = 1 ∨ c = 2 ∨ c = 3 := by omega
    rcases this with rfl | rfl | rfl | rfl <;> rfl⟩, K3⟩
  case round =>
    clear HIt HO HR K3
    obtain ⟨V, n0, n1, n2, n3, HIt, HO, HR, HN, K⟩ := hrel
    rcases set_nextV wr 0 HIt.out (by omega) with ⟨hall, hnx⟩ | ⟨j, a, hja, hjV, wn, hnx, hen, hit', kk⟩
    · have hf := fun c => cntV_all cl HIt.out.nd HIt.out.lt hall c
      have HF : Box (∀ c, c < 4 → [n0, n1, n2, n3].getD c 0 = (l.filter (fun a => decide (cl a = c))).length) := ⟨fun c hc => (HN.out c hc).trans (hf c)⟩
      have o0 := cell_of_heap HO.out 0
      have o1 := cell_of_heap HO.out 1
      have o2 := cell_of_heap HO.out 2
      have o3 := cell_of_heap HO.out 3
      simp only [List.getElem?_toArray, List.getElem?_cons_zero, List.getElem?_cons_succ] at o0 o1 o2 o3
      have p0 := cell_of_heap HR.out 0
      have p1 := cell_of_heap HR.out 1
      have p2 := cell_of_heap HR.out 2
      have p3 := cell_of_heap HR.out 3
      have g0 := frozen_of_heap HR.out 0
      have g1 := frozen_of_heap HR.out 1
      have g2 := frozen_of_heap HR.out 2
      have g3 := frozen_of_heap HR.out 3
      simp only [List.getElem?_toArray, List.getElem?_cons_zero, List.getElem?_cons_succ] at p0 p1 p2 p3
      clear hf hall HIt HN
      go_wp2_with fail
      have r2 := heap_setCell_at (heap_setCell_at (heap_setCell_at (heap_setCell_at HR.out 0 (.int .i64 (n0 : Int))) 1 (.int .i64 (n1 : Int))) 2 (.int .i64 (n2 : Int))) 3 (.int .i64 (n3 : Int))
      have q0 := cell_of_heap r2 0
      have q1 := cell_of_heap r2 1
      have q2 := cell_of_heap r2 2
      have q3 := cell_of_heap r2 3
      simp at q0 q1 q2 q3
      have kr := ((((Keeps.refl (fun z => z = rb) wr).setCell (p := ⟨rb, 0, none⟩) (fun _ => rfl) (.int .i64 (n0 : Int))).setCell (p := ⟨rb, 1, none⟩) (fun _ => rfl) (.int .i64 (n1 : Int))).setCell (p := ⟨rb, 2, none⟩) (fun _ => rfl) (.int .i64 (n2 : Int))).setCell (p := ⟨rb, 3, none⟩) (fun _ => rfl) (.int .i64 (n3 : Int))
      have KF := Box.mk (K.out.trans' kr (fun i hi e => by have := Hrb.out; omega))
      clear r2 kr
      exact bodyPost_ret (v := .agg #[.int .i64 (n0 : Int), .int .i64 (n1 : Int), .int .i64 (n2 : Int), .int .i64 (n3 : Int)]) (by simp [results, Try.results35, go_sem, q0, q1, q2, q3]) rfl ⟨⟨n0, n1, n2, n3, rfl, HF.out⟩, KF.out⟩
    · have hnc : ∀ cs t, ¬ wr.heap[r1]? = some (.cells cs t (0, 0)) := fun cs t => HIt.out.notCells.1 cs t
      have HItn := Box.mk hit'
      have HOn := Box.mk (kk.heap HO.out (by omega))
      have HRn := Box.mk (kk.heap HR.out (by omega))
      have Kn : Box (Keeps (fun _ => False) w wn) := ⟨K.out.trans' kk (fun i hi e => by have := Hrb.out; omega)⟩
      obtain ⟨n, fa, fc, hn127, hclx, hcell⟩ := HCl.out a (List.mem_of_getElem? hja)
      have hab : a < w.heap.size := by have := World.block_lt_of_cell? w _ hcell; exact this
      have c1 := Kn.out.cell hcell (fun h => h)
      have Hcl : Box (cl (l.getD j 0) = tcls n) := ⟨by rw [← hclx]; simp [List.getD, hja]⟩
      have hbd : ∀ c, c < 4 → [n0, n1, n2, n3].getD c 0 ≤ 5000 := fun c hc => by
        rw [HN.out c hc]
        unfold cntV
        exact Nat.le_trans (List.length_filter_le _ _) (Nat.le_trans HIt.out.seen.2 hlen)
      have hb0 : (n0 : Int) ≤ 5000 := by have := hbd 0 (by omega); simp at this; omega
      have hb1 : (n1 : Int) ≤ 5000 := by have := hbd 1 (by omega); simp at this; omega
      have hb2 : (n2 : Int) ≤ 5000 := by have := hbd 2 (by omega); simp at this; omega
      have hb3 : (n3 : Int) ≤ 5000 := by have := hbd 3 (by omega); simp at this; omega
      have Hcls := Box.mk (cls_is n · hn127)
      have ht4 := tcls_lt n
      unfold pkey at hnx hen
      clear hit' kk HO HR K hnc hcell hclx hab hbd hja hjV
      go_wp2_with fail
      refine (Hcls.out _).mono ?_
      rintro e w6 ⟨rfl, k6⟩
      have HIt6 := Box.mk (HItn.out.keeps k6 (fun h => h) (fun h => h))
      have HO6 := Box.mk (k6.heap HOn.out (fun h => h))
      have HR6 := Box.mk (k6.heap HRn.out (fun h => h))
      have K6 := Box.mk (Kn.out.trans k6)
      have HM6 : Box (itSeen wr r1 = V.length) := ⟨HIt.out.seen.1⟩
      have o0 := cell_of_heap HO6.out 0
      have o1 := cell_of_heap HO6.out 1
      have o2 := cell_of_heap HO6.out 2
      have o3 := cell_of_heap HO6.out 3
      have f0 := frozen_of_heap HO6.out 0
      have f1 := frozen_of_heap HO6.out 1
      have f2 := frozen_of_heap HO6.out 2
      have f3 := frozen_of_heap HO6.out 3
      simp only [List.getElem?_toArray, List.getElem?_cons_zero, List.getElem?_cons_succ] at o0 o1 o2 o3
      clear k6 HItn HOn HRn Kn HIt Hcls c1 hnx hen
      have h4 : tcls n = 0 ∨ tcls n = 1 ∨ tcls n = 2 ∨ tcls n = 3 := by omega
      rcases h4 with h4 | h4 | h4 | h4
      · have HN7 : Box (∀ c, c < 4 → [n0 + 1, n1, n2, n3].getD c 0 = cntV l cl (V ++ [j]) c) := ⟨fun c hc => by
          rw [cntV_snoc, Hcl.out, h4, ← HN.out c hc]
          have : c = 0 ∨ c = 1 ∨ c = 2 ∨ c = 3 := by omega
          rcases this with rfl | rfl | rfl | rfl <;> rfl⟩
        rw [h4]
        clear h4 ht4
        go_wp2_with fail
        have hh := heap_setCell_at HO6.out 0 (.int .i64 ((n0 : Int) + 1))
        have kt := (Keeps.refl (fun z => z = ob) w6).setCell (p := ⟨ob, 0, none⟩) (fun _ => rfl) (.int .i64 ((n0 : Int) + 1))
        have HO7 : Box ((w6.setCell ⟨ob, 0, none⟩ (.int .i64 ((n0 : Int) + 1))).heap[ob]? = some (.cells #[.int .i64 ((n0 + 1 : Nat) : Int), .int .i64 (n1 : Int), .int .i64 (n2 : Int), .int .i64 (n3 : Int)] 28 (0, 0))) := ⟨by simpa using hh⟩
        have HR7 := Box.mk (kt.heap HR6.out (by omega))
        have HIt7 := Box.mk (HIt6.out.keeps kt (by omega) (by omega))
        have K7 : Box (Keeps (fun _ => False) w (w6.setCell ⟨ob, 0, none⟩ (.int .i64 ((n0 : Int) + 1)))) := ⟨K6.out.trans' kt (fun i hi e => by have := Hrb.out; omega)⟩
        have HM7 : Box (l.length + 1 - itSeen (w6.setCell ⟨ob, 0, none⟩ (.int .i64 ((n0 : Int) + 1))) r1 < l.length + 1 - itSeen wr r1) := ⟨by
          have h1 := HIt7.out.seen
          rw [h1.1, HM6.out]
          have := h1.2
          rw [List.length_append] at this ⊢
          simp at this ⊢
          omega⟩
        clear hh kt HO6 HR6 HIt6 K6 HN o0 o1 o2 o3 f0 f1 f2 f3
        go_roundw
        case rel => exact ⟨V ++ [j], n0 + 1, n1, n2, n3, HIt7, HO7, HR7, HN7, K7⟩
        case measure => exact HM7.out
      · have HN7 : Box (∀ c, c < 4 → [n0, n1 + 1, n2, n3].getD c 0 = cntV l cl (V ++ [j]) c) := ⟨fun c hc => by
          rw [cntV_snoc, Hcl.out, h4, ← HN.out c hc]
          have : c = 0 ∨ c = 1 ∨ c = 2 ∨ c = 3 := by omega
          rcases this with rfl | rfl | rfl | rfl <;> rfl⟩
        rw [h4]
        clear h4 ht4
        go_wp2_with fail
        have hh := heap_setCell_at HO6.out 1 (.int .i64 ((n1 : Int) + 1))
        have kt := (Keeps.refl (fun z => z = ob) w6).setCell (p := ⟨ob, 1, none⟩) (fun _ => rfl) (.int .i64 ((n1 : Int) + 1))
        have HO7 : Box ((w6.setCell ⟨ob, 1, none⟩ (.int .i64 ((n1 : Int) + 1))).heap[ob]? = some (.cells #[.int .i64 (n0 : Int), .int .i64 ((n1 + 1 : Nat) : Int), .int .i64 (n2 : Int), .int .i64 (n3 : Int)] 28 (0, 0))) := ⟨by simpa using hh⟩
        have HR7 := Box.mk (kt.heap HR6.out (by omega))
        have HIt7 := Box.mk (HIt6.out.keeps kt (by omega) (by omega))
        have K7 : Box (Keeps (fun _ => False) w (w6.setCell ⟨ob, 1, none⟩ (.int .i64 ((n1 : Int) + 1)))) := ⟨K6.out.trans' kt (fun i hi e => by have := Hrb.out; omega)⟩
        have HM7 : Box (l.length + 1 - itSeen (w6.setCell ⟨ob, 1, none⟩ (.int .i64 ((n1 : Int) + 1))) r1 < l.length + 1 - itSeen wr r1) := ⟨by
          have h1 := HIt7.out.seen
          rw [h1.1, HM6.out]
          have := h1.2
          rw [List.length_append] at this ⊢
          simp at this ⊢
          omega⟩
        clear hh kt HO6 HR6 HIt6 K6 HN o0 o1 o2 o3 f0 f1 f2 f3
        go_roundw
        case rel => exact ⟨V ++ [j], n0, n1 + 1, n2, n3, HIt7, HO7, HR7, HN7, K7⟩
        case measure => exact HM7.out
      · have HN7 : Box (∀ c, c < 4 → [n0, n1, n2 + 1, n3].getD c 0 = cntV l cl (V ++ [j]) c) := ⟨fun c hc => by
          rw [cntV_snoc, Hcl.out, h4, ← HN.out c hc]
          have : c = 0 ∨ c = 1 ∨ c = 2 ∨ c = 3 := by omega
          rcases this with rfl | rfl | rfl | rfl <;> rfl⟩
        rw [h4]
        clear h4 ht4
        go_wp2_with fail
        have hh := heap_setCell_at HO6.out 2 (.int .i64 ((n2 : Int) + 1))
        have kt := (Keeps.refl (fun z => z = ob) w6).setCell (p := ⟨ob, 2, none⟩) (fun _ => rfl) (.int .i64 ((n2 : Int) + 1))
        have HO7 : Box ((w6.setCell ⟨ob, 2, none⟩ (.int .i64 ((n2 : Int) + 1))).heap[ob]? = some (.cells #[.int .i64 (n0 : Int), .int .i64 (n1 : Int), .int .i64 ((n2 + 1 : Nat) : Int), .int .i64 (n3 : Int)] 28 (0, 0))) := ⟨by simpa using hh⟩
        have HR7 := Box.mk (kt.heap HR6.out (by omega))
        have HIt7 := Box.mk (HIt6.out.keeps kt (by omega) (by omega))
        have K7 : Box (Keeps (fun _ => False) w (w6.setCell ⟨ob, 2, none⟩ (.int .i64 ((n2 : Int) + 1)))) := ⟨K6.out.trans' kt (fun i hi e => by have := Hrb.out; omega)⟩
        have HM7 : Box (l.length + 1 - itSeen (w6.setCell ⟨ob, 2, none⟩ (.int .i64 ((n2 : Int) + 1))) r1 < l.length + 1 - itSeen wr r1) := ⟨by
          have h1 := HIt7.out.seen
          rw [h1.1, HM6.out]
          have := h1.2
          rw [List.length_append] at this ⊢
          simp at this ⊢
          omega⟩
        clear hh kt HO6 HR6 HIt6 K6 HN o0 o1 o2 o3 f0 f1 f2 f3
        go_roundw
        case rel => exact ⟨V ++ [j], n0, n1, n2 + 1, n3, HIt7, HO7, HR7, HN7, K7⟩
        case measure => exact HM7.out
      · have HN7 : Box (∀ c, c < 4 → [n0, n1, n2, n3 + 1].getD c 0 = cntV l cl (V ++ [j]) c) := ⟨fun c hc => by
          rw [cntV_snoc, Hcl.out, h4, ← HN.out c hc]
          have : c = 0 ∨ c = 1 ∨ c = 2 ∨ c = 3 := by omega
          rcases this with rfl | rfl | rfl | rfl <;> rfl⟩
        rw [h4]
        clear h4 ht4
        go_wp2_with fail
        have hh := heap_setCell_at HO6.out 3 (.int .i64 ((n3 : Int) + 1))
        have kt := (Keeps.refl (fun z => z = ob) w6).setCell (p := ⟨ob, 3, none⟩) (fun _ => rfl) (.int .i64 ((n3 : Int) + 1))
        have HO7 : Box ((w6.setCell ⟨ob, 3, none⟩ (.int .i64 ((n3 : Int) + 1))).heap[ob]? = some (.cells #[.int .i64 (n0 : Int), .int .i64 (n1 : Int), .int .i64 (n2 : Int), .int .i64 ((n3 + 1 : Nat) : Int)] 28 (0, 0))) := ⟨by simpa using hh⟩
        have HR7 := Box.mk (kt.heap HR6.out (by omega))
        have HIt7 := Box.mk (HIt6.out.keeps kt (by omega) (by omega))
        have K7 : Box (Keeps (fun _ => False) w (w6.setCell ⟨ob, 3, none⟩ (.int .i64 ((n3 : Int) + 1)))) := ⟨K6.out.trans' kt (fun i hi e => by have := Hrb.out; omega)⟩
        have HM7 : Box (l.length + 1 - itSeen (w6.setCell ⟨ob, 3, none⟩ (.int .i64 ((n3 : Int) + 1))) r1 < l.length + 1 - itSeen wr r1) := ⟨by
          have h1 := HIt7.out.seen
          rw [h1.1, HM6.out]
          have := h1.2
          rw [List.length_append] at this ⊢
          simp at this ⊢
          omega⟩
        clear hh kt HO6 HR6 HIt6 K6 HN o0 o1 o2 o3 f0 f1 f2 f3
        go_roundw
        case rel => exact ⟨V ++ [j], n0, n1, n2, n3 + 1, HIt7, HO7, HR7, HN7, K7⟩
        case measure => exact HM7.out

end Go.Proofs.Ytbjlapfcnldpoaa

/- What TreadFlip's walk asks: the configuration in memory, measures, the set of those that live. No program in sight. -/
namespace Go.Proofs.Ytbjlapfcnldpoaa
set_option linter.unusedVariables false
set_option linter.unusedSimpArgs false
open Go.RowKit

set_option maxRecDepth 100000 in
theorem conf_of_reads {w : World} {v : Value} (h : Reads Try.prog w 47 v) : ∃ c0 c1 c2 c3 k : Int, v = .agg #[.int .i64 c0, .int .i64 c1, .int .i64 c2, .int .i64 c3, .int .i64 k] := by
  obtain ⟨n, ht⟩ := h.tr
  obtain ⟨m, rfl, hl, hf⟩ := ht.struct Try.underlying47
  have hC : Try.prog.cellsOf 47 = 5 := by kernel_rfl
  have hA : Try.prog.cellsOf 28 = 4 := by kernel_rfl
  have hI : Try.prog.cellsOf 3 = 1 := by kernel_rfl
  rw [hC] at hl
  have h0 := hf 0 _ rfl
  have h1 := hf 1 _ rfl
  have h0' : TR Try.prog w m 28 ((v.cells.toList.drop 0).take 4) := by rw [← hA]; exact h0
  have h1' : TR Try.prog w m 3 ((v.cells.toList.drop 4).take 1) := by rw [← hI]; exact h1
  obtain ⟨m2, -, -, ha⟩ := h0'.array Try.underlying28
  rw [hI] at ha
  obtain ⟨x0, e0, -⟩ := (ha 0 (by omega)).int Try.underlying3
  obtain ⟨x1, e1, -⟩ := (ha 1 (by omega)).int Try.underlying3
  obtain ⟨x2, e2, -⟩ := (ha 2 (by omega)).int Try.underlying3
  obtain ⟨x3, e3, -⟩ := (ha 3 (by omega)).int Try.underlying3
  obtain ⟨x4, e4, -⟩ := h1'.int Try.underlying3
  refine ⟨x0, x1, x2, x3, x4, ?_⟩
  cases v with
  | agg cs =>
    have hcs : cs.toList.length = 5 := hl
    have hc2 : (Value.agg cs).cells.toList = cs.toList := rfl
    rw [hc2] at e0 e1 e2 e3 e4
    obtain ⟨l, hl2⟩ : ∃ l, cs.toList = l := ⟨_, rfl⟩
    rw [hl2] at hcs e0 e1 e2 e3 e4
    match l, hcs with
    | [a0, a1, a2, a3, a4], _ =>
      simp at e0 e1 e2 e3 e4
      have : cs = #[a0, a1, a2, a3, a4] := by rw [← Array.toArray_toList (xs := cs), hl2]
      rw [this, e0, e1, e2, e3, e4]
  | _ => simp [Value.cells] at hl

def isTrue : Value → Bool
  | .bool b => b
  | _ => false
/-- White and grey cells, and whether it marks, read in memory. -/
def gwW (w : World) (hb : Nat) : Nat := match w.heap[hb]? with
  | some (.cells cs _ _) => (intOf (cs.getD 12 undef)).toNat + (intOf (cs.getD 13 undef)).toNat + (intOf (cs.getD 16 undef)).toNat + (intOf (cs.getD 17 undef)).toNat + (intOf (cs.getD 20 undef)).toNat + (intOf (cs.getD 21 undef)).toNat + (intOf (cs.getD 24 undef)).toNat + (intOf (cs.getD 25 undef)).toNat + (if isTrue (cs.getD 40 undef) then 1 else 0)
  | _ => 0
theorem IsTH.gw {w : World} {hb b g : Nat} {s : TH} (h : IsTH w hb b g s) : gwW w hb = gwS s := by
  unfold gwW
  rw [h.head]
  simp only
  have key : ∀ i, i < 16 → ((hcells b s).toArray).getD (10 + i) undef = .int .i64 (s.lists.getD i 0 : Nat) := fun i hi => by
    have := hc_lists b h.ls hi
    simp only [Array.getD_eq_getD_getElem?, List.getElem?_toArray, this]
    rfl
  have k2 := key 2 (by omega); have k3 := key 3 (by omega); have k6 := key 6 (by omega); have k7 := key 7 (by omega)
  have k10 := key 10 (by omega); have k11 := key 11 (by omega); have k14 := key 14 (by omega); have k15 := key 15 (by omega)
  have km : ((hcells b s).toArray).getD 40 undef = .bool s.marking := by
    have := hc_tail b h.ls 2
    simp only [Array.getD_eq_getD_getElem?, List.getElem?_toArray]
    rw [show (40 : Nat) = 38 + 2 from rfl, this]
    rfl
  rw [k2, k3, k6, k7, k10, k11, k14, k15, km]
  unfold gwS lget isTrue
  simp [intOf]

/-- The set's map, in memory. -/
structure IsMp (w : World) (mb : Nat) (l : List Nat) : Prop where
  map : ∃ es : Array MapEntry, w.heap[mb]? = some (.map es l.length) ∧ es.toList = pents l 0
  nd : l.Nodup
theorem IsMp.keeps {w w' : World} {mb : Nat} {l : List Nat} {S : Nat → Prop} (h : IsMp w mb l) (k : Keeps S w w') (hs : ¬ S mb) : IsMp w' mb l := by
  obtain ⟨es, h1, h2⟩ := h.map
  exact ⟨⟨es, k.heap h1 hs, h2⟩, h.nd⟩
theorem IsMp.notCells {w : World} {mb : Nat} {l : List Nat} (h : IsMp w mb l) (cs : Array Value) (t : TypeId) : ¬ w.heap[mb]? = some (.cells cs t (0, 0)) := fun e => by
  obtain ⟨es, h1, h2⟩ := h.map
  rw [h1] at e; cases e
theorem IsMp.lt {w : World} {mb : Nat} {l : List Nat} (h : IsMp w mb l) : mb < w.heap.size := by
  obtain ⟨es, h1, h2⟩ := h.map
  exact lt_of_heap h1
theorem IsSet.mp {w : World} {mb : Nat} {l : List Nat} (h : IsSet w mb l) : IsMp w mb l := ⟨h.map, h.nd⟩
/-- The world's doings leave the set. -/
theorem foot_ne {w : World} {xb hb b g mb : Nat} {P : PSt} {T l : List Nat} (hX : IsX w xb hb b g P T) (hm : IsMp w mb l) : Foot w xb hb b g P.G.all.length T (fun z => z ≠ mb) := by
  have hn := hm.notCells
  obtain ⟨av, base, hx, ho⟩ := hX.rx.head
  refine ⟨fun e => ?_, fun z hz e => ?_, fun z l c e hzm => ?_, fun i hi z l c e hzm => ?_, fun z hz e => ?_⟩
  · subst e; exact hn _ _ hx
  · subst e
    obtain ⟨c, kk, hs⟩ := hX.th.iw
    obtain ⟨cs, hcs⟩ := own_type hs.row (z := g) rfl
    rcases hz with rfl | rfl | rfl
    · exact hn _ _ hX.th.head
    · exact hn _ _ hs.head
    · exact hn _ _ hcs
  · subst hzm
    have h17 : w.cell? ⟨xb, 17, none⟩ = some av := by rw [cell_of_heap hx, List.getElem?_toArray]; exact (xcells_at hX.rx.wf.len).2.1
    rw [h17] at e
    injection e with e
    subst e
    obtain ⟨cs, hcs⟩ := own_type ho (z := z) rfl
    exact hn _ _ hcs
  · subst hzm
    obtain ⟨fv, fb, q1, q2⟩ := hX.rx.thing i _ (List.getElem?_eq_getElem hi)
    rw [cell_of_heap q1] at e
    simp only [List.getElem?_toArray, List.getElem?_cons_zero, List.getElem?_cons_succ, Option.some.injEq] at e
    subst e
    obtain ⟨cs, hcs⟩ := own_type q2 (z := z) rfl
    exact hn _ _ hcs
  · subst e
    have := hm.lt
    omega
theorem XSaid.mp {w w' : World} {xb hb b g mb : Nat} {P P' : PSt} {T l : List Nat} {e : Ending} (k : XSaid w xb hb b g P.G.all.length T P' e w') (hX : IsX w xb hb b g P T) (hm : IsMp w mb l) : IsMp w' mb l := by
  obtain ⟨-, T', -, h3, -⟩ := k
  exact hm.keeps (h3 _ (foot_ne hX hm)).2 (fun h => h rfl)
theorem Own.stepN {w0 w w' : World} {xb hb b g r : Nat} {P : PSt} {T : List Nat} (h : Own w0 w xb hb b g P T) (k : Keeps (fun z => z = r) w w') (hr : w0.heap.size ≤ r) (hnc : ∀ cs t, ¬ w.heap[r]? = some (.cells cs t (0, 0))) : Own w0 w' xb hb b g P T := by
  have hX := h.isX
  have hX' : IsX w' xb hb b g P T := ⟨hX.rx.keepsT k (fun z cs t e hz => by subst e; exact absurd hz (hnc _ _)), hX.th.keepsX k (fun z cs t e hz => by subst e; exact absurd hz (hnc _ _)), hX.sep.keepsT hX.rx k (fun z cs e hz => by subst e; exact hnc _ _ hz)⟩
  have hx : w'.cell? ⟨xb, 17, none⟩ = w.cell? ⟨xb, 17, none⟩ := k.same hX.rx.lt (fun e => by
    obtain ⟨av, base, hh, -⟩ := hX.rx.head
    exact hnc _ _ (by rw [← e]; exact hh))
  have hT : ∀ i, i < P.G.all.length → w'.cell? ⟨T.getD i 0, 1, none⟩ = w.cell? ⟨T.getD i 0, 1, none⟩ := fun i hi => k.same (hX.rx.isTlt hi) (fun e => by
    obtain ⟨cs, hcs⟩ := hX.rx.isT hi
    exact hnc _ _ (by rw [← e]; exact hcs))
  have f := h.foot
  exact ⟨hX', ⟨f.x, f.h, fun z l c e => f.all z l c (by rw [← hx]; exact e), fun i hi z l c e => f.fld i hi z l c (by rw [← hT i hi]; exact e), fun z hz => f.new z (Nat.le_trans k.size hz)⟩, h.keeps.trans (k.mono (fun i _ e => by rw [e]; exact hr))⟩

/-- The end of a cycle. -/
structure FlipE (lv : Nat → Prop) (m0 cyc : Nat) (P : PSt) (L : Nat → Nat → List Nat) : Prop where
  cyc : P.s.cycles = cyc + 1
  one : ∀ v, colOf L v = 1 ↔ SPs lv m0 P v
  two : ∀ v, colOf L v = 0 ∨ colOf L v = 1
  isC : ∀ i, Lvs lv m0 P.G i → IsC P.s.count (clsOf P.G i) (P.U.getD i 0)
  inj : ∀ i j, Lvs lv m0 P.G i → Lvs lv m0 P.G j → P.U.getD i 0 = P.U.getD j 0 → i = j
  m : m0 ≤ P.G.all.length
/-- The set has just those things of the snapshot. -/
theorem flip_count {lv : Nat → Prop} {m0 cyc : Nat} {P : PSt} {L : Nat → Nat → List Nat} {T l : List Nat} (h : St P.s L) (hE : FlipE lv m0 cyc P L) (hT : T.length = P.G.all.length) (hnd : T.Nodup) (hl : l.Nodup) (hm : ∀ a, a ∈ l ↔ ∃ i, Lvs lv m0 P.G i ∧ a = T.getD i 0) (cl : Nat → Nat) (hcl : ∀ i, i < P.G.all.length → cl (T.getD i 0) = clsOf P.G i) {c : Nat} (hc : c < 4) :
    lget P.s c 0 + (l.filter (fun a => decide (cl a = c))).length = P.s.count.getD c 0 := by
  have hinj : ∀ i j, i < T.length → j < T.length → T.getD i 0 = T.getD j 0 → i = j := fun i j hi hj e => by
    simp only [List.getD, List.getElem?_eq_getElem hi, List.getElem?_eq_getElem hj, Option.getD_some] at e
    exact nodup_get hnd hi hj e
  have hlt : ∀ i, Lvs lv m0 P.G i → i < T.length := fun i hi => by have := hi.lt hE.m; omega
  obtain ⟨I, hI⟩ : ∃ I, (List.range T.length).filter (fun i => decide (T.getD i 0 ∈ l ∧ clsOf P.G i = c)) = I := ⟨_, rfl⟩
  have hIm : ∀ i, i ∈ I ↔ Lvs lv m0 P.G i ∧ clsOf P.G i = c := fun i => by
    rw [← hI, List.mem_filter, List.mem_range]
    simp only [decide_eq_true_eq]
    constructor
    · rintro ⟨h1, h2, h3⟩
      obtain ⟨j, hj, e⟩ := (hm _).1 h2
      have := hinj i j h1 (hlt j hj) e
      subst this
      exact ⟨hj, h3⟩
    · rintro ⟨h1, h2⟩
      exact ⟨hlt i h1, (hm _).2 ⟨i, h1, rfl⟩, h2⟩
  have hIn : I.Nodup := by rw [← hI]; exact nodup_filter _ List.nodup_range
  rw [← flip_free (cyc := cyc) h hE.one hE.two hE.isC hE.inj hc I hIn hIm]
  congr 1
  have hmn : (I.map (fun i => T.getD i 0)).Nodup := nodup_mapon (fun i hi j hj e => hinj i j (hlt i ((hIm i).1 hi).1) (hlt j ((hIm j).1 hj).1) e) hIn
  apply Nat.le_antisymm
  · have := nodup_le (l.filter (fun a => decide (cl a = c))) (I.map (fun i => T.getD i 0)) (nodup_filter _ hl) (fun a ha => by
      rw [List.mem_filter] at ha
      obtain ⟨i, hi, e⟩ := (hm a).1 ha.1
      have h2 := of_decide_eq_true ha.2
      rw [e, hcl i (hi.lt hE.m)] at h2
      exact List.mem_map.2 ⟨i, (hIm i).2 ⟨hi, h2⟩, e.symm⟩)
    simpa using this
  · have := nodup_le (I.map (fun i => T.getD i 0)) (l.filter (fun a => decide (cl a = c))) hmn (fun a ha => by
      obtain ⟨i, hi, rfl⟩ := List.mem_map.1 ha
      obtain ⟨h1, h2⟩ := (hIm i).1 hi
      rw [List.mem_filter]
      exact ⟨(hm _).2 ⟨i, h1, rfl⟩, decide_eq_true (by rw [hcl i (h1.lt hE.m)]; exact h2)⟩)
    simpa using this

end Go.Proofs.Ytbjlapfcnldpoaa

