/- Part 10 of 10 of this proof's own texts, joined in build order by a program. -/
import Derived.Test.YtbjlapfcnldpoaaZ9
import Derived.Test.YtbjlapfcnldpoaaZ8
import Derived.Test.YtbjlapfcnldpoaaZ3
import Derived.Deep.RegionHeld3
import Derived.Test.YtbjlapfcnldpoaaZ1
import Derived.Deep.Slices
import Derived.Deep.Fields
import Derived.ChangeSame
import Derived.OpenShut
import Derived.Test.YtbjlapfcnldpoaaZ4
/- Law 5's begin, may and long, by their contracts. -/
namespace Go.Proofs.Ytbjlapfcnldpoaa
set_option linter.unusedVariables false
set_option linter.unusedSimpArgs false
open Go.RowKit

/-- At the begin: no things. -/
def PSt.new (s : TH) : PSt := ⟨⟨List.replicate 8 (.num 12), []⟩, [], s, false⟩
def begG (j : Nat) : PG := ⟨List.replicate j (.num 12) ++ List.replicate (8 - j) (.num 0), []⟩
theorem begG_wf {j : Nat} (hj : j ≤ 8) : (begG j).WF := by
  refine ⟨fun i hi => ?_, (fun t ht => by cases ht), ?_, (fun t ht => by cases ht), (fun t ht => by cases ht)⟩
  · rcases List.mem_append.1 hi with e | e
    · have := List.eq_of_mem_replicate e; cases this
    · have := List.eq_of_mem_replicate e; cases this
  · simp [begG]; omega
theorem begG_set {j : Nat} (hj : j < 8) : (begG j).regs.set j (.num 12) = (begG (j + 1)).regs := by
  have : j = 0 ∨ j = 1 ∨ j = 2 ∨ j = 3 ∨ j = 4 ∨ j = 5 ∨ j = 6 ∨ j = 7 := by omega
  rcases this with rfl | rfl | rfl | rfl | rfl | rfl | rfl | rfl <;> rfl
theorem PSt.new_noPR {s : TH} : ∀ i, ¬ PR (PSt.new s).G i := by
  intro i h
  have hreg : ∀ i, PV.ref i ∉ (PSt.new s).G.regs := fun i hi => by have := List.eq_of_mem_replicate hi; cases this
  induction h with
  | reg h => exact hreg _ h
  | fld _ ht _ _ ih => exact ih
  | weakN _ ht _ _ _ ih => exact ih
  | weakR _ ht _ _ _ _ ih => exact ih
theorem Inv.new {s : TH} {L : Nat → Nat → List Nat} (h : St s L) (hk : s.k ≤ 64) (hr : s.roots = List.replicate 12 12) : Inv (PSt.new s) L := by
  refine ⟨h, ?_, rfl, hr, fun i t hi => absurd hi (PSt.new_noPR i), (fun t ht => by cases ht), fun i j hi => absurd hi (PSt.new_noPR i), fun x hx => ?_, (fun t ht => by cases ht), hk⟩
  · exact begG_wf (j := 8) (by omega)
  · have := List.eq_of_mem_replicate hx
    injection this with this
    rw [this]; exact numOK12
structure BeginSaid (s : TH) (w : World) (e : Ending) (w' : World) : Prop where
  said : ∃ xb hb b g, e = .returned (.pointer (some ⟨xb, 0, none⟩)) ∧ IsX w' xb hb b g (PSt.new s) [] ∧ (w.heap.size ≤ xb ∧ w.heap.size ≤ hb ∧ w.heap.size ≤ b ∧ w.heap.size ≤ g) ∧ w'.cell? ⟨xb, 17, none⟩ = some (.slice none 0 0)
  keeps : Keeps (fun _ => False) w w'
/-- The world and its heap, made since w0: nothing but they, and what is new, was written. -/
structure Own (w0 w : World) (xb hb b g : Nat) (P : PSt) (T : List Nat) : Prop where
  isX : IsX w xb hb b g P T
  foot : Foot w xb hb b g P.G.all.length T (fun z => w0.heap.size ≤ z)
  keeps : Keeps (fun z => w0.heap.size ≤ z) w0 w
theorem Own.said {w0 w w' : World} {xb hb b g : Nat} {P P' : PSt} {T : List Nat} {e : Ending} (h : Own w0 w xb hb b g P T) (k : XSaid w xb hb b g P.G.all.length T P' e w') : e = .returned (.tuple #[]) ∧ ∃ T', Own w0 w' xb hb b g P' T' ∧ (T' = T ∨ ∃ a, T' = T ++ [a] ∧ w.heap.size ≤ a) := by
  obtain ⟨h1, T', h2, h3, h4⟩ := k
  obtain ⟨f1, f2⟩ := h3 _ h.foot
  exact ⟨h1, T', ⟨h2, f1, h.keeps.trans f2⟩, h4⟩
theorem BeginSaid.own {w0 w w' : World} {s : TH} {e : Ending} (k : BeginSaid s w e w') (h : Keeps (fun z => w0.heap.size ≤ z) w0 w) : ∃ xb hb b g, e = .returned (.pointer (some ⟨xb, 0, none⟩)) ∧ Own w0 w' xb hb b g (PSt.new s) [] ∧ w.heap.size ≤ xb := by
  obtain ⟨⟨xb, hb, b, g, h1, h2, h3, h4⟩, h5⟩ := k
  have hs := h.size
  have hs2 := h5.size
  refine ⟨xb, hb, b, g, h1, ⟨h2, ⟨by omega, fun z hz => ?_, fun z l c e => ?_, (fun i hi => by cases hi), fun z hz => by omega⟩, h.trans (h5.mono (fun _ _ h => h.elim))⟩, h3.1⟩
  · rcases hz with rfl | rfl | rfl <;> omega
  · rw [h4] at e
    simp at e
theorem Own.step0 {w0 w w' : World} {xb hb b g : Nat} {P : PSt} {T : List Nat} (h : Own w0 w xb hb b g P T) (k : Keeps (fun _ => False) w w') : Own w0 w' xb hb b g P T := by
  obtain ⟨f1, f2⟩ := ((FK.refl xb hb b g P.G.all.length T w).step0 h.isX.rx k) _ h.foot
  exact ⟨h.isX.keeps0 k, f1, h.keeps.trans f2⟩
theorem Own.seen {w0 w w' : World} {xb hb b g : Nat} {P : PSt} {T : List Nat} {v : Value} {e : Ending} (h : Own w0 w xb hb b g P T) (k : SeenSaid w xb hb b g P T v e w') : e = .returned v ∧ Own w0 w' xb hb b g P T := by
  obtain ⟨h1, h2, h3⟩ := k
  obtain ⟨f1, f2⟩ := h3 _ h.foot
  exact ⟨h1, h2, f1, h.keeps.trans f2⟩
theorem Own.stepF {w0 w w' : World} {xb hb b g : Nat} {P : PSt} {T : List Nat} {s' : TH} {bf : Bool} (h : Own w0 w xb hb b g P T) (hI : IsTH w' hb b g s') (hbf : bf = P.full) (k : Keeps (foot3 hb b g) w w') : Own w0 w' xb hb b g { P with s := s', full := bf } T := by
  subst hbf
  obtain ⟨f1, f2⟩ := ((FK.refl xb hb b g P.G.all.length T w).stepF h.isX.rx h.isX.th k) _ h.foot
  exact ⟨⟨h.isX.rx.heap h.isX.th k, hI, h.isX.sep.keepsT h.isX.rx k (foot3_notT h.isX.th)⟩, f1, h.keeps.trans f2⟩

set_option maxRecDepth 100000 in
set_option maxHeartbeats 4000000 in
theorem begin_is {c0 c1 c2 c3 k : Nat} {s : TH} {w : World} (h0 : c0 ≤ 4000) (h1 : c1 ≤ 4000) (h2 : c2 ≤ 4000) (h3 : c3 ≤ 4000) (hk1 : 1 ≤ k) (hk2 : k ≤ 64) (hs : tlay (pre c0 c1 c2 c3 k) = some s) :
    Calls Try.prog 28 #[.agg #[.int .i64 (c0 : Int), .int .i64 (c1 : Int), .int .i64 (c2 : Int), .int .i64 (c3 : Int), .int .i64 (k : Int)]] w (BeginSaid s w) := by
  obtain ⟨wb, hwb⟩ : ∃ wb, w.alloc (.cells #[.int .i64 (c0 : Int), .int .i64 (c1 : Int), .int .i64 (c2 : Int), .int .i64 (c3 : Int), .int .i64 (k : Int)] 47) = wb := ⟨_, rfl⟩
  have kb : Keeps (fun _ => False) w wb := by rw [← hwb]; exact (Keeps.refl _ w).alloc _
  have KB := Box.mk kb
  have HN := Box.mk (tnew_is (w := wb) h0 h1 h2 h3 hk1 hk2 hs)
  have hbx : wb.heap[w.heap.size]? = some (.cells #[.int .i64 (c0 : Int), .int .i64 (c1 : Int), .int .i64 (c2 : Int), .int .i64 (c3 : Int), .int .i64 (k : Int)] 47 (0, 0)) := by rw [← hwb]; exact heap_alloc_new w _
  have b0 := cell_of_heap hbx 0
  have b1 := cell_of_heap hbx 1
  have b2 := cell_of_heap hbx 2
  have b3 := cell_of_heap hbx 3
  have b4 := cell_of_heap hbx 4
  simp only [List.getElem?_toArray, List.getElem?_cons_zero, List.getElem?_cons_succ] at b0 b1 b2 b3 b4
  clear hs kb hbx
  go_enter Try.func28, Try.ntmps28
  go_wp2_with fail
  clear hwb
  refine HN.out.mono ?_
  rintro e w1 ⟨hb, b, g, rfl, hI1, k1, q1, q2, q3⟩
  obtain ⟨xb, hxb⟩ : ∃ xb, w1.heap.size = xb := ⟨_, rfl⟩
  obtain ⟨w2, hw2⟩ : ∃ w2, w1.alloc (.cells (xcells hb (begG 0) [] (.slice none 0 0) false false).toArray 62) = w2 := ⟨_, rfl⟩
  have k2 : Keeps (fun _ => False) w1 w2 := by rw [← hw2]; exact (Keeps.refl _ w1).alloc _
  have HR2 : Box (RX w2 xb hb (begG 0) [] [] false false) := ⟨⟨⟨.slice none 0 0, 0, by rw [← hw2, ← hxb]; exact heap_alloc_new w1 _, World.ownsRow_nil _ _ _ _⟩, (fun i t ht => by cases ht), ⟨rfl, rfl⟩, begG_wf (by omega), List.nodup_nil⟩⟩
  have HI2 := Box.mk (hI1.keeps0 k2)
  have C17 : Box (w2.cell? ⟨xb, 17, none⟩ = some (.slice none 0 0)) := ⟨by
    have h : w2.heap[xb]? = some (.cells (xcells hb (begG 0) [] (.slice none 0 0) false false).toArray 62 (0, 0)) := by rw [← hw2, ← hxb]; exact heap_alloc_new w1 _
    rw [cell_of_heap h]; rfl⟩
  have K2 := Box.mk ((KB.out.trans k1).trans k2)
  have HB : Box (w.heap.size ≤ xb ∧ w.heap.size ≤ hb ∧ w.heap.size ≤ b ∧ w.heap.size ≤ g) := ⟨by have := KB.out.size; have := k1.size; omega⟩
  have hw2' := hw2
  unfold xcells begG at hw2'
  simp only [List.replicate, List.nil_append, List.flatMap_cons, List.flatMap_nil, pvc, pvw, pvp, List.cons_append, List.append_nil] at hw2'
  clear hI1 k1 k2 hw2
  have e0 : (((0 : Nat) : Int)) = 0 := rfl
  rw [e0] at hw2'
  clear e0 b0 b1 b2 b3 b4
  go_wp2_with fail
  clear hw2' hxb
  go_loopw [24] (fun i wr => ∃ (j : Nat), j ≤ 8 ∧ i = .int .i64 j ∧ Box (RX wr xb hb (begG j) [] [] false false) ∧ Box (IsTH wr hb b g s) ∧ Box (Keeps (fun _ => False) w wr) ∧ Box (wr.cell? ⟨xb, 17, none⟩ = some (.slice none 0 0))) (fun i _ => 8 - (intOf i).toNat)
  case atStart => exact ⟨0, by omega, rfl, HR2, HI2, K2, C17⟩
  case round =>
    clear HR2 HI2 K2 C17
    obtain ⟨j, hj, rfl, HR, HI, K, C17⟩ := hrel
    by_cases hj8 : j < 8
    · have hj0 : (0 : Int) ≤ (j : Int) := by omega
      have hj8I : (j : Int) < 8 := by omega
      obtain ⟨u1, c1, -⟩ := HR.out.cell (i := 1 + j * 2) (by omega)
      obtain ⟨u2, c2, -⟩ := HR.out.cell (i := 1 + j * 2 + 1) (by omega)
      have f1 := HR.out.frozen (1 + j * 2)
      have f2 := HR.out.frozen (1 + j * 2 + 1)
      go_wp2_with fail
      go_region_held3 (fun w' => True) (first | trivial | go_keep) (first | (go_at_call 24; refine (wvoid_is _).mono ?_; rintro e w5 ⟨rfl, rfl⟩) | fail)
      have hst := HR.out.setReg (r := j) hj8 (.num 12) (fun i e => nomatch e)
      have eG : ({ begG j with regs := (begG j).regs.set j (.num 12) } : PG) = begG (j + 1) := by
        have := begG_set hj8
        unfold begG at this ⊢
        simp only at this ⊢
        rw [this]
      rw [eG, show 1 + 2 * j = 1 + j * 2 from by omega, show 2 + 2 * j = 1 + j * 2 + 1 from by omega] at hst
      have hst1 : RX ((wr.setCell ⟨xb, 1 + j * 2, none⟩ (.int .u64 12)).setCell ⟨xb, 1 + j * 2 + 1, none⟩ (.pointer none)) xb hb (begG (j + 1)) [] [] false false ∧ Keeps (fun z => z = xb) wr ((wr.setCell ⟨xb, 1 + j * 2, none⟩ (.int .u64 12)).setCell ⟨xb, 1 + j * 2 + 1, none⟩ (.pointer none)) := hst
      have kd := (Keeps.refl (fun _ => False) ((wr.setCell ⟨xb, 1 + j * 2, none⟩ (.int .u64 12)).setCell ⟨xb, 1 + j * 2 + 1, none⟩ (.pointer none))).drew
      have HR5 := Box.mk (hst1.1.keeps0 kd)
      have HI5 := Box.mk ((HI.out.keepsX hst1.2 HR.out.xbX).keeps0 kd)
      have K5 := Box.mk ((K.out.trans' hst1.2 (fun i hi e => by have := HB.out; omega)).trans kd)
      have C5 : Box ((((wr.setCell ⟨xb, 1 + j * 2, none⟩ (.int .u64 12)).setCell ⟨xb, 1 + j * 2 + 1, none⟩ (.pointer none)).drew).cell? ⟨xb, 17, none⟩ = some (.slice none 0 0)) := ⟨by
        show ((wr.setCell ⟨xb, 1 + j * 2, none⟩ (.int .u64 12)).setCell ⟨xb, 1 + j * 2 + 1, none⟩ (.pointer none)).cell? ⟨xb, 17, none⟩ = _
        rw [World.cell?_setCell_other _ _ _ _ (fun e => by injection e with _ e2 _; omega), World.cell?_setCell_other _ _ _ _ (fun e => by injection e with _ e2 _; omega)]
        exact C17.out⟩
      clear hst hst1 kd eG HR HI K C17 c1 c2 f1 f2
      go_wp2_with fail
      go_roundw
      case rel => exact ⟨j + 1, by omega, by go_num, HR5, HI5, K5, C5⟩
      case measure => simp [intOf]; omega
    · have hj8e : j = 8 := by omega
      subst hj8e
      have eG : begG 8 = (PSt.new s).G := rfl
      rw [eG] at HR
      clear eG
      go_wp2_with fail
      go_ret
      exact ⟨⟨xb, hb, b, g, rfl, ⟨HR.out, HI.out, fun i j hi => by cases hi⟩, HB.out, C17.out⟩, K.out⟩

/-- May it be a configuration? -/
structure MaySaid (c0 c1 c2 c3 k : Int) (w : World) (e : Ending) (w' : World) : Prop where
  said : ∃ bl : Bool, e = .returned (.bool bl) ∧ (bl = true → 0 ≤ c0 ∧ c0 ≤ 300 ∧ 0 ≤ c1 ∧ c1 ≤ 300 ∧ 0 ≤ c2 ∧ c2 ≤ 300 ∧ 0 ≤ c3 ∧ c3 ≤ 300 ∧ 1 ≤ k ∧ k ≤ 64)
  keeps : Keeps (fun _ => False) w w'
theorem long_is {a : Option Addr} {n cap : Nat} (w : World) : Calls Try.prog 27 #[.slice a n cap] w fun e w' => e = .returned (.bool (decide ((300 : Int) < (n : Int)))) ∧ w' = w := by
  go_enter Try.func27, Try.ntmps27
  go_wp2_with fail
  go_ret
  exact ⟨rfl, rfl⟩
theorem idx4_0 (c0 c1 c2 c3 : Value) (w : World) : (Instr.index 28 (.agg #[c0, c1, c2, c3]) (.int .i64 0)).run Try.prog w = .ok c0 w := by kernel_rfl
theorem idx4_1 (c0 c1 c2 c3 : Value) (w : World) : (Instr.index 28 (.agg #[c0, c1, c2, c3]) (.int .i64 1)).run Try.prog w = .ok c1 w := by kernel_rfl
theorem idx4_2 (c0 c1 c2 c3 : Value) (w : World) : (Instr.index 28 (.agg #[c0, c1, c2, c3]) (.int .i64 2)).run Try.prog w = .ok c2 w := by kernel_rfl
theorem idx4_3 (c0 c1 c2 c3 : Value) (w : World) : (Instr.index 28 (.agg #[c0, c1, c2, c3]) (.int .i64 3)).run Try.prog w = .ok c3 w := by kernel_rfl
set_option maxRecDepth 100000 in
set_option maxHeartbeats 4000000 in
theorem may_is (c0 c1 c2 c3 k : Int) (w : World) : Calls Try.prog 26 #[.agg #[.int .i64 c0, .int .i64 c1, .int .i64 c2, .int .i64 c3, .int .i64 k]] w (MaySaid c0 c1 c2 c3 k w) := by
  have i0 := idx4_0 (.int .i64 c0) (.int .i64 c1) (.int .i64 c2) (.int .i64 c3)
  have i1 := idx4_1 (.int .i64 c0) (.int .i64 c1) (.int .i64 c2) (.int .i64 c3)
  have i2 := idx4_2 (.int .i64 c0) (.int .i64 c1) (.int .i64 c2) (.int .i64 c3)
  have i3 := idx4_3 (.int .i64 c0) (.int .i64 c1) (.int .i64 c2) (.int .i64 c3)
  have K := Box.mk ((Keeps.refl (fun _ => False) w).alloc (.cells #[.int .i64 c0, .int .i64 c1, .int .i64 c2, .int .i64 c3, .int .i64 k] 47))
  go_enter Try.func26, Try.ntmps26
  go_wp2_with fail
  refine wp_loop_rounds 5 ?_
  rw [rounds_succ]
  rcases (show c0 < 0 ∨ (300 < c0 ∧ 0 ≤ c0) ∨ (0 ≤ c0 ∧ c0 ≤ 300) by omega) with h0 | ⟨h0, g0⟩ | ⟨h0, g0⟩
  · go_wp2_with fail
    go_ret
    exact ⟨⟨false, rfl, fun h => by cases h⟩, K.out⟩
  · go_wp2_with fail
    go_ret
    exact ⟨⟨false, rfl, fun h => by cases h⟩, K.out⟩
  · go_wp2_with fail
    rw [rounds_succ]
    rcases (show c1 < 0 ∨ (300 < c1 ∧ 0 ≤ c1) ∨ (0 ≤ c1 ∧ c1 ≤ 300) by omega) with h1 | ⟨h1, g1⟩ | ⟨h1, g1⟩
    · go_wp2_with fail
      go_ret
      exact ⟨⟨false, rfl, fun h => by cases h⟩, K.out⟩
    · go_wp2_with fail
      go_ret
      exact ⟨⟨false, rfl, fun h => by cases h⟩, K.out⟩
    · go_wp2_with fail
      rw [rounds_succ]
      rcases (show c2 < 0 ∨ (300 < c2 ∧ 0 ≤ c2) ∨ (0 ≤ c2 ∧ c2 ≤ 300) by omega) with h2 | ⟨h2, g2⟩ | ⟨h2, g2⟩
      · go_wp2_with fail
        go_ret
        exact ⟨⟨false, rfl, fun h => by cases h⟩, K.out⟩
      · go_wp2_with fail
        go_ret
        exact ⟨⟨false, rfl, fun h => by cases h⟩, K.out⟩
      · go_wp2_with fail
        rw [rounds_succ]
        rcases (show c3 < 0 ∨ (300 < c3 ∧ 0 ≤ c3) ∨ (0 ≤ c3 ∧ c3 ≤ 300) by omega) with h3 | ⟨h3, g3⟩ | ⟨h3, g3⟩
        · go_wp2_with fail
          go_ret
          exact ⟨⟨false, rfl, fun h => by cases h⟩, K.out⟩
        · go_wp2_with fail
          go_ret
          exact ⟨⟨false, rfl, fun h => by cases h⟩, K.out⟩
        · go_wp2_with fail
          rw [rounds_succ]
          by_cases h4 : k < 1
          · go_wp2_with fail
            go_ret
            exact ⟨⟨false, rfl, fun h => by cases h⟩, K.out⟩
          · have h4' : 1 ≤ k := by omega
            clear h4
            go_wp2_with fail
            go_ret
            exact ⟨⟨decide (k ≤ 64), rfl, fun h => ⟨h0, g0, h1, g1, h2, g2, h3, g3, h4', of_decide_eq_true h⟩⟩, K.out⟩

end Go.Proofs.Ytbjlapfcnldpoaa

/- TreadRoom's plain law: where never more than most are reached, there is room. No program in sight. -/
namespace Go.Proofs.Ytbjlapfcnldpoaa
set_option linter.unusedVariables false
set_option linter.unusedSimpArgs false
open Go.RowKit

theorem nodup_get {l : List Nat} (h : l.Nodup) {i j : Nat} (hi : i < l.length) (hj : j < l.length) (e : l[i] = l[j]) : i = j := by
  have hp := List.pairwise_iff_getElem.1 h
  rcases Nat.lt_trichotomy i j with h1 | h1 | h1
  · exact absurd e (hp i j hi hj h1)
  · exact h1
  · exact absurd e.symm (hp j i hj hi h1)
theorem nodup_filter (p : Nat → Bool) {l : List Nat} (h : l.Nodup) : (l.filter p).Nodup := List.Pairwise.filter p h
theorem nodup_mapon {f : Nat → Nat} {l : List Nat} (hf : ∀ i ∈ l, ∀ j ∈ l, f i = f j → i = j) (h : l.Nodup) : (l.map f).Nodup := by
  induction l with
  | nil => exact List.nodup_nil
  | cons a l ih =>
    obtain ⟨h1, h2⟩ := List.nodup_cons.1 h
    refine List.nodup_cons.2 ⟨fun hm => ?_, ih (fun i hi j hj => hf i (List.mem_cons_of_mem _ hi) j (List.mem_cons_of_mem _ hj)) h2⟩
    obtain ⟨b, hb, e⟩ := List.mem_map.1 hm
    have := hf b (List.mem_cons_of_mem _ hb) a List.mem_cons_self e
    exact h1 (this ▸ hb)
/-- So many are reached at most. -/
def RB (most : Nat) (G : PG) : Prop := ∃ R : List Nat, R.Nodup ∧ (∀ i, i ∈ R ↔ PR G i) ∧ R.length ≤ most
def RoomQ (most k M : Nat) (P : PSt) (L : Nat → Nat → List Nat) : Prop := P.s.k = k ∧ (∀ c, c < 4 → most + 2 * M < P.s.count.getD c 0) ∧ ∃ mu tau, AccE P.s L most k M mu tau
theorem rb_cells {P : PSt} {L : Nat → Nat → List Nat} {most : Nat} (h : Inv P L) (hR : RB most P.G) : ∃ Rl : List Nat, (∀ v, Rch P.s v ↔ v ∈ Rl) ∧ Rl.length ≤ most := by
  obtain ⟨R, -, h2, h3⟩ := hR
  refine ⟨R.map (fun i => P.U.getD i 0), fun v => ⟨fun hv => ?_, fun hv => ?_⟩, by simpa using h3⟩
  · obtain ⟨i, hi, rfl⟩ := h.back hv
    exact List.mem_map.2 ⟨i, (h2 i).2 hi, rfl⟩
  · obtain ⟨i, hi, rfl⟩ := List.mem_map.1 hv
    exact h.rch ((h2 i).1 hi)
theorem rep_isC {s : TH} {L : Nat → Nat → List Nat} (h : St s L) {v k : Nat} (hv : colOf L v = k) (hk : k ≠ 0) : ∃ c, IsC s.count c v := by
  obtain ⟨c, hc, hm⟩ := col_ne0 hv hk
  have := colOf_le L v
  exact ⟨c, h.rep.rl.mem c k v hc (by omega) hm⟩
theorem track_room {most k M : Nat} (hk : 1 ≤ k) (hM : M = (most + 2) / k + 1) : Track (RB most) (RoomQ most k M) False := by
  refine ⟨fun P L n h hq hc hcy => ?_, fun P L h hq hc hcy => ?_, fun P L r v h hq hr hv => ?_, fun P L i t q v h hq hi ht hf hlt hv => ?_⟩
  · obtain ⟨Rl, hR1, hR2⟩ := rb_cells h hc
    obtain ⟨q1, q2, mu, tau, hA⟩ := hq
    obtain ⟨s1, L1, e1, st1, k1, mu', tau', hA', -⟩ := incr_acc n h.st hA hk hM hcy Rl hR1 hR2
    exact ⟨s1, L1, e1, st1, k1, fun b => ⟨k1.k.trans q1, fun c hc => by show _ < s1.count.getD c 0; rw [k1.count]; exact q2 c hc, mu', tau', hA'⟩⟩
  · obtain ⟨Rl, hR1, hR2⟩ := rb_cells h hc
    obtain ⟨q1, q2, mu, tau, hA⟩ := hq
    obtain ⟨s1, L1, e1, st1, k1, mu', tau', hA', hj⟩ := incr_acc P.s.k h.st hA hk hM hcy Rl hR1 hR2
    have hj0 : mu * k ≤ tau + k := by
      obtain ⟨Sl, Bl, A0, R, hA⟩ := hA
      exact hA.j
    have hj1 : mu' * k ≤ tau' := by
      rcases hj with ⟨rfl, rfl⟩ | rfl
      · rw [q1]; exact hj0
      · simp
    have hcnt : ∀ c, c < 4 → most + 2 * M < s1.count.getD c 0 := fun c hc => by rw [k1.count]; exact q2 c hc
    refine ⟨s1, L1, e1, st1, k1, Or.inr (fun c hc => acc_room st1 hA' hk hM hc (hcnt c hc)), fun b => ⟨k1.k.trans q1, hcnt, mu', tau', hA'⟩, fun r form n s2 L2 u hr hf hn tk => ⟨?_, fun c hc => ?_, mu' + 1, tau', ?_⟩⟩
    · show s2.k = k
      rw [tk.k, k1.k]; exact q1
    · show _ < s2.count.getD c 0
      rw [tk.count]; exact hcnt c hc
    · exact takeRoot_acc st1 hA' tk (by unfold fillv; split <;> simp) hf (by decide) hn hj1
  · obtain ⟨q1, q2, mu, tau, hA⟩ := hq
    exact ⟨q1, q2, mu, tau, setRoot_acc hA (fun c u hu e => hv.rch h c u hu e)⟩
  · obtain ⟨q1, q2, mu, tau, hA⟩ := hq
    have ho := h.obj i t hi ht
    have hle := szs_tcls ho.le
    obtain ⟨s', L', e1, k1, g1, g0, g3⟩ := set_ok2 h.st (x := pword P.U v) ho.isC ho.alive (by rw [ho.num]; exact hlt) (hv.small h) (fun _ c u hu e => (hv.rch h c u hu e).ok h.st)
    refine ⟨s', L', e1, k1, k1.k.trans q1, fun c hc => ?_, mu, tau, ?_⟩
    · show _ < s'.count.getD c 0
      rw [k1.count]; exact q2 c hc
    · refine set_acc hA k1 g1 g0 g3 ho.isC (by rw [ho.num]; exact hlt) (by omega) (fun v hv3 => ?_) (h.rch hi) (fun _ c u hu e => hv.rch h c u hu e)
      have := rep_isC k1.st hv3 (by omega)
      rwa [k1.count] at this

/-- The graphs of a script, where kinds 6 and 7 are left out. -/
def Gs (ops : Nat → POp) : Nat → PG
  | 0 => ⟨List.replicate 8 (.num 12), []⟩
  | j + 1 => if (ops j).kind = 6 ∨ (ops j).kind = 7 then Gs ops j else pdo (Gs ops j) (ops j)
theorem RB.mono {a b : Nat} {G : PG} (h : RB a G) (hab : a ≤ b) : RB b G := by
  obtain ⟨R, h1, h2, h3⟩ := h
  exact ⟨R, h1, h2, by omega⟩
theorem rb_start (ops : Nat → POp) (most : Nat) : RB most (Gs ops 0) :=
  ⟨[], List.nodup_nil, fun i => ⟨(fun h => by cases h), fun h => absurd h (PSt.new_noPR (s := ⟨[], [], [], [], 0, 0, false, 0, 0, 0, []⟩) i)⟩, Nat.zero_le _⟩
/-- Of a set of things, how many are reached. -/
theorem rb_of_set {w : World} {mb : Nat} {l T : List Nat} {G : PG} (h : IsSet w mb l) (hT : T.length = G.all.length) (hwf : G.WF) (him : ∀ a ∈ l, ∃ i, PR G i ∧ a = T.getD i 0) (hall : ∀ i, PR G i → T.getD i 0 ∈ l) (hnd : T.Nodup) : RB l.length G ∧ l.length ≤ G.all.length := by
  have hTi : ∀ i, i < T.length → T.getD i 0 ∈ T := fun i hi => by simp [List.getD, List.getElem?_eq_getElem hi]
  have hinj : ∀ i j, i < T.length → j < T.length → T.getD i 0 = T.getD j 0 → i = j := fun i j hi hj e => by
    simp only [List.getD, List.getElem?_eq_getElem hi, List.getElem?_eq_getElem hj, Option.getD_some] at e
    exact nodup_get hnd hi hj e
  constructor
  · refine ⟨(List.range T.length).filter (fun i => decide (T.getD i 0 ∈ l)), nodup_filter _ List.nodup_range, fun i => ?_, ?_⟩
    · rw [List.mem_filter, List.mem_range]
      constructor
      · rintro ⟨hi, hm⟩
        obtain ⟨j, hj, e⟩ := him _ (of_decide_eq_true hm)
        have := hinj i j hi (by have := hj.lt hwf; omega) e
        subst this; exact hj
      · intro hi
        exact ⟨by have := hi.lt hwf; omega, decide_eq_true (hall i hi)⟩
    · have h1 := nodup_le (((List.range T.length).filter (fun i => decide (T.getD i 0 ∈ l))).map (fun i => T.getD i 0)) l ?_ ?_
      · simpa using h1
      · refine nodup_mapon (fun i hi j hj e => ?_) (nodup_filter _ List.nodup_range)
        rw [List.mem_filter, List.mem_range] at hi hj
        exact hinj i j hi.1 hj.1 e
      · intro v hv
        obtain ⟨i, hi, rfl⟩ := List.mem_map.1 hv
        rw [List.mem_filter] at hi
        exact of_decide_eq_true hi.2
  · rw [← hT]
    refine nodup_le l T h.nd (fun a ha => ?_)
    obtain ⟨i, hi, rfl⟩ := him a ha
    exact hTi i (by have := hi.lt hwf; omega)

end Go.Proofs.Ytbjlapfcnldpoaa

/- Arguments that can be read as data, opened step by step: numbers, strings, slices, structs. -/
namespace Go.Proofs.Ytbjlapfcnldpoaa
set_option linter.unusedVariables false
set_option linter.unusedSimpArgs false
open Go.RowKit Go.ChangeShapes Go.WideShapes Go.Deep

/-- The cells cs can be read as data of type t, to the depth n. -/
def TR (P : Program) (w : World) (n : Nat) (t : TypeId) (cs : List Value) : Prop :=
  ∃ (H : Type) (enc : TypeId × Value → H) (y : DataW H × List MemPlace), DataW.trod enc P w 0 (fun _ => true) true n t cs = some y

theorem Reads.tr {P : Program} {w : World} {t : TypeId} {v : Value} (h : Reads P w t v) : ∃ n, TR P w n t v.cells.toList := by
  obtain ⟨H, enc, b0, d, p, ⟨n, hn⟩, _⟩ := h
  exact ⟨n, H, enc, _, hn⟩
theorem Reads.wide {P : Program} {w : World} {t : TypeId} {v : Value} (h : Reads P w t v) : ∃ b0, Value.okWide P w .any b0 t v := by
  obtain ⟨H, enc, b0, d, p, _, h⟩ := h
  exact ⟨b0, h⟩

variable {P : Program} {w : World} {n : Nat} {t e : TypeId} {cs : List Value}

theorem TR.int {k : IntKind} (ht : P.underlying t = some (.int k)) (h : TR P w n t cs) : ∃ m, cs = [.int k m] ∧ (Lit.int k m).wf = true := by
  obtain ⟨H, enc, y, h⟩ := h
  obtain ⟨m, hc, _, hw⟩ := DataW.trod_int ht h
  exact ⟨m, hc, hw⟩
theorem TR.bool (ht : P.underlying t = some .bool) (h : TR P w n t cs) : ∃ b, cs = [.bool b] := by
  obtain ⟨H, enc, y, h⟩ := h
  obtain ⟨b, hc, _⟩ := DataW.trod_bool ht h
  exact ⟨b, hc⟩
theorem TR.str (ht : P.underlying t = some .string) (h : TR P w n t cs) : ∃ s : ByteArray, cs = [.string s] ∧ s.size ≤ maxLen := by
  obtain ⟨H, enc, y, h⟩ := h
  obtain ⟨s, hc, _, hl⟩ := DataW.trod_string ht h
  exact ⟨s, hc, hl⟩
theorem TR.struct {fs : Array Field} (ht : P.underlying t = some (.struct fs)) (h : TR P w n t cs) :
    ∃ m, n = m + 1 ∧ cs.length = P.cellsOf t ∧ ∀ (i : Nat) (f : Field), fs[i]? = some f → TR P w m f.type ((cs.drop f.offset).take (P.cellsOf f.type)) := by
  obtain ⟨H, enc, y, h⟩ := h
  obtain ⟨xs, m, hm, _, hl, hx, hf⟩ := DataW.trod_struct ht h
  refine ⟨m, hm, hl, fun i f hi => ?_⟩
  have hlt : i < xs.length := by rw [hx]; exact (Array.getElem?_eq_some_iff.1 hi).1
  exact ⟨H, enc, xs[i], by rw [hf i f hi, List.getElem?_eq_getElem hlt]⟩
theorem TR.array {k : Nat} (ht : P.underlying t = some (.array k e)) (h : TR P w n t cs) :
    ∃ m, n = m + 1 ∧ cs.length = P.cellsOf t ∧ ∀ i, i < k → TR P w m e ((cs.drop (i * P.cellsOf e)).take (P.cellsOf e)) := by
  obtain ⟨H, enc, y, h⟩ := h
  obtain ⟨xs, m, hm, _, hl, hx, hf⟩ := DataW.trod_array ht h
  refine ⟨m, hm, hl, fun i hi => ?_⟩
  have hlt : i < xs.length := by omega
  exact ⟨H, enc, xs[i], by rw [hf i hi, List.getElem?_eq_getElem hlt]⟩

/-- A slice: none; or a row of elements of which each can be read. -/
theorem TR.slice (ht : P.underlying t = some (.slice e)) (h : TR P w n t cs) :
    cs = [.slice none 0 0] ∨ ∃ (a : Addr) (len cap m : Nat), cs = [.slice (some a) len cap] ∧ len ≤ cap ∧ cap ≤ maxLen ∧ m < n ∧
      ∀ i, i < len → ∃ cs' : List Value, cs'.length = P.cellsOf e ∧ (∀ j, j < P.cellsOf e → w.cell? ((a.add (i * P.cellsOf e)).add j) = cs'[j]?) ∧ TR P w m e cs' := by
  obtain ⟨H, enc, y, h⟩ := h
  rcases DataW.trod_slice ht h with ⟨h0, _⟩ | ⟨a, len, cap, elems, rest, m, hn, hcs, _, hb, hl, hm, hlen, hel, hsp, hns⟩
  · exact .inl h0
  · refine .inr ⟨a, len, cap, m, hcs, hl, hm, by omega, fun i hi => ?_⟩
    have key := hel i hi
    rw [List.getElem?_eq_getElem (by omega)] at key
    obtain ⟨cs', h1, h2⟩ := Option.bind_eq_some_iff.1 key
    obtain ⟨_, h4, h5⟩ := World.cells?_some h1
    exact ⟨cs', h4, h5, H, enc, _, h2⟩

/-- A slice of structs whose k fields are one cell each: every field is a cell that can be read. -/
theorem TR.recs {fs : Array Field} (ht : P.underlying t = some (.slice e)) (he : P.underlying e = some (.struct fs)) (hone : oneCellFields P fs = true) (hC : P.cellsOf e = fs.size) (h0 : 0 < fs.size) (h : TR P w n t cs) :
    cs = [.slice none 0 0] ∨ ∃ (a : Addr) (len cap m : Nat), cs = [.slice (some a) len cap] ∧ len ≤ cap ∧ cap ≤ maxLen ∧
      (0 < len → ∃ b o, a = ⟨b, o, none⟩ ∧ b < w.heap.size) ∧
      ∀ i, i < len → ∀ (j : Nat) (f : Field), fs[j]? = some f → ∃ u, w.cell? ⟨a.block, a.off + (i * fs.size + j), none⟩ = some u ∧ TR P w m f.type [u] := by
  rcases h.slice ht with h | ⟨a, len, cap, m, hcs, hl, hm, _, hx⟩
  · exact .inl h
  · have hspot : 0 < len → a.spot = none ∧ a.block < w.heap.size := by
      intro hp
      obtain ⟨cs', h1, h2, _⟩ := hx 0 hp
      have h3 := h2 0 (by omega)
      rw [List.getElem?_eq_getElem (by omega)] at h3
      have h5 := World.block_lt_of_cell? w _ h3
      have h4 := World.cell?_spot h3
      obtain ⟨b, o, sp⟩ := a
      cases sp <;> simp_all [Addr.add]
    refine .inr ⟨a, len, cap, m - 1, hcs, hl, hm, ?_, ?_⟩
    · intro hp
      obtain ⟨h1, h2⟩ := hspot hp
      obtain ⟨b, o, sp⟩ := a
      simp only at h1 h2
      subst h1
      exact ⟨b, o, rfl, h2⟩
    · intro i hi j f hj
      obtain ⟨cs', h1, h2, h3⟩ := hx i hi
      obtain ⟨m', rfl, h4, h5⟩ := h3.struct he
      obtain ⟨ho, hk⟩ := hone_of hone j f hj
      have hjl : j < fs.size := (Array.getElem?_eq_some_iff.1 hj).1
      have h6 := h5 j f hj
      rw [ho, hk, List.drop_eq_getElem_cons (by omega)] at h6
      refine ⟨cs'[j]'(by omega), ?_, h6⟩
      have h7 := h2 j (by omega)
      rw [List.getElem?_eq_getElem (by omega), hC] at h7
      have h8 := (hspot (by omega)).1
      obtain ⟨b, o, sp⟩ := a
      simp only at h8
      subst h8
      rw [Addr.add_lit, Addr.add_lit] at h7
      rw [← h7, Nat.add_assoc]

end Go.Proofs.Ytbjlapfcnldpoaa

/- Law 5's script in memory, read. -/
namespace Go.Proofs.Ytbjlapfcnldpoaa
set_option linter.unusedVariables false
set_option linter.unusedSimpArgs false
open Go.RowKit

structure IsOps5 (w : World) (a : Option Addr) (len : Nat) (ops : Nat → POp) : Prop where
  cells : ∀ i, i < len → ∃ b o, a = some ⟨b, o, none⟩ ∧ b < w.heap.size ∧ w.cell? ⟨b, o + i * 5, none⟩ = some (.int .i64 (ops i).kind) ∧ w.cell? ⟨b, o + i * 5 + 1, none⟩ = some (.int .i64 (ops i).a) ∧
    w.cell? ⟨b, o + i * 5 + 2, none⟩ = some (.int .i64 (ops i).b) ∧ w.cell? ⟨b, o + i * 5 + 3, none⟩ = some (.int .i64 (ops i).c) ∧ w.cell? ⟨b, o + i * 5 + 4, none⟩ = some (.int .i64 (ops i).n)
theorem IsOps5.keeps {w w' : World} {a : Option Addr} {len : Nat} {ops : Nat → POp} (h : IsOps5 w a len ops) (k : Keeps (fun z => w.heap.size ≤ z) w w') : IsOps5 w' a len ops := by
  refine ⟨fun i hi => ?_⟩
  obtain ⟨b, o, e, hb, h1, h2, h3, h4, h5⟩ := h.cells i hi
  have hn : ¬ w.heap.size ≤ b := by omega
  exact ⟨b, o, e, Nat.lt_of_lt_of_le hb k.size, k.cell h1 hn, k.cell h2 hn, k.cell h3 hn, k.cell h4 hn, k.cell h5 hn⟩

set_option maxRecDepth 100000 in
theorem ops5_of_reads {w : World} {v : Value} (h : Reads Try.prog w 48 v) : ∃ a len cap ops, v = .slice a len cap ∧ len ≤ maxLen ∧ IsOps5 w a len ops := by
  obtain ⟨n, ht⟩ := h.tr
  have hv : ∃ a len cap, v = .slice a len cap := by
    obtain ⟨b0, hw⟩ := h.wide
    exact Go.WideShapes.okWide_slice Try.underlying48 hw
  obtain ⟨a, len, cap, rfl⟩ := hv
  have h3 : (Value.slice a len cap).cells.toList = [.slice a len cap] := by simp [Value.cells]
  rw [h3] at ht
  rcases ht.recs Try.underlying48 Try.underlying54 (by kernel_rfl) (by kernel_rfl) (by decide) with h0 | ⟨x, l, c, m, hcs, hl, hm, h0, hf⟩
  · simp only [List.cons.injEq, Value.slice.injEq, and_true] at h0
    obtain ⟨rfl, rfl, rfl⟩ := h0
    exact ⟨none, 0, 0, fun _ => ⟨0, 0, 0, 0, 0⟩, rfl, Nat.zero_le _, ⟨fun i hi => by omega⟩⟩
  · simp only [List.cons.injEq, Value.slice.injEq, and_true] at hcs
    obtain ⟨rfl, rfl, rfl⟩ := hcs
    have key : ∀ i, i < len → ∃ p : POp, w.cell? ⟨x.block, x.off + i * 5, none⟩ = some (.int .i64 p.kind) ∧ w.cell? ⟨x.block, x.off + i * 5 + 1, none⟩ = some (.int .i64 p.a) ∧
        w.cell? ⟨x.block, x.off + i * 5 + 2, none⟩ = some (.int .i64 p.b) ∧ w.cell? ⟨x.block, x.off + i * 5 + 3, none⟩ = some (.int .i64 p.c) ∧ w.cell? ⟨x.block, x.off + i * 5 + 4, none⟩ = some (.int .i64 p.n) := by
      intro i hi
      obtain ⟨u0, h0, r0⟩ := hf i hi 0 _ rfl
      obtain ⟨u1, h1, r1⟩ := hf i hi 1 _ rfl
      obtain ⟨u2, h2, r2⟩ := hf i hi 2 _ rfl
      obtain ⟨u3, h3, r3⟩ := hf i hi 3 _ rfl
      obtain ⟨u4, h4, r4⟩ := hf i hi 4 _ rfl
      obtain ⟨k0, e0, _⟩ := r0.int Try.underlying3
      obtain ⟨k1, e1, _⟩ := r1.int Try.underlying3
      obtain ⟨k2, e2, _⟩ := r2.int Try.underlying3
      obtain ⟨k3, e3, _⟩ := r3.int Try.underlying3
      obtain ⟨k4, e4, _⟩ := r4.int Try.underlying3
      simp only [List.cons.injEq, and_true] at e0 e1 e2 e3 e4
      subst e0 e1 e2 e3 e4
      exact ⟨⟨k0, k1, k2, k3, k4⟩, h0, h1, h2, h3, h4⟩
    have : Inhabited POp := ⟨⟨0, 0, 0, 0, 0⟩⟩
    obtain ⟨f, hf⟩ := Go.Deep.choose_lt key
    refine ⟨some x, len, cap, f, rfl, by omega, ⟨fun i hi => ?_⟩⟩
    obtain ⟨b, o, rfl, hb⟩ := h0 (by omega)
    exact ⟨b, o, rfl, hb, hf i hi⟩

/-- A script longer than none has a place. -/
theorem IsOps5.nosome {w : World} {a : Option Addr} {len : Nat} {ops : Nat → POp} (h : IsOps5 w a len ops) {i : Nat} (hi : i < len) : ∃ ad, a = some ad := by
  obtain ⟨b, o, e, -⟩ := h.cells i hi
  exact ⟨_, e⟩

end Go.Proofs.Ytbjlapfcnldpoaa

/- TreadRoom's walk: where never more than L cells are reached, and each size has the cells that the statement says, no allocation is refused. -/
namespace Go.Proofs.Ytbjlapfcnldpoaa
set_option linter.unusedVariables false
set_option linter.unusedSimpArgs false
open Go.RowKit

/-- Of the first world: what most has seen. -/
structure RoomX (ops : Nat → POp) (j most : Nat) (P : PSt) : Prop where
  all : P.G.all.length ≤ j
  cyc : P.s.cycles ≤ 300 * j
  g : P.full = false → P.G = Gs ops j ∧ ∀ i, i ≤ j → RB most (Gs ops i)
theorem set_len (w : World) {b : Nat} {l : List Nat} (h : IsSet w b l) : (Builtin.len_ #[64] 3 #[.map (some b)]).run Try.prog w = .ok (.int .i64 l.length) w := by
  obtain ⟨⟨es, h1, h2⟩, -, -⟩ := h
  have hs : es.size = l.length := by rw [← Array.length_toList, h2, pents_len]
  simp [Builtin.len_, Sem.run_bind, run_underlying Try.underlying64, Result.andThen, getObj, Sem.run, h1, hs, goInt]
/-- Of the second world. -/
structure RoomY (ops : Nat → POp) (most k M j : Nat) (P : PSt) (L : Nat → Nat → List Nat) : Prop where
  all : P.G.all.length ≤ j
  cyc : P.s.cycles ≤ 300 * j
  full : P.full = false
  g : P.G = Gs ops j
  q : RoomQ most k M P L
theorem lay_col0 (cs : List Nat) (v : Nat) : colOf (layL cs 4 0) v = 0 := by
  unfold colOf inl layL
  simp
theorem room_n {most k : Nat} (hm : most ≤ 300) (hk1 : 1 ≤ k) (hk2 : k ≤ 64) : ∃ n : Nat, wrap64 (wrap64 (2 * (most : Int) + wrap64 (2 * (((most : Int) + (k : Int) - 1) / (k : Int)))) + 16) = (n : Int) ∧ n ≤ 4000 ∧ most + 2 * ((most + 2) / k + 1) < n := by
  have e1 : (most : Int) + (k : Int) - 1 = ((most + k - 1 : Nat) : Int) := by omega
  have e2 : ((most + k - 1 : Nat) : Int) / (k : Int) = (((most + k - 1) / k : Nat) : Int) := rfl
  have h1 : (most + k - 1) / k ≤ most + k - 1 := Nat.div_le_self _ _
  have h2 : (most + 2) / k ≤ (most + k - 1) / k + 3 := by
    have h3 : (most + 2) / k ≤ ((most + k - 1) + 3 * k) / k := Nat.div_le_div_right (by omega)
    rwa [Nat.add_mul_div_right _ _ (by omega)] at h3
  rw [e1, e2]
  generalize (most + k - 1) / k = d at h1 h2
  generalize (most + 2) / k = d2 at h2
  refine ⟨2 * most + 2 * d + 16, ?_, by omega, by omega⟩
  unfold wrap64
  omega
theorem awake_ret (w : World) : Calls Try.prog 15 #[] w fun e w' => e = .returned (.bool true) ∧ Keeps (fun _ => False) w w' := awake05 w
set_option maxRecDepth 100000 in
set_option maxHeartbeats 4000000 in
theorem TreadRoom_short {k : Int} {a : Option Addr} {len cap : Nat} {w : World} (h : k < 1 ∨ (1 ≤ k ∧ 64 < k) ∨ (1 ≤ k ∧ k ≤ 64 ∧ 300 < len)) :
    Calls Try.prog 6 #[.int .i64 k, .slice a len cap] w fun e w' => e = .returned (.bool true) ∧ Below w.heap.size w w' := by
  rcases h with h | ⟨h, h2⟩ | ⟨h, h2, h3⟩
  · go_enter Try.func6, Try.ntmps6
    go_wp2_with fail
    refine (awake_ret _).mono ?_
    rintro e w1 ⟨rfl, k1⟩
    have K1 := Box.mk k1
    clear k1
    go_wp2_with fail
    refine (awake_ret _).mono ?_
    rintro e w2 ⟨rfl, k2⟩
    have K2 := Box.mk (K1.out.trans k2)
    clear k2
    go_wp2_with fail
    go_ret
    exact ⟨rfl, K2.out.below (Nat.le_refl _) (fun _ h => h.elim)⟩
  · go_enter Try.func6, Try.ntmps6
    go_wp2_with fail
    refine (awake_ret _).mono ?_
    rintro e w1 ⟨rfl, k1⟩
    have K1 := Box.mk k1
    clear k1
    go_wp2_with fail
    refine (awake_ret _).mono ?_
    rintro e w2 ⟨rfl, k2⟩
    have K2 := Box.mk (K1.out.trans k2)
    clear k2
    go_wp2_with fail
    go_ret
    exact ⟨rfl, K2.out.below (Nat.le_refl _) (fun _ h => h.elim)⟩
  · have hd : decide ((300 : Int) < (len : Int)) = true := by simp; omega
    have HL := Box.mk (fun W => long_is (a := a) (n := len) (cap := cap) W)
    rw [hd] at HL
    clear hd h3
    go_enter Try.func6, Try.ntmps6
    go_wp2_with fail
    refine (awake_ret _).mono ?_
    rintro e w1 ⟨rfl, k1⟩
    have K1 := Box.mk k1
    clear k1
    go_wp2_with fail
    refine (HL.out _).mono ?_
    rintro e w1' ⟨rfl, rfl⟩
    go_wp2_with fail
    refine (awake_ret _).mono ?_
    rintro e w2 ⟨rfl, k2⟩
    have K2 := Box.mk (K1.out.trans k2)
    clear k2
    go_wp2_with fail
    go_ret
    exact ⟨rfl, K2.out.below (Nat.le_refl _) (fun _ h => h.elim)⟩

set_option maxRecDepth 100000 in
set_option maxHeartbeats 8000000 in
theorem TreadRoom_main {k : Nat} {a : Option Addr} {len cap : Nat} {ops : Nat → POp} {w : World} (hk1 : 1 ≤ k) (hk2 : k ≤ 64) (hl : len ≤ 300) (ho : IsOps5 w a len ops) :
    Calls Try.prog 6 #[.int .i64 k, .slice a len cap] w fun e w' => e = .returned (.bool true) ∧ Below w.heap.size w w' := by
  have hk1I : (1 : Int) ≤ (k : Int) := by omega
  have hk2I : (k : Int) ≤ 64 := by omega
  have hd : decide ((300 : Int) < (len : Int)) = false := by simp; omega
  have HL := Box.mk (fun W => long_is (a := a) (n := len) (cap := cap) W)
  rw [hd] at HL
  have HO := Box.mk ho
  obtain ⟨s0, e0, st0, hc0, hf0⟩ := lay_ok 2000 1000 600 400 64 (by omega) (by omega) (by omega) (by omega)
  have HB : Box (∀ W, Calls Try.prog 28 #[.agg #[.int .i64 2000, .int .i64 1000, .int .i64 600, .int .i64 400, .int .i64 64]] W (BeginSaid s0 W)) := ⟨fun W => begin_is (w := W) (c0 := 2000) (c1 := 1000) (c2 := 600) (c3 := 400) (k := 64) (by omega) (by omega) (by omega) (by omega) (by omega) (by omega) e0⟩
  have hsm := tlay_same e0
  have hI0 : Inv (PSt.new s0) (layL [2000, 1000, 600, 400] 4 0) := Inv.new st0 (by rw [hsm.2.2.2.2.1]; decide) hsm.2.1
  have HI0 := Box.mk hI0
  have HR0 : Box (RoomX ops 0 0 (PSt.new s0)) := ⟨⟨Nat.le_refl _, by show s0.cycles ≤ _; rw [hsm.2.2.2.2.2.2.2.1]; exact Nat.le_refl _, fun _ => ⟨rfl, fun i hi => by
    have : i = 0 := by omega
    subst this
    exact rb_start ops 0⟩⟩⟩
  clear hd ho e0 st0 hc0 hf0 hsm hI0
  go_enter Try.func6, Try.ntmps6
  go_wp2_with fail
  refine (awake_ret _).mono ?_
  rintro e w1 ⟨rfl, k1⟩
  have K1 := Box.mk k1
  clear k1
  go_wp2_with fail
  refine (HL.out _).mono ?_
  rintro e w1' ⟨rfl, rfl⟩
  go_wp2_with fail
  refine (HB.out _).mono ?_
  intro e w2 h2
  obtain ⟨xb, hb, b, g, rfl, hown, -⟩ := h2.own (K1.out.mono (S' := fun z => w.heap.size ≤ z) (fun _ _ h => h.elim))
  have HOw := Box.mk hown
  clear h2 hown K1
  have hlI : (len : Int) ≤ 300 := by omega
  go_wp2_with fail
  go_loopw [5, 35] (fun mo i wr => ∃ (j most : Nat) (P : PSt) (L : Nat → Nat → List Nat) (T : List Nat), j ≤ len ∧ most ≤ j ∧ i = .int .i64 j ∧ mo = .int .i64 most ∧ Box (Own w wr xb hb b g P T) ∧ Box (Inv P L) ∧ Box (RoomX ops j most P)) (fun _ i _ => len - (intOf i).toNat)
  case atStart => exact ⟨0, 0, PSt.new s0, _, [], Nat.zero_le _, Nat.le_refl _, rfl, rfl, HOw, HI0, HR0⟩
  case round =>
    clear HOw HI0 HR0
    obtain ⟨j, most, P, L, T, hj, hm, rfl, rfl, HOw, HI, HR⟩ := hrel
    by_cases hjl : j < len
    · obtain ⟨ab, ao, rfl, hab, o0, o1, o2, o3, o4⟩ := (HO.out.keeps HOw.out.keeps).cells j hjl
      obtain ⟨o, hoj⟩ : ∃ o, ops j = o := ⟨_, rfl⟩
      rw [hoj] at o0 o1 o2 o3 o4
      have Hoj := Box.mk hoj
      have hj0 : (0 : Int) ≤ (j : Int) := by omega
      have hjI : (j : Int) < (len : Int) := by omega
      obtain ⟨wb, hwb⟩ : ∃ wb, wr.alloc (.cells #[.int .i64 o.kind, .int .i64 o.a, .int .i64 o.b, .int .i64 o.c, .int .i64 o.n] 54) = wb := ⟨_, rfl⟩
      have kb : Keeps (fun _ => False) wr wb := by rw [← hwb]; exact (Keeps.refl _ wr).alloc _
      have hbx : wb.heap[wr.heap.size]? = some (.cells #[.int .i64 o.kind, .int .i64 o.a, .int .i64 o.b, .int .i64 o.c, .int .i64 o.n] 54 (0, 0)) := by rw [← hwb]; exact heap_alloc_new wr _
      obtain ⟨q, hq⟩ : ∃ q, wr.heap.size = q := ⟨_, rfl⟩
      rw [hq] at hbx
      have b0 := cell_of_heap hbx 0
      have b1 := cell_of_heap hbx 1
      have b2 := cell_of_heap hbx 2
      have b3 := cell_of_heap hbx 3
      have b4 := cell_of_heap hbx 4
      simp only [List.getElem?_toArray, List.getElem?_cons_zero, List.getElem?_cons_succ] at b0 b1 b2 b3 b4
      have HOb := Box.mk (HOw.out.step0 kb)
      clear hoj kb hbx HOw
      by_cases hkk : o.kind = 6 ∨ o.kind = 7
      · have hgs : Gs ops (j + 1) = Gs ops j := by
          show (if _ then _ else _) = _
          rw [Hoj.out, if_pos hkk]
        have HR2 : Box (RoomX ops (j + 1) most P) := ⟨⟨Nat.le_succ_of_le HR.out.all, Nat.le_trans HR.out.cyc (by omega), fun hf => ⟨by rw [hgs]; exact (HR.out.g hf).1, fun i hi => by
          by_cases e : i ≤ j
          · exact (HR.out.g hf).2 i e
          · have : i = j + 1 := by omega
            rw [this, hgs]; exact (HR.out.g hf).2 j (Nat.le_refl _)⟩⟩⟩
        rcases hkk with hk | hk
        · have e6 : (o.kind != 6) = false := by rw [hk]; rfl
          clear hk hgs HR
          go_wp2_with fail
          go_roundw
          case rel => exact ⟨j + 1, most, P, L, T, by omega, by omega, by go_num, rfl, HOb, HI, HR2⟩
          case measure => simp [intOf]; omega
        · have e6 : (o.kind != 6) = true := by rw [hk]; rfl
          have e7 : (o.kind != 7) = false := by rw [hk]; rfl
          clear hk hgs HR
          go_wp2_with fail
          go_roundw
          case rel => exact ⟨j + 1, most, P, L, T, by omega, by omega, by go_num, rfl, HOb, HI, HR2⟩
          case measure => simp [intOf]; omega
      · have e6 : (o.kind != 6) = true := by rw [bne_iff_ne]; omega
        have e7 : (o.kind != 7) = true := by rw [bne_iff_ne]; omega
        obtain ⟨P', L', hD⟩ := doing track_any HI.out trivial trivial (by have := HR.out.cyc; omega) o (by omega)
        have HD := Box.mk hD
        have Hkk := Box.mk hkk
        have hT5 : T.length ≤ 5000 := by have := HOb.out.isX.rx.lens.1; have := HR.out.all; omega
        have hdo := do_is HOb.out.isX HI.out.fit (fun t ht => by have := HI.out.forms t ht; omega) hT5 hD.did
        have Hdo := Box.mk hdo
        clear hD hdo hkk hT5
        go_wp2_with fail
        clear hwb hq o0 o1 o2 o3 o4 b0 b1 b2 b3 b4
        refine Hdo.out.mono ?_
        intro e w5 h5
        obtain ⟨rfl, T', hO5, -⟩ := HOb.out.said h5
        have HO5 := Box.mk hO5
        clear h5 hO5 HOb Hdo
        have hT6 : T'.length ≤ 10000 := by have := HO5.out.isX.rx.lens.1; have := HR.out.all; have := HD.out.all; omega
        go_wp2_with fail
        refine (reached_is HO5.out.isX.rx hT6 (fun t ht => by have := HD.out.inv.forms t ht; omega)).mono ?_
        rintro e w6 ⟨⟨mb, l, rfl, hset, hmb, him, hall⟩, k6⟩
        have HO6 := Box.mk (HO5.out.step0 k6)
        have hrb := rb_of_set hset HO5.out.isX.rx.lens.1 HD.out.inv.wf him hall HO5.out.isX.rx.nd
        have HRB := Box.mk hrb
        have hln := set_len w6 hset
        obtain ⟨n, hn⟩ : ∃ n, l.length = n := ⟨_, rfl⟩
        rw [hn] at hln HRB
        clear hset hmb him hall k6 hrb HO5 hT6
        have hgs : Gs ops (j + 1) = pdo (Gs ops j) o := by
          show (if _ then _ else _) = _
          rw [Hoj.out, if_neg Hkk.out]
        have mk : ∀ m', most ≤ m' → n ≤ m' → RoomX ops (j + 1) m' P' := fun m' h1 h2 => ⟨by have := HR.out.all; have := HD.out.all; omega, by have := HR.out.cyc; have := HD.out.cyc; omega, fun hf => by
          have hf0 : P.full = false := by
            rcases HD.out.full with e | e
            · rw [← e]; exact hf
            · rw [e.2] at hf; cases hf
          have hg := HD.out.did.graph hf
          rw [(HR.out.g hf0).1, ← hgs] at hg
          refine ⟨hg, fun i hi => ?_⟩
          by_cases e : i ≤ j
          · exact ((HR.out.g hf0).2 i e).mono h1
          · have : i = j + 1 := by omega
            rw [this, ← hg]; exact HRB.out.1.mono h2⟩
        have Mk := Box.mk mk
        have HI' := Box.mk HD.out.inv
        have hnj : n ≤ j + 1 := by have := HRB.out.2; have := HR.out.all; have := HD.out.all; omega
        clear hgs mk hn HD HRB HR HI Hkk Hoj
        by_cases hmn : most < n
        · have HR2 := Box.mk (Mk.out n (by omega) (Nat.le_refl _))
          go_wp2_with fail
          go_roundw
          case rel => exact ⟨j + 1, n, P', L', T', by omega, by omega, by go_num, rfl, HO6, HI', HR2⟩
          case measure => simp [intOf]; omega
        · have HR2 := Box.mk (Mk.out most (Nat.le_refl _) (by omega))
          go_wp2_with fail
          go_roundw
          case rel => exact ⟨j + 1, most, P', L', T', by omega, by omega, by go_num, rfl, HO6, HI', HR2⟩
          case measure => simp [intOf]; omega
    · have hjl2 : j = len := by omega
      subst hjl2
      cases hfu : P.full with
      | true =>
        have c19 := HOw.out.isX.rx.at19
        rw [hfu] at c19
        clear hfu hjl
        go_wp2_with fail
        go_ret
        exact ⟨rfl, HOw.out.keeps.below (Nat.le_refl _) (fun _ h => h)⟩
      | false =>
        have c19 := HOw.out.isX.rx.at19
        rw [hfu] at c19
        have Hg := Box.mk (HR.out.g hfu).2
        have HK := Box.mk HOw.out.keeps
        have hm300 : (most : Int) ≤ 300 := by omega
        have hm0 : (0 : Int) ≤ (most : Int) := by omega
        clear hfu hjl HOw HI HR
        obtain ⟨N, hN1, hN2, hN3⟩ := room_n (k := k) (show most ≤ 300 by omega) hk1 hk2
        obtain ⟨M, hM⟩ : ∃ M, (most + 2) / k + 1 = M := ⟨_, rfl⟩
        rw [hM] at hN3
        obtain ⟨s1, e1, st1, hc1, hf1⟩ := lay_ok N N N N k hN2 hN2 hN2 hN2
        have HB1 := Box.mk (fun W => begin_is (w := W) (c0 := N) (c1 := N) (c2 := N) (c3 := N) (k := k) hN2 hN2 hN2 hN2 hk1 hk2 e1)
        have hsm := tlay_same e1
        have HI1 := Box.mk (Inv.new st1 (by rw [hsm.2.2.2.2.1]; exact hk2) hsm.2.1)
        have hY : RoomY ops most k M 0 (PSt.new s1) (layL [N, N, N, N] 4 0) := by
          refine ⟨Nat.le_refl _, ?_, rfl, rfl, hsm.2.2.2.2.1, fun c hc => ?_, 0, 0, acc_new ?_ (lay_col0 _) (fun v hv => ?_)⟩
          · show s1.cycles ≤ _
            rw [hsm.2.2.2.2.2.2.2.1]; exact Nat.le_refl _
          · show _ < s1.count.getD c 0
            rw [hc1]
            have : c = 0 ∨ c = 1 ∨ c = 2 ∨ c = 3 := by omega
            rcases this with rfl | rfl | rfl | rfl <;> exact hN3
          · show s1.marking = false
            rw [hsm.2.2.2.2.2.1]; rfl
          · obtain ⟨h1, -⟩ := hv
            have h2 : s1.roots = List.replicate 12 12 := hsm.2.1
            have h3 : 8 * v + 1 ∈ s1.roots := h1
            rw [h2] at h3
            have := List.eq_of_mem_replicate h3
            omega
        have HY := Box.mk hY
        have HMM := Box.mk hM
        clear hsm e1 st1 hc1 hf1 hN2 hN3 hM hY
        go_wp2_with fail
        rw [hN1]
        refine (HB1.out _).mono ?_
        intro e w2 h2
        obtain ⟨yb, hb2, b2, g2, rfl, hown, -⟩ := h2.own HK.out
        have HOw := Box.mk hown
        clear h2 hown hN1 HK c19 HB1 HB
        go_wp2_with fail
        go_loopw [83] (fun i wr => ∃ (q : Nat) (P : PSt) (L : Nat → Nat → List Nat) (T : List Nat), q ≤ j ∧ i = .int .i64 q ∧ Box (Own w wr yb hb2 b2 g2 P T) ∧ Box (Inv P L) ∧ Box (RoomY ops most k M q P L)) (fun i _ => j - (intOf i).toNat)
        case atStart => exact ⟨0, PSt.new s1, _, [], Nat.zero_le _, rfl, HOw, HI1, HY⟩
        case round =>
          clear HOw HI1 HY
          obtain ⟨q0, P, L, T, hq0, rfl, HOw, HI, HY⟩ := hrel
          by_cases hjl : q0 < j
          · obtain ⟨ab, ao, rfl, hab, o0, o1, o2, o3, o4⟩ := (HO.out.keeps HOw.out.keeps).cells q0 hjl
            obtain ⟨o, hoj⟩ : ∃ o, ops q0 = o := ⟨_, rfl⟩
            rw [hoj] at o0 o1 o2 o3 o4
            have Hoj := Box.mk hoj
            have hj0 : (0 : Int) ≤ (q0 : Int) := by omega
            have hjI : (q0 : Int) < (j : Int) := by omega
            obtain ⟨wb, hwb⟩ : ∃ wb, wr.alloc (.cells #[.int .i64 o.kind, .int .i64 o.a, .int .i64 o.b, .int .i64 o.c, .int .i64 o.n] 54) = wb := ⟨_, rfl⟩
            have kb : Keeps (fun _ => False) wr wb := by rw [← hwb]; exact (Keeps.refl _ wr).alloc _
            have hbx : wb.heap[wr.heap.size]? = some (.cells #[.int .i64 o.kind, .int .i64 o.a, .int .i64 o.b, .int .i64 o.c, .int .i64 o.n] 54 (0, 0)) := by rw [← hwb]; exact heap_alloc_new wr _
            obtain ⟨q, hq⟩ : ∃ q, wr.heap.size = q := ⟨_, rfl⟩
            rw [hq] at hbx
            have b0 := cell_of_heap hbx 0
            have b1 := cell_of_heap hbx 1
            have b2' := cell_of_heap hbx 2
            have b3 := cell_of_heap hbx 3
            have b4 := cell_of_heap hbx 4
            simp only [List.getElem?_toArray, List.getElem?_cons_zero, List.getElem?_cons_succ] at b0 b1 b2' b3 b4
            have HOb := Box.mk (HOw.out.step0 kb)
            have c18 := HOb.out.isX.rx.at18
            have c19 := HOb.out.isX.rx.at19
            rw [HY.out.full] at c19
            clear hoj kb hbx HOw
            by_cases hkk : o.kind = 6 ∨ o.kind = 7
            · have hgs : Gs ops (q0 + 1) = Gs ops q0 := by
                show (if _ then _ else _) = _
                rw [Hoj.out, if_pos hkk]
              have HY2 : Box (RoomY ops most k M (q0 + 1) P L) := ⟨⟨Nat.le_succ_of_le HY.out.all, Nat.le_trans HY.out.cyc (by omega), HY.out.full, by rw [hgs]; exact HY.out.g, HY.out.q⟩⟩
              rcases hkk with hk | hk
              · have e6 : (o.kind != 6) = false := by rw [hk]; rfl
                clear hk hgs HY
                go_wp2_with fail
                go_roundw
                case rel => exact ⟨q0 + 1, P, L, T, by omega, by go_num, HOb, HI, HY2⟩
                case measure => simp [intOf]; omega
              · have e6 : (o.kind != 6) = true := by rw [hk]; rfl
                have e7 : (o.kind != 7) = false := by rw [hk]; rfl
                clear hk hgs HY
                go_wp2_with fail
                go_roundw
                case rel => exact ⟨q0 + 1, P, L, T, by omega, by go_num, HOb, HI, HY2⟩
                case measure => simp [intOf]; omega
            · have e6 : (o.kind != 6) = true := by rw [bne_iff_ne]; omega
              have e7 : (o.kind != 7) = true := by rw [bne_iff_ne]; omega
              obtain ⟨P', L', hD⟩ := doing (track_room hk1 HMM.out.symm) HI.out HY.out.q (by rw [HY.out.g]; exact Hg.out q0 (by omega)) (by have := HY.out.cyc; omega) o (by omega)
              have hfull : P'.full = false := by
                rcases hD.full with e | e
                · rw [e]; exact HY.out.full
                · exact e.1.elim
              have hgs : Gs ops (q0 + 1) = pdo (Gs ops q0) o := by
                show (if _ then _ else _) = _
                rw [Hoj.out, if_neg hkk]
              have HY2 : Box (RoomY ops most k M (q0 + 1) P' L') := ⟨⟨by have := HY.out.all; have := hD.all; omega, by have := HY.out.cyc; have := hD.cyc; omega, hfull, by rw [hgs, ← HY.out.g]; exact hD.did.graph hfull, hD.q⟩⟩
              have HI' := Box.mk hD.inv
              have hdo := do_is HOb.out.isX HI.out.fit (fun t ht => by have := HI.out.forms t ht; omega) (by have := HOb.out.isX.rx.lens.1; have := HY.out.all; omega) hD.did
              have Hdo := Box.mk hdo
              have Hfu := Box.mk hfull
              clear hD hdo hkk hgs hfull c18 c19
              go_wp2_with fail
              clear hwb hq o0 o1 o2 o3 o4 b0 b1 b2' b3 b4
              refine Hdo.out.mono ?_
              intro e w5 h5
              obtain ⟨rfl, T', hO5, -⟩ := HOb.out.said h5
              have HO5 := Box.mk hO5
              have c18 := hO5.isX.rx.at18
              have c19 := hO5.isX.rx.at19
              rw [Hfu.out] at c19
              clear h5 hO5 HOb Hdo
              go_wp2_with fail
              go_roundw
              case rel => exact ⟨q0 + 1, P', L', T', by omega, by go_num, HO5, HI', HY2⟩
              case measure => simp [intOf]; omega
          · have hjl2 : ¬ ((q0 : Int) < (j : Int)) := by omega
            go_wp2_with fail
            refine (sees_is HOw.out.isX HI.out.fit (fun t ht => by have := HI.out.forms t ht; omega) (by have := HOw.out.isX.rx.lens.1; have := HY.out.all; omega)).mono ?_
            intro e w5 h5
            obtain ⟨rfl, hO5⟩ := HOw.out.seen h5
            have HO5 := Box.mk hO5
            clear h5 hO5
            go_wp2_with fail
            go_ret
            exact ⟨rfl, HO5.out.keeps.below (Nat.le_refl _) (fun _ h => h)⟩

theorem TreadRoom_walk (k : Int) (v : Value) (w : World) (hk : (Lit.int .i64 k).wf = true) (hs : Reads Try.prog w 48 v) :
    Calls Try.prog 6 #[.int .i64 k, v] w fun e w' => e = .returned (.bool true) ∧ Below w.heap.size w w' := by
  obtain ⟨a, len, cap, ops, rfl, hl, ho⟩ := ops5_of_reads hs
  by_cases h : 1 ≤ k ∧ k ≤ 64 ∧ len ≤ 300
  · obtain ⟨kn, rfl⟩ := Int.eq_ofNat_of_zero_le (show 0 ≤ k by omega)
    exact TreadRoom_main (by omega) (by omega) h.2.2 ho
  · exact TreadRoom_short (by omega)

end Go.Proofs.Ytbjlapfcnldpoaa

