/- The document's Look.come by its contract. -/
import Derived.Test.YtiimojpaeccajaaDoorRq
import Derived.Test.YtiimojpaeccajaaDoorPr2
import Derived.Deep.RegionLaw
namespace Go.Proofs.YtiimojpaeccajaaDoor
set_option linter.unusedVariables false
set_option linter.unusedSimpArgs false
open Go.RowKit Go.Proofs.YtiimojpaeccajaaDoorW.PrintWords Go.Proofs.YtiimojpaeccajaaDoorW.PrintLast Go.Proofs.YtiimojpaeccajaaDoorW.PrintMore

section
variable {ops : Array Oper} {rest : List Oper} {o : Oper} {a : Act} {Q : Exit → Act → World → Prop}
/-- append onto a row that may begin inside its block. -/
theorem wpList_append_q (w : World) (hgd : o.guard = none) (s x : Operand)
    (ho : o.op = .call { callee := .builtin .append, args := #[s, x], argTypes := #[36, 36] })
    (base : Nat) (v : Value) (n : Nat) (xs : List Value) (hs : a.eval s = v) (hown : QRow w base 3 1 v n xs)
    (ad : Addr) (y : Value) (hx : a.eval x = .slice (some ad) 1 1) (hnews : ∀ j u, [y][j]? = some u → w.cell? (ad.add j) = some u) (h1 : y.oneCell' = true) (hl : n ≤ 1000000) (hbase : base ≤ w.heap.size)
    (h : ∀ A c w', QRow w' base 3 1 (.slice A (n + 1) c) (n + 1) (xs ++ [y]) → w.grownBy w' v.ownBlock → ((Value.slice A (n + 1) c).ownBlock = v.ownBlock ∨ ∃ b, (Value.slice A (n + 1) c).ownBlock = some b ∧ w.heap.size ≤ b) → wpList Tryd.prog ops Q rest (a.put o.dst (.slice A (n + 1) c)) w') :
    wpList Tryd.prog ops Q (o :: rest) a w := by
  obtain ⟨i0, hi, hz0, hz1, hz2⟩ := info_parts infoInt
  obtain ⟨v', w', hr, q1, q2, q3⟩ := q_append (P := Tryd.prog) w base 36 o.type 3 i0 (.int .i64 0) 1 8 Tryd.underlying36 hi hz0 hz1 hz2 rfl (by decide) v n xs hown ad 1 1 [y] rfl hnews (by intro u hu; simp at hu; subst hu; exact h1) (by decide) (by unfold maxLen; omega) (by omega) hbase
  obtain ⟨A, c, rfl, _⟩ := q_slice q1
  refine wpList_plain hgd fun K hK => ?_
  unfold Oper.wp execOp
  simp only [ho, resolve, invoke, builtin, Sem.run_bind, Sem.run_pure, Result.andThen_ok, List.map_toArray, List.map_cons, List.map_nil, hs, hx, hr]
  exact hK _ _ (h A c w' q1 q2 q3)
end

theorem lkT_ref : LkT 56 := ⟨by decide, by decide⟩
structure LqGot (T : TypeId) (B kb sb : Nat) (lv : Value) (n : Nat) (S : Nat → Option (List Int)) (R : Nat → Nat × Nat) (k : StK) (w0 w' : World) : Prop where
  mem : ∃ R' tv', LqM T w' B kb sb lv n k.S R' k.todo tv' k.bad ∧ ∀ i, S i ≠ none → R' i = R i
  keeps : Below B w0 w'
  size : w0.heap.size ≤ w'.heap.size

set_option maxHeartbeats 2000000 in
set_option maxRecDepth 100000 in
theorem come16_is {w : World} {B kb sb n : Nat} {A : Option Addr} {c : Nat} {S : Nat → Option (List Int)} {R : Nat → Nat × Nat} {td : List Nat} {tv : Value} {bad : Bool}
    (hM : LqM 56 w B kb sb (.slice A n c) n S R td tv bad) (hn : n ≤ 8000) (q : Nat) (hq : q ≤ 8000) {B' g cap : Nat} {zs : List Int} (hz : ownI w B' g cap zs) (hz0 : zs ≠ []) (hzl : zs.length ≤ 201) (hB : B ≤ w.heap.size) (htd : td.length ≤ 100000) (hS : ∀ i s, S i = some s → s.length ≤ 200) :
    Calls Tryd.prog 22 #[.pointer (some ⟨kb, 0, none⟩), .int .i64 q, .slice (some ⟨g, 0, none⟩) zs.length cap] w fun e w' => e = .returned (.tuple #[]) ∧
      LqGot 56 B kb sb (.slice A n c) n S R (stCome n ⟨S, td, bad⟩ (q, zs)) w w' := by
  have a0 := hM.at0.1
  have a1 := hM.at0.2.1
  have a3 := hM.at0.2.2.2
  have f3 := hM.frz 3
  have hBB := hM.base
  have HM := Box.mk hM
  have HZ := Box.mk hz
  have hpos : 0 < zs.length := by cases zs with | nil => exact absurd rfl hz0 | cons => simp
  obtain ⟨p, hp⟩ : ∃ p, zs.length = p + 1 := ⟨zs.length - 1, by omega⟩
  clear hpos
  have hcl := ownI_cell hz (j := p) (by omega)
  rw [stop_getD zs p hp] at hcl
  obtain ⟨z, hzz⟩ : ∃ z, stop zs = z := ⟨_, rfl⟩
  have Hzz := Box.mk hzz
  have Hp := Box.mk hp
  have hcap : p + 1 ≤ cap := by
    rcases hz.2 with ⟨h1, _⟩ | ⟨g', cap', cur, hv, _, _, h2, _⟩
    · cases h1
    · simp only [Value.slice.injEq, Option.some.injEq, Addr.mk.injEq, and_true] at hv
      obtain ⟨rfl, -, rfl⟩ := hv
      omega
  rw [hzz] at hcl
  have HS := Box.mk hS
  have hnil : ∀ (w : World) (a : Option Addr) (n c n' c' : Nat), (binOp .eql 36 (.slice a n c) (.slice none n' c')).run Tryd.prog w = .ok (.bool a.isNone) w := fun w a n c n' c' => Lib.run_eql_slice_nil w _ _ a n c n' c' Tryd.underlying36
  rw [hp] at hzl ⊢
  have hBad : Box (∀ (w1 : World), w1 = w.setCell ⟨kb, 3, none⟩ (.bool true) → (stCome n ⟨S, td, bad⟩ (q, zs) = ⟨S, td, true⟩) → LqGot 56 B kb sb (.slice A n c) n S R (stCome n ⟨S, td, bad⟩ (q, zs)) w w1) := ⟨fun w1 e h => by
    rw [h, e]
    exact ⟨⟨R, tv, HM.out.setBad lkT_ref true, fun _ _ => rfl⟩, (Below.refl B w).setCell (p := ⟨kb, 3, none⟩) hBB.1 _, by simp⟩⟩
  by_cases h1 : n ≤ q
  · have hr : Box (stCome n ⟨S, td, bad⟩ (q, zs) = ⟨S, td, true⟩) := ⟨by rw [stCome, if_pos (.inl h1)]⟩
    clear hM hz hS hp hzz
    go_enter Tryd.func22, Tryd.ntmps22
    go_wp2_with fail
    go_end0
    exact ⟨rfl, hBad.out _ rfl hr.out⟩
  by_cases h2 : 200 < p + 1
  · have hr : Box (stCome n ⟨S, td, bad⟩ (q, zs) = ⟨S, td, true⟩) := ⟨by rw [stCome, if_pos (.inr (.inl (by rw [hp]; exact h2)))]⟩
    clear hM hz hS hp hzz
    have h2' : (200 : Int) < (p : Int) + 1 := by omega
    go_enter Tryd.func22, Tryd.ntmps22
    go_wp2_with fail
    go_end0
    exact ⟨rfl, hBad.out _ rfl hr.out⟩
  by_cases h3 : 29 < z
  · have hr : Box (stCome n ⟨S, td, bad⟩ (q, zs) = ⟨S, td, true⟩) := ⟨by rw [stCome, if_pos (.inr (.inr (by rw [Hzz.out]; exact h3)))]⟩
    clear hM hz hS hp hzz
    go_enter Tryd.func22, Tryd.ntmps22
    go_wp2_with fail
    go_end0
    exact ⟨rfl, hBad.out _ rfl hr.out⟩
  have hno : ¬ (n ≤ q ∨ 200 < zs.length ∨ 29 < stop zs) := by rw [hp, hzz]; omega
  have hsl := hM.slot (i := q) (by omega)
  cases hs : S q with
  | some t =>
    rw [hs] at hsl
    simp only at hsl
    obtain ⟨r, rc⟩ : ∃ r, R q = r := ⟨_, rfl⟩
    have ht := (hM.row q t hs).1
    rw [rc] at ht hsl
    have HE := Box.mk (same_is (w := w) t zs (b1 := r.1) (o1 := 0) (c1 := r.2) (b2 := g) (o2 := 0) (c2 := cap) (by have := HS.out q t hs; omega) (by omega) (fun j hj => by rw [Nat.zero_add]; exact ownI_cell ht hj) (fun j hj => by rw [Nat.zero_add]; exact ownI_cell hz hj) (own_cap ht) (by omega))
    rw [hp] at HE
    have hr : Box (stCome n ⟨S, td, bad⟩ (q, zs) = if t = zs then ⟨S, td, bad⟩ else ⟨S, td, true⟩) := ⟨by rw [stCome, if_neg hno]; simp only [hs]⟩
    obtain ⟨m, hm⟩ : ∃ m, t.length = m := ⟨_, rfl⟩
    rw [hm] at HE hsl
    have hG : Box (∀ w2, Below w.heap.size w w2 → LqGot 56 B kb sb (.slice A n c) n S R ⟨S, td, bad⟩ w w2) := ⟨fun w2 k => ⟨⟨R, tv, HM.out.below k, fun _ _ => rfl⟩, Below.mono k hB, k.size⟩⟩
    have hB2 : Box (∀ w2, Below w.heap.size w w2 → LqGot 56 B kb sb (.slice A n c) n S R ⟨S, td, true⟩ w (w2.setCell ⟨kb, 3, none⟩ (.bool true))) := ⟨fun w2 k => ⟨⟨R, tv, (HM.out.below k).setBad lkT_ref true, fun _ _ => rfl⟩, (Below.mono k hB).setCell (p := ⟨kb, 3, none⟩) hBB.1 _, by simpa using k.size⟩⟩
    have hfr : Box (∀ w2, Below w.heap.size w w2 → w2.frozen? ⟨kb, 3, none⟩ = false ∧ w2.cell? ⟨kb, 3, none⟩ = some (.bool bad)) := ⟨fun w2 k => ⟨(HM.out.below k).frz 3, (HM.out.below k).at0.2.2.2⟩⟩
    by_cases e : t = zs
    · have e2 : decide (t = zs) = true := decide_eq_true e
      rw [e2] at HE
      have hr2 := hr.out
      rw [if_pos e] at hr2
      rw [hr2]
      clear hM hz hS hp hzz hs rc ht hm hno hr2 e e2
      go_enter Tryd.func22, Tryd.ntmps22
      go_wp2_with fail
      refine HE.out.mono ?_
      rintro e w2 ⟨rfl, k2⟩
      have K2 := Box.mk k2
      clear HE k2
      go_wp2_with fail
      go_end0
      exact ⟨rfl, hG.out w2 K2.out⟩
    · have e2 : decide (t = zs) = false := decide_eq_false e
      rw [e2] at HE
      have hr2 := hr.out
      rw [if_neg e] at hr2
      rw [hr2]
      clear hM hz hS hp hzz hs rc ht hm hno hr2 e e2
      go_enter Tryd.func22, Tryd.ntmps22
      go_wp2_with fail
      refine HE.out.mono ?_
      rintro e w2 ⟨rfl, k2⟩
      have K2 := Box.mk k2
      obtain ⟨hx1, hx2⟩ := hfr.out w2 k2
      clear HE k2
      go_wp2_with fail
      go_end0
      exact ⟨rfl, hB2.out w2 K2.out⟩
  | none =>
    rw [hs] at hsl
    simp only at hsl
    have hr : Box (stCome n ⟨S, td, bad⟩ (q, zs) = ⟨fun i => if i = q then some zs else S i, td ++ [q], bad⟩) := ⟨by rw [stCome, if_neg hno]; simp only [hs]⟩
    have fq := hM.sfrz q
    have Hs := Box.mk hs
    have hqn : (q : Int) < (n : Int) := by omega
    have hkn := hM.kb_ne lkT_ref
    clear hM hS hzz hs hno
    rw [hr.out]
    go_enter Tryd.func22, Tryd.ntmps22
    go_wp2_with fail
    obtain ⟨i0, hi, hz0', hz1, hz2⟩ := info_parts infoInt
    have Hi := Box.mk (And.intro hi (And.intro hz0' (And.intro hz1 hz2)))
    clear hi hz0' hz1 hz2 hnil
    have HE0 : Box ((w.alloc (.cells #[] 3)).drew.ownsRow w.heap.size 3 1 (.slice (some ⟨w.heap.size, 0, none⟩) 0 0) 0 []) := ⟨World.ownsRow.drew (World.ownsRow_lit (base := w.heap.size) (e := 3) (size := 1) w #[] 0 (Nat.le_refl _) (by decide) rfl)⟩
    have HZ2 : Box (∀ j u, (rowI zs)[j]? = some u → (w.alloc (.cells #[] 3)).drew.cell? ((⟨g, 0, none⟩ : Addr).add j) = some u) := ⟨fun j u hu => by
      have hj : j < zs.length := by rw [← rowI_length zs]; exact (List.getElem?_eq_some_iff.1 hu).1
      have h1 : (w.alloc (.cells #[] 3)).drew.cell? ⟨g, j, none⟩ = _ := cell_below (ownI_cell HZ.out hj) ((Below.refl _ w).alloc (Nat.le_refl _) (.cells #[] 3)).drew
      rw [Addr.add_lit, Nat.zero_add, h1]
      simp [rowI, List.getElem?_eq_getElem hj] at hu
      rw [← hu]
      simp [List.getD, List.getElem?_eq_getElem hj]⟩
    have hzz2 : (rowI zs).length = (p + 1) * 1 := by rw [rowI_length, hp, Nat.mul_one]
    have Hkk := Box.mk hkn
    have hkb := lt_of_heap HM.out.head
    have hsb : sb < w.heap.size := by obtain ⟨cs, h1, _⟩ := HM.out.stk; exact lt_of_heap h1
    clear hp
    go_region_held3 (fun w' => w'.cell? ⟨kb, 1, none⟩ = some (.slice (some ⟨sb, 0, none⟩) n n)) (first | exact a1 | exact g4 | exact cell_below a1 ((Below.refl _ w).alloc (Nat.le_refl _) (.cells #[] 3)).drew | exact g3 | go_keep) (first | (refine step_append_lies _ (by rfl) _ _ 36 (by rfl) w.heap.size 3 i0 _ 1 8 Tryd.underlying36 Hi.out.1 Hi.out.2.1 Hi.out.2.2.1 Hi.out.2.2.2 rfl (by decide) (.slice (some ⟨w.heap.size, 0, none⟩) 0 0) 0 [] (by rfl) HE0.out ⟨g, 0, none⟩ (p + 1) cap (rowI zs) (by rfl) hzz2 HZ2.out (by unfold rowI; intro u hu; simp at hu; obtain ⟨x, _, rfl⟩ := hu; rfl) (by omega) (by unfold maxLen; omega) (by omega) (by simp) (w.heap.size + 1) (by simp) ?_; intro gg cc w3 hown hgrow hat hlt3; have kj : Below w.heap.size w w3 := ((Below.refl _ w).alloc (Nat.le_refl _) (.cells #[] 3)).drew.grown hgrow (by simp) (fun k hk => (HE0.out.lt k hk).1); have g1 := cell_below hsl kj; have g4 := cell_below a1 kj; have g2 : w3.frozen? ⟨sb, q, none⟩ = false := (HM.out.below kj).sfrz q; have g3 := cell_set_ne (r := ⟨sb, q, none⟩) (u := .slice (some ⟨gg, 0, none⟩) (p + 1) cc) (cell_below a1 kj) Hkk.out))
    rw [Nat.zero_add, List.nil_append] at hown
    have hM4 := (HM.out.below kj).put lkT_ref (i := q) (s := zs) (g := gg) (cap := cc) (by omega) Hs.out (by
      have := own_weaken' (B' := B) hown hB
      unfold ownI
      rw [Hp.out]; exact this) (fun e => by
      have := q_lt HM.out.todo gg e
      have h5 : w.heap.size ≤ gg := by
        rcases hat with h | h
        · simp [Value.ownBlock] at h; omega
        · omega
      omega)
    rw [Hp.out] at hM4
    have k4 : Below B w (w3.setCell ⟨sb, q, none⟩ (.slice (some ⟨gg, 0, none⟩) (p + 1) cc)) := (Below.mono kj hB).setCell (p := ⟨sb, q, none⟩) hBB.2 _
    have s4 : w.heap.size ≤ (w3.setCell ⟨sb, q, none⟩ (.slice (some ⟨gg, 0, none⟩) (p + 1) cc)).heap.size := by simpa using kj.size
    obtain ⟨w4, hw4⟩ : ∃ w4, w3.setCell ⟨sb, q, none⟩ (.slice (some ⟨gg, 0, none⟩) (p + 1) cc) = w4 := ⟨_, rfl⟩
    rw [hw4] at hM4 k4 s4 ⊢
    have e0 := hM4.at0
    have b1 := e0.1
    obtain ⟨tA, tC, htv, -⟩ := q_slice hM4.todo
    subst htv
    have b2 := e0.2.2.1
    have HM4 := Box.mk hM4
    have K4 := Box.mk k4
    have S4 := Box.mk s4
    have Ho4 := Box.mk hM4.todo
    clear hM4 k4 s4 hw4 e0 hown g1 g2 g3 g4 kj hgrow hat hlt3 a0 a1 a3 f3 hsl fq hcl HE0 HZ2 hzz2 hkb hsb Hi hz HZ HM HS hBad
    go_wp2_with (at_builtin; refine wpList_append_q _ rfl _ _ rfl B _ _ _ rfl (q_below Ho4.out ((Below.refl _ w4).alloc (Nat.le_refl _) _)) ⟨w4.heap.size, 0, none⟩ (.int .i64 (q : Int)) rfl ?c1 rfl ?c2 ?c3 ?_)
    case c1 => exact World.news_of_block (cs := #[.int .i64 (q : Int)]) (t := 3) (fr := (0, 0)) (heap_alloc_new _ _)
    case c2 => omega
    case c3 => have := S4.out; simp; omega
    intro A5 c5 w5 hown5 hgrow hat
    have hA : Below w4.heap.size w4 (w4.alloc (.cells #[.int .i64 (q : Int)] 3)) := (Below.refl _ w4).alloc (Nat.le_refl _) _
    have hM5 := (HM4.out.below hA).more lkT_ref (td' := td ++ [q]) (tv' := .slice A5 (td.length + 1) c5) hgrow (by
      rw [List.length_append, List.length_singleton]
      have : rowN (td ++ [q]) = rowN td ++ [.int .i64 (q : Int)] := by simp [rowN]
      rw [this]; exact hown5) (by
      rcases hat with h | ⟨b, h, h2⟩
      · exact .inl h
      · exact .inr ⟨b, h, by simp; omega⟩)
    have K5 : Box (Below B w (w5.setCell ⟨kb, 2, none⟩ (.slice A5 (td.length + 1) c5))) := ⟨((K4.out.alloc (Nat.le_trans hB S4.out) _).grown hgrow (Nat.le_trans hB (Nat.le_trans S4.out hA.size)) (fun k hk => (q_typed Ho4.out k hk).1)).setCell (p := ⟨kb, 2, none⟩) hBB.1 _⟩
    have S5 : Box (w.heap.size ≤ (w5.setCell ⟨kb, 2, none⟩ (.slice A5 (td.length + 1) c5)).heap.size) := ⟨by
      have h1 := S4.out
      have h2 := hA.size
      have h3 := hgrow.size
      simp
      omega⟩
    have HG : Box (LqGot 56 B kb sb (.slice A n c) n S R ⟨fun i => if i = q then some zs else S i, td ++ [q], bad⟩ w (w5.setCell ⟨kb, 2, none⟩ (.slice A5 (td.length + 1) c5))) :=
      ⟨⟨_, _, hM5, fun i hi => by
        by_cases e : i = q
        · rw [e] at hi; exact absurd Hs.out hi
        · rw [if_neg e]⟩, K5.out, S5.out⟩
    have hk5 : w5.heap[kb]? = some (.cells #[.slice A n c, .slice (some ⟨sb, 0, none⟩) n n, .slice tA td.length tC, .bool bad] 56 (0, 0)) := by
      have h0 := (HM4.out.below hA).head
      rw [hgrow.block kb (lt_of_heap h0) (fun e => q_block_ne Ho4.out HM4.out.head lkT_ref.ni e.symm)]; exact h0
    have d2 : w5.cell? ⟨kb, 2, none⟩ = some (.slice tA td.length tC) := by rw [cell_of_heap hk5]; rfl
    have f2 : w5.frozen? ⟨kb, 2, none⟩ = false := frozen_of_heap hk5 2
    clear hM5 hA hgrow hat hown5 hk5 K4 HM4 Ho4 b1 b2
    go_wp2_with fail
    go_end0
    exact ⟨rfl, HG.out⟩

end Go.Proofs.YtiimojpaeccajaaDoor
