/- looker.come by its contract. -/
import Derived.Test.YtiimojpaeccajaaGreatDoorLkP
import Derived.Test.YtiimojpaeccajaaGreatDoorShelf
import Derived.Deep.RegionHeld3
import Derived.Deep.AppendLies
namespace Go.Proofs.YtiimojpaeccajaaGreatDoor
set_option linter.unusedVariables false
set_option linter.unusedSimpArgs false
open Go.RowKit

theorem lkT_code : LkT 86 := ⟨by decide, by decide⟩
theorem infoInt : (Tryz.prog.info? 3).map (fun i => (i.zero, i.size, i.bytes)) = some (some (.int .i64 0), 1, 8) := by kernel_rfl
theorem own_weaken' {w : World} {B B' : Nat} {e : TypeId} {size n : Nat} {v : Value} {xs : List Value} (h : w.ownsRow B e size v n xs) (hb : B' ≤ B) : w.ownsRow B' e size v n xs := by
  refine ⟨h.1, ?_⟩
  rcases h.2 with ⟨h1, h2⟩ | ⟨g, cap, cur, hv, hg, r⟩
  · exact .inl ⟨h1, h2⟩
  · exact .inr ⟨g, cap, cur, hv, Nat.le_trans hb hg, r⟩
theorem cell_set_ne {w : World} {p r : Addr} {v u : Value} (h : w.cell? p = some v) (hb : p.block ≠ r.block) : (w.setCell r u).cell? p = some v := by
  rw [World.cell?_of_block (Below.heap_setCell w r u p.block hb)]; exact h
theorem own_form {w : World} {B : Nat} {e : TypeId} {size p : Nat} {v : Value} {xs : List Value} (h : w.ownsRow B e size v (p + 1) xs) : ∃ g c, v = .slice (some ⟨g, 0, none⟩) (p + 1) c ∧ B ≤ g := by
  rcases h.2 with ⟨_, h2⟩ | ⟨g, cap, cur, hv, hg, _⟩
  · cases h2
  · exact ⟨g, cap, hv, hg⟩
theorem stop_getD (zs : List Int) (p : Nat) (h : zs.length = p + 1) : zs.getD p 0 = stop zs := by
  unfold stop
  have hne : zs ≠ [] := by intro e; rw [e] at h; cases h
  rw [List.getLastD_eq_getLast?, List.getLast?_eq_getElem?, h]
  simp [List.getD]

structure LkGot (T : TypeId) (B kb sb : Nat) (lv : Value) (n : Nat) (S : Nat → Option (List Int)) (R : Nat → Nat × Nat) (k : StK) (w0 w' : World) : Prop where
  mem : ∃ R' tv', LkM T w' B kb sb lv n k.S R' k.todo tv' k.bad ∧ ∀ i, S i ≠ none → R' i = R i
  keeps : Below B w0 w'
  size : w0.heap.size ≤ w'.heap.size

set_option maxHeartbeats 2000000 in
set_option maxRecDepth 100000 in
theorem come_is {w : World} {B kb sb n : Nat} {A : Option Addr} {c : Nat} {S : Nat → Option (List Int)} {R : Nat → Nat × Nat} {td : List Nat} {tv : Value} {bad : Bool}
    (hM : LkM 86 w B kb sb (.slice A n c) n S R td tv bad) (hn : n ≤ 8000) (q : Nat) (hq : q ≤ 8000) {B' g cap : Nat} {zs : List Int} (hz : ownI w B' g cap zs) (hz0 : zs ≠ []) (hzl : zs.length ≤ 201) (hB : B ≤ w.heap.size) (htd : td.length ≤ 100000) (hS : ∀ i s, S i = some s → s.length ≤ 200) :
    Calls Tryz.prog 54 #[.pointer (some ⟨kb, 0, none⟩), .int .i64 q, .slice (some ⟨g, 0, none⟩) zs.length cap] w fun e w' => e = .returned (.tuple #[]) ∧
      LkGot 86 B kb sb (.slice A n c) n S R (stCome n ⟨S, td, bad⟩ (q, zs)) w w' := by
  have a0 := hM.at0.1
  have a1 := hM.at0.2.1
  have a3 := hM.at0.2.2.2
  have f3 := hM.frz 3
  have hBB := hM.base
  have HM := Box.mk hM
  have HZ := Box.mk hz
  have hpos : 0 < zs.length := by cases zs with | nil => exact absurd rfl hz0 | cons => simp
  obtain ⟨p, hp⟩ : ∃ p, zs.length = p + 1 := ⟨zs.length - 1, by omega⟩
  clear hpos
  have hcl := ownI_cell hz (j := p) (by omega)
  rw [stop_getD zs p hp] at hcl
  obtain ⟨z, hzz⟩ : ∃ z, stop zs = z := ⟨_, rfl⟩
  have Hzz := Box.mk hzz
  have Hp := Box.mk hp
  have hcap : p + 1 ≤ cap := by
    rcases hz.2 with ⟨h1, _⟩ | ⟨g', cap', cur, hv, _, _, h2, _⟩
    · cases h1
    · simp only [Value.slice.injEq, Option.some.injEq, Addr.mk.injEq, and_true] at hv
      obtain ⟨rfl, -, rfl⟩ := hv
      omega
  rw [hzz] at hcl
  have HS := Box.mk hS
  have hnil : ∀ (w : World) (a : Option Addr) (n c n' c' : Nat), (binOp .eql 31 (.slice a n c) (.slice none n' c')).run Tryz.prog w = .ok (.bool a.isNone) w := fun w a n c n' c' => Lib.run_eql_slice_nil w _ _ a n c n' c' Tryz.underlying31
  rw [hp] at hzl ⊢
  have hBad : Box (∀ (w1 : World), w1 = w.setCell ⟨kb, 3, none⟩ (.bool true) → (stCome n ⟨S, td, bad⟩ (q, zs) = ⟨S, td, true⟩) → LkGot 86 B kb sb (.slice A n c) n S R (stCome n ⟨S, td, bad⟩ (q, zs)) w w1) := ⟨fun w1 e h => by
    rw [h, e]
    exact ⟨⟨R, tv, HM.out.setBad lkT_code true, fun _ _ => rfl⟩, (Below.refl B w).setCell (p := ⟨kb, 3, none⟩) hBB.1 _, by simp⟩⟩
  by_cases h1 : n ≤ q
  · have hr : Box (stCome n ⟨S, td, bad⟩ (q, zs) = ⟨S, td, true⟩) := ⟨by rw [stCome, if_pos (.inl h1)]⟩
    clear hM hz hS hp hzz
    go_enter Tryz.func54, Tryz.ntmps54
    go_wp2_with fail
    go_end0
    exact ⟨rfl, hBad.out _ rfl hr.out⟩
  by_cases h2 : 200 < p + 1
  · have hr : Box (stCome n ⟨S, td, bad⟩ (q, zs) = ⟨S, td, true⟩) := ⟨by rw [stCome, if_pos (.inr (.inl (by rw [hp]; exact h2)))]⟩
    clear hM hz hS hp hzz
    have h2' : (200 : Int) < (p : Int) + 1 := by omega
    go_enter Tryz.func54, Tryz.ntmps54
    go_wp2_with fail
    go_end0
    exact ⟨rfl, hBad.out _ rfl hr.out⟩
  by_cases h3 : 29 < z
  · have hr : Box (stCome n ⟨S, td, bad⟩ (q, zs) = ⟨S, td, true⟩) := ⟨by rw [stCome, if_pos (.inr (.inr (by rw [Hzz.out]; exact h3)))]⟩
    clear hM hz hS hp hzz
    go_enter Tryz.func54, Tryz.ntmps54
    go_wp2_with fail
    go_end0
    exact ⟨rfl, hBad.out _ rfl hr.out⟩
  have hno : ¬ (n ≤ q ∨ 200 < zs.length ∨ 29 < stop zs) := by rw [hp, hzz]; omega
  have hsl := hM.slot (i := q) (by omega)
  cases hs : S q with
  | some t =>
    rw [hs] at hsl
    simp only at hsl
    obtain ⟨r, rc⟩ : ∃ r, R q = r := ⟨_, rfl⟩
    have ht := (hM.row q t hs).1
    rw [rc] at ht hsl
    have HE := Box.mk (fun (W : World) (hW : W = w) => Tryz.slices_Equal_int r.1 0 t.length r.2 g 0 zs.length cap t zs W (Nat.le_refl _) (Nat.le_refl _) (by have := HS.out q t hs; omega) (by rw [hp]; omega) (fun j hj => by rw [hW, Nat.zero_add]; exact ownI_cell ht hj) (fun j hj => by rw [hW, Nat.zero_add]; exact ownI_cell hz hj))
    rw [List.take_length, List.take_length, hp] at HE
    have hr : Box (stCome n ⟨S, td, bad⟩ (q, zs) = if t = zs then ⟨S, td, bad⟩ else ⟨S, td, true⟩) := ⟨by rw [stCome, if_neg hno]; simp only [hs]⟩
    obtain ⟨m, hm⟩ : ∃ m, t.length = m := ⟨_, rfl⟩
    rw [hm] at HE hsl
    have hG : Box (∀ m, LkGot 86 B kb sb (.slice A n c) n S R ⟨S, td, bad⟩ w (w.drewN m)) := ⟨fun m => ⟨⟨R, tv, HM.out.below (below_drewN w m), fun _ _ => rfl⟩, Below.mono (below_drewN w m) hB, Nat.le_refl _⟩⟩
    have hB2 : Box (∀ m, LkGot 86 B kb sb (.slice A n c) n S R ⟨S, td, true⟩ w ((w.drewN m).setCell ⟨kb, 3, none⟩ (.bool true))) := ⟨fun m => ⟨⟨R, tv, (HM.out.below (below_drewN w m)).setBad lkT_code true, fun _ _ => rfl⟩, (Below.mono (below_drewN w m) hB).setCell (p := ⟨kb, 3, none⟩) hBB.1 _, by simp⟩⟩
    by_cases e : t = zs
    · have e2 : (t == zs) = true := by simpa using e
      rw [e2] at HE
      have hr2 := hr.out
      rw [if_pos e] at hr2
      rw [hr2]
      clear hM hz hS hp hzz hs rc ht hm hno hr2 e e2
      go_enter Tryz.func54, Tryz.ntmps54
      go_wp2_with fail
      refine (HE.out _ rfl).mono ?_
      rintro e w2 ⟨rfl, mq, rfl⟩
      clear HE
      go_wp2_with fail
      go_end0
      exact ⟨rfl, hG.out mq⟩
    · have e2 : (t == zs) = false := by simpa using e
      rw [e2] at HE
      have hr2 := hr.out
      rw [if_neg e] at hr2
      rw [hr2]
      clear hM hz hS hp hzz hs rc ht hm hno hr2 e e2
      go_enter Tryz.func54, Tryz.ntmps54
      go_wp2_with fail
      refine (HE.out _ rfl).mono ?_
      rintro e w2 ⟨rfl, mq, rfl⟩
      clear HE
      go_wp2_with fail
      go_end0
      exact ⟨rfl, hB2.out mq⟩
  | none =>
    rw [hs] at hsl
    simp only at hsl
    have hr : Box (stCome n ⟨S, td, bad⟩ (q, zs) = ⟨fun i => if i = q then some zs else S i, td ++ [q], bad⟩) := ⟨by rw [stCome, if_neg hno]; simp only [hs]⟩
    have HZc := Box.mk (fun j (hj : j < zs.length) => (show w.cell? ⟨g, 0 + j, none⟩ = some (.int .i64 (zs.getD j 0)) by rw [Nat.zero_add]; exact ownI_cell hz hj))
    have HCl := Box.mk (fun (W : World) hc => Tryz.slices_Clone_int g 0 zs.length cap zs W (Nat.le_refl _) (by omega) hc)
    rw [List.take_length, hp] at HCl
    rw [hp] at HZc
    have fq := hM.sfrz q
    have Hs := Box.mk hs
    have hqn : (q : Int) < (n : Int) := by omega
    have hkn := hM.kb_ne lkT_code
    clear hM hz hS hzz hs hno
    rw [hr.out]
    go_enter Tryz.func54, Tryz.ntmps54
    go_wp2_with fail
    go_region_held3 (fun w' => w'.cell? ⟨kb, 1, none⟩ = some (.slice (some ⟨sb, 0, none⟩) n n)) (first | exact a1 | exact cell_below a1 kj | exact g3 | go_keep) (first | (go_at_call 80; refine (HCl.out w.drew HZc.out).mono ?_; rintro e w3 ⟨v', rfl, hown, hv0, kj⟩; obtain ⟨gg, cc, rfl, hgg⟩ := own_form hown; have kj : Below w.heap.size w w3 := Below.trans (Below.drew (Below.refl _ w)) kj; have g1 := cell_below hsl kj; have g2 : w3.frozen? ⟨sb, q, none⟩ = false := (HM.out.below kj).sfrz q; have g3 := cell_set_ne (r := ⟨sb, q, none⟩) (u := .slice (some ⟨gg, 0, none⟩) (p + 1) cc) (cell_below a1 kj) hkn))
    have hM4 := (HM.out.below kj).put lkT_code (i := q) (s := zs) (g := gg) (cap := cc) (by omega) Hs.out (by
      have := own_weaken' (B' := B) hown (Nat.le_trans hB (by show w.heap.size ≤ w.heap.size; exact Nat.le_refl _))
      unfold ownI rowI
      rw [Hp.out]; exact this) (fun e => by have := own_lt' HM.out.todo e; have h5 : w.heap.size ≤ gg := hgg; omega)
    rw [Hp.out] at hM4
    have k4 : Below B w (w3.setCell ⟨sb, q, none⟩ (.slice (some ⟨gg, 0, none⟩) (p + 1) cc)) := (Below.mono kj hB).setCell (p := ⟨sb, q, none⟩) hBB.2 _
    have s4 : w.heap.size ≤ (w3.setCell ⟨sb, q, none⟩ (.slice (some ⟨gg, 0, none⟩) (p + 1) cc)).heap.size := by simpa using kj.size
    obtain ⟨w4, hw4⟩ : ∃ w4, w3.setCell ⟨sb, q, none⟩ (.slice (some ⟨gg, 0, none⟩) (p + 1) cc) = w4 := ⟨_, rfl⟩
    rw [hw4] at hM4 k4 s4 ⊢
    have e0 := hM4.at0
    have b1 := e0.1
    have b2 := e0.2.2.1
    have HM4 := Box.mk hM4
    have K4 := Box.mk k4
    have S4 := Box.mk s4
    have Ho4 := Box.mk hM4.todo
    obtain ⟨i0, hi, hz0', hz1, hz2⟩ := info_parts infoInt
    have Hi := Box.mk (And.intro hi (And.intro hz0' (And.intro hz1 hz2)))
    clear hM4 k4 s4 hw4 e0 hown hv0 g1 g2 g3 kj hgg a0 a1 a3 f3 hsl fq HCl HZc hcl hi hz0' hz1 hz2
    go_wp2_with (at_builtin; refine wpList_append_lies _ rfl _ _ 31 rfl B 3 i0 (.int .i64 0) 1 8 Tryz.underlying31 Hi.out.1 Hi.out.2.1 Hi.out.2.2.1 Hi.out.2.2.2 rfl (by decide) _ _ _ rfl (Ho4.out.alloc _) ⟨w4.heap.size, 0, none⟩ 1 1 [.int .i64 (q : Int)] rfl rfl ?c1 ?c2 (by decide) ?c3 ?c4 ?c5 _ rfl ?_)
    case c1 => exact World.news_of_block (cs := #[.int .i64 (q : Int)]) (t := 3) (fr := (0, 0)) (heap_alloc_new _ _)
    case c2 => intro u hu; simp at hu; subst hu; rfl
    case c3 => unfold maxLen; omega
    case c4 => omega
    case c5 => have := S4.out; simp; omega
    intro g5 cap5 w5 hown5 hgrow hat hlt5
    have hA : Below w4.heap.size w4 (w4.alloc (.cells #[.int .i64 (q : Int)] 3)) := (Below.refl _ w4).alloc (Nat.le_refl _) _
    have hM5 := (HM4.out.below hA).more lkT_code (td' := td ++ [q]) (tv' := .slice (some ⟨g5, 0, none⟩) (td.length + 1) cap5) hgrow (by
      rw [List.length_append, List.length_singleton]
      have : rowN (td ++ [q]) = rowN td ++ [.int .i64 (q : Int)] := by simp [rowN]
      rw [this]; exact hown5) (by
      rcases hat with h | h
      · left; rw [h]; rfl
      · right; intro gx hgx; simp [Value.ownBlock] at hgx; rw [← hgx, h]; simp)
    have K5 : Box (Below B w (w5.setCell ⟨kb, 2, none⟩ (.slice (some ⟨g5, 0, none⟩) (td.length + 1) cap5))) := ⟨((K4.out.alloc (Nat.le_trans hB S4.out) _).grown hgrow (Nat.le_trans hB (Nat.le_trans S4.out hA.size)) (fun k hk => (Ho4.out.lt k hk).1)).setCell (p := ⟨kb, 2, none⟩) hBB.1 _⟩
    have S5 : Box (w.heap.size ≤ (w5.setCell ⟨kb, 2, none⟩ (.slice (some ⟨g5, 0, none⟩) (td.length + 1) cap5)).heap.size) := ⟨by
      have h1 := S4.out
      have h2 := hA.size
      have h3 := hgrow.size
      simp
      omega⟩
    have HG : Box (LkGot 86 B kb sb (.slice A n c) n S R ⟨fun i => if i = q then some zs else S i, td ++ [q], bad⟩ w (w5.setCell ⟨kb, 2, none⟩ (.slice (some ⟨g5, 0, none⟩) (td.length + 1) cap5))) :=
      ⟨⟨_, _, hM5, fun i hi => by
        by_cases e : i = q
        · rw [e] at hi; exact absurd Hs.out hi
        · rw [if_neg e]⟩, K5.out, S5.out⟩
    have hM6 : LkM 86 w5 B kb sb (.slice A n c) n (fun j => if j = q then some zs else S j) (fun j => if j = q then (gg, cc) else R j) td tv bad ∨ True := .inr trivial
    have hk5 : w5.heap[kb]? = some (.cells #[.slice A n c, .slice (some ⟨sb, 0, none⟩) n n, tv, .bool bad] 86 (0, 0)) := by
      have h0 := (HM4.out.below hA).head
      rw [hgrow.block kb (lt_of_heap h0) (fun e => own_block_ne Ho4.out HM4.out.head lkT_code.ni e.symm)]; exact h0
    have d2 : w5.cell? ⟨kb, 2, none⟩ = some tv := by rw [cell_of_heap hk5]; rfl
    have f2 : w5.frozen? ⟨kb, 2, none⟩ = false := frozen_of_heap hk5 2
    clear hM5 hA hgrow hat hown5 hk5 hM6 K4 HM4 Ho4 b1 b2
    go_wp2_with fail
    go_end0
    exact ⟨rfl, HG.out⟩

end Go.Proofs.YtiimojpaeccajaaGreatDoor
