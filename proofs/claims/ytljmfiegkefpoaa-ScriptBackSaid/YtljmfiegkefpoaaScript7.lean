/- An act's bytes. -/
import Derived.Test.YtljmfiegkefpoaaScript6
import Derived.Test.YtljmfiegkefpoaaQRef2
import Derived.Lib.AppendStr
import Derived.Laws.IdiomStrings
namespace Go.Proofs.Ytljmfiegkefpoaa
set_option linter.unusedVariables false
set_option linter.unusedSimpArgs false
open Go.RowKit

/-- An act's bytes; none: it can't be written. -/
def encOf (a : ActI) : Option ByteArray :=
  if a.1 = 1 then (if a.2.1 = 0 ∧ a.2.2.size ≤ 255 then some ⟨#[1, UInt8.ofNat a.2.2.size] ++ a.2.2.data⟩ else none)
  else if a.1 = 3 then (if a.2.1 = 0 ∧ a.2.2.size = 0 then some ⟨#[3]⟩ else none)
  else if a.1 = 4 then (if 0 ≤ a.2.1 ∧ a.2.1 ≤ 65535 ∧ a.2.2.size = 0 then some ⟨#[4, UInt8.ofNat (a.2.1.toNat % 256), UInt8.ofNat (a.2.1.toNat / 256)]⟩ else none)
  else if a.1 = 2 ∨ a.1 = 5 ∨ a.1 = 6 then (if 0 ≤ a.2.1 ∧ a.2.1 ≤ 255 ∧ a.2.2.size = 0 then some ⟨#[UInt8.ofNat a.1.toNat, UInt8.ofNat a.2.1.toNat]⟩ else none)
  else none

theorem info_u8 : (Try.prog.info? 5).map (fun i => (i.zero, i.size, i.bytes)) = some (some (.int .u8 0), 1, 1) := by kernel_rfl

/-- What bytes answers. -/
structure BytesSaid (w : World) (a : ActI) (e : Ending) (w' : World) : Prop where
  said : ∃ v ok, e = .returned (.tuple #[v, .bool ok]) ∧ (encOf a = none → ok = false) ∧ ∀ b, encOf a = some b → ok = true ∧ w'.ownsRow w.heap.size 5 1 v b.size (Go.Lib.strCells b)
  keeps : Keeps (fun _ => False) w w'

theorem toList_nil (t : ByteArray) : (t.toList == ([] : List UInt8)) = decide (t.size = 0) := by
  rw [ByteArray.toList_eq]
  cases t with
  | mk d => cases d with
    | mk l => cases l <;> simp [ByteArray.size]

theorem own_new (w : World) (base : Nat) (e : TypeId) (cs : List Value) (hb : base ≤ w.heap.size) (hl : cs.length ≤ maxLen) :
    (w.alloc (.cells cs.toArray e)).ownsRow base e 1 (.slice (some ⟨w.heap.size, 0, none⟩) cs.length cs.length) cs.length cs :=
  ⟨by simp, .inr ⟨w.heap.size, cs.length, cs.toArray, rfl, hb, heap_alloc_new _ _, Nat.le_refl _, hl, by simp, by simp⟩⟩

theorem saidNo {w w' : World} {a : ActI} {v : Value} (h : encOf a = none) (k : Keeps (fun _ => False) w w') : BytesSaid w a (.returned (.tuple #[v, .bool false])) w' :=
  ⟨⟨v, false, rfl, fun _ => rfl, fun b hb => by rw [h] at hb; cases hb⟩, k⟩
theorem saidYes {w w' : World} {a : ActI} {v : Value} {b : ByteArray} (h : encOf a = some b) (ho : w'.ownsRow w.heap.size 5 1 v b.size (Go.Lib.strCells b)) (k : Keeps (fun _ => False) w w') : BytesSaid w a (.returned (.tuple #[v, .bool true])) w' :=
  ⟨⟨v, true, rfl, fun h' => (by rw [h] at h'; cases h'), fun b' hb => by rw [h] at hb; injection hb with hb; subst hb; exact ⟨rfl, ho⟩⟩, k⟩
theorem u8_nat (n : Int) (h0 : 0 ≤ n) (h1 : n ≤ 255) : ((UInt8.ofNat n.toNat).toNat : Int) = n := by
  rw [UInt8.toNat_ofNat']; omega
theorem u8_wrap (n : Int) (h0 : 0 ≤ n) (h1 : n ≤ 255) : IntKind.u8.wrap n = n := by
  simp only [IntKind.wrap]
  simp [IntKind.bits, IntKind.signed]
  omega

theorem enc1 (n : Int) (t : ByteArray) : encOf (1, n, t) = if n = 0 ∧ t.size ≤ 255 then some ⟨#[1, UInt8.ofNat t.size] ++ t.data⟩ else none := by
  unfold encOf
  rw [if_pos (by simp)]
theorem enc3 (n : Int) (t : ByteArray) : encOf (3, n, t) = if n = 0 ∧ t.size = 0 then some ⟨#[3]⟩ else none := by
  unfold encOf
  rw [if_neg (by simp), if_pos (by simp)]
theorem enc4 (n : Int) (t : ByteArray) : encOf (4, n, t) = if 0 ≤ n ∧ n ≤ 65535 ∧ t.size = 0 then some ⟨#[4, UInt8.ofNat (n.toNat % 256), UInt8.ofNat (n.toNat / 256)]⟩ else none := by
  unfold encOf
  rw [if_neg (by simp), if_neg (by simp), if_pos (by simp)]
theorem enc256 (k n : Int) (t : ByteArray) (hk : k = 2 ∨ k = 5 ∨ k = 6) : encOf (k, n, t) = if 0 ≤ n ∧ n ≤ 255 ∧ t.size = 0 then some ⟨#[UInt8.ofNat k.toNat, UInt8.ofNat n.toNat]⟩ else none := by
  unfold encOf
  rw [if_neg (by simp; omega), if_neg (by simp; omega), if_neg (by simp; omega), if_pos (by simpa using hk)]
theorem enc_other (k n : Int) (t : ByteArray) (hk : k < 1 ∨ 6 < k) : encOf (k, n, t) = none := by
  unfold encOf
  rw [if_neg (by simp; omega), if_neg (by simp; omega), if_neg (by simp; omega), if_neg (by simp; omega)]

set_option maxRecDepth 100000 in
set_option maxHeartbeats 4000000 in
theorem bytes_tick (n : Int) (t : ByteArray) (w : World) :
    Calls Try.prog 38 #[.agg #[.int .i64 3, .int .i64 n, .string t]] w fun e w' => BytesSaid w (3, n, t) e w' := by
  have Ht := Box.mk (toList_nil t)
  obtain ⟨tb, htb⟩ : ∃ tb, (t.toList == ([] : List UInt8)) = tb := ⟨_, rfl⟩
  rw [htb] at Ht
  obtain ⟨i0, hi0, hz0, hz1, hz2⟩ := info_parts info_u8
  have Hi := Box.mk (And.intro hi0 (And.intro hz0 (And.intro hz1 hz2)))
  clear hi0 hz0 hz1 hz2
  go_enter Try.func38, Try.ntmps38
  go_wp2_with fail
  go_region
  go_wp2_with fail

  by_cases h0 : n < 0
  · have h00 : ¬ (0 ≤ n) := by omega
    go_quiet (fail)
    go_wp2_with fail
    exact bodyPost_ret (v := .tuple #[.slice (some ⟨w.heap.size + 1, 0, none⟩) 1 1, .bool false]) (by simp [results, Try.results38, go_sem]) rfl (saidNo (by rw [enc3, if_neg (by omega)]) ((((Keeps.refl _ _).alloc _).alloc _).drewN _))
  · have h00 : 0 ≤ n := by omega
    by_cases h1 : 0 < n
    · have h11 : ¬ (n ≤ 0) := by omega
      go_quiet (fail)
      go_wp2_with fail
      exact bodyPost_ret (v := .tuple #[.slice (some ⟨w.heap.size + 1, 0, none⟩) 1 1, .bool false]) (by simp [results, Try.results38, go_sem]) rfl (saidNo (by rw [enc3, if_neg (by omega)]) ((((Keeps.refl _ _).alloc _).alloc _).drewN _))
    · have h11 : n ≤ 0 := by omega
      cases tb with
      | false =>
        have h22 : ¬ t.size = 0 := by have h := Ht.out; intro h'; rw [h'] at h; simp at h
        go_quiet (fail)
        go_wp2_with fail
        exact bodyPost_ret (v := .tuple #[.slice (some ⟨w.heap.size + 1, 0, none⟩) 1 1, .bool false]) (by simp [results, Try.results38, go_sem]) rfl (saidNo (by rw [enc3, if_neg (by omega)]) ((((Keeps.refl _ _).alloc _).alloc _).drewN _))
      | true =>
        have h22 : t.size = 0 := by have h := Ht.out; simpa using h.symm
        go_quiet (fail)
        go_wp2_with fail
        exact bodyPost_ret (v := .tuple #[.slice (some ⟨w.heap.size + 1, 0, none⟩) 1 1, .bool true]) (by simp [results, Try.results38, go_sem]) rfl (saidYes (b := ⟨#[3]⟩) (by rw [enc3, if_pos (by omega)]) (by have := own_new (w.alloc (.cells #[.int .i64 3, .int .i64 n, .string t] 72)) w.heap.size 5 [.int .u8 3] (by simp) (by decide); simp at this; exact this) ((((Keeps.refl _ _).alloc _).alloc _).drewN _))
set_option maxRecDepth 100000 in
set_option maxHeartbeats 4000000 in
theorem bytes_2 (n : Int) (t : ByteArray) (w : World) :
    Calls Try.prog 38 #[.agg #[.int .i64 2, .int .i64 n, .string t]] w fun e w' => BytesSaid w (2, n, t) e w' := by
  have Ht := Box.mk (toList_nil t)
  obtain ⟨tb, htb⟩ : ∃ tb, (t.toList == ([] : List UInt8)) = tb := ⟨_, rfl⟩
  rw [htb] at Ht
  obtain ⟨i0, hi0, hz0, hz1, hz2⟩ := info_parts info_u8
  have Hi := Box.mk (And.intro hi0 (And.intro hz0 (And.intro hz1 hz2)))
  clear hi0 hz0 hz1 hz2
  go_enter Try.func38, Try.ntmps38
  go_wp2_with fail
  obtain ⟨x, hx⟩ : ∃ x, IntKind.u8.wrap n = x := ⟨_, rfl⟩

  go_region
  have H1 : Box ((((w.alloc (.cells #[.int .i64 2, .int .i64 n, .string t] 72)).alloc (.cells #[.int .u8 2] 5)).drew).ownsRow w.heap.size 5 1 (.slice (some ⟨w.heap.size + 1, 0, none⟩) 1 1) 1 [.int .u8 2]) := ⟨by have := own_new (w.alloc (.cells #[.int .i64 2, .int .i64 n, .string t] 72)) w.heap.size 5 [.int .u8 2] (by simp) (by decide); simp at this; exact this⟩
  have hB := heap_alloc_new w (.cells #[.int .i64 2, .int .i64 n, .string t] 72)
  go_wp2_with (at_builtin; refine wpList_append_own _ rfl _ _ 79 rfl w.heap.size 5 i0 _ 1 1 Try.underlying79 Hi.out.1 Hi.out.2.1 Hi.out.2.2.1 Hi.out.2.2.2 rfl (by decide) (.slice (some ⟨w.heap.size + 1, 0, none⟩) 1 1) 1 _ rfl (H1.out.alloc _) ⟨w.heap.size + 2, 0, none⟩ 1 1 [.int .u8 x] rfl rfl ?c1 ?c2 ?c3 ?c4 ?c5 ?c6)
  case c1 => exact World.news_of_block (cs := #[.int .u8 x]) (t := 5) (fr := (0, 0)) (by have := heap_alloc_new (((w.alloc (.cells #[.int .i64 2, .int .i64 n, .string t] 72)).alloc (.cells #[.int .u8 2] 5)).drew) (.cells #[.int .u8 x] 5); rw [show (((w.alloc (.cells #[.int .i64 2, .int .i64 n, .string t] 72)).alloc (.cells #[.int .u8 2] 5)).drew).heap.size = w.heap.size + 2 by simp] at this; exact this)
  case c2 => intro u hu; simp at hu; rcases hu with rfl <;> rfl
  case c3 => decide
  case c4 => decide
  case c5 => simp; omega
  case c6 =>
    intro v' w6 hown6 hgrow _
    have k6 : Keeps (fun z => z = w.heap.size + 1) (w.alloc (.cells #[.int .i64 2, .int .i64 n, .string t] 72)) w6 := ((((Keeps.refl (fun z => z = w.heap.size + 1) (w.alloc (.cells #[.int .i64 2, .int .i64 n, .string t] 72))).alloc _).drew).alloc _).grown hgrow (fun k hk _ => by simpa [Value.ownBlock] using hk.symm)
    have hB6 := k6.heap hB (by omega)
    have a0 := cell_of_heap hB6 0
    have a1 := cell_of_heap hB6 1
    have a2 := cell_of_heap hB6 2
    simp only [List.getElem?_toArray, List.getElem?_cons_zero, List.getElem?_cons_succ] at a0 a1 a2
    have K6 := Box.mk (((Keeps.refl (fun _ => False) w).alloc (.cells #[.int .i64 2, .int .i64 n, .string t] 72)).trans' k6 (by intro i hi h; omega))
    have Hown6 := Box.mk hown6
    clear hown6 hgrow k6 hB hB6 H1
    obtain ⟨va, vn, vc, rfl⟩ : ∃ va vn vc, v' = .slice va vn vc := by
      rcases Hown6.out.2 with ⟨h, _⟩ | ⟨g, cap, cur, h, _⟩
      · exact ⟨_, _, _, h⟩
      · exact ⟨_, _, _, h⟩
    go_wp2_with fail
    by_cases h0 : n < 0
    · have h00 : ¬ (0 ≤ n) := by omega
      go_quiet (fail)
      go_wp2_with fail
      exact bodyPost_ret (v := .tuple #[.slice va vn vc, .bool false]) (by simp [results, Try.results38, go_sem]) rfl (saidNo (by rw [enc256 2 n t (by omega), if_neg (by omega)]) (K6.out.drewN _))
    · have h00 : 0 ≤ n := by omega
      by_cases h1 : 255 < n
      · have h11 : ¬ (n ≤ 255) := by omega
        go_quiet (fail)
        go_wp2_with fail
        exact bodyPost_ret (v := .tuple #[.slice va vn vc, .bool false]) (by simp [results, Try.results38, go_sem]) rfl (saidNo (by rw [enc256 2 n t (by omega), if_neg (by omega)]) (K6.out.drewN _))
      · have h11 : n ≤ 255 := by omega
        cases tb with
        | false =>
          have h22 : ¬ t.size = 0 := by have h := Ht.out; intro h'; rw [h'] at h; simp at h
          go_quiet (fail)
          go_wp2_with fail
          exact bodyPost_ret (v := .tuple #[.slice va vn vc, .bool false]) (by simp [results, Try.results38, go_sem]) rfl (saidNo (by rw [enc256 2 n t (by omega), if_neg (by omega)]) (K6.out.drewN _))
        | true =>
          have h22 : t.size = 0 := by have h := Ht.out; simpa using h.symm
          go_quiet (fail)
          go_wp2_with fail
          exact bodyPost_ret (v := .tuple #[.slice va vn vc, .bool true]) (by simp [results, Try.results38, go_sem]) rfl (saidYes (b := ⟨#[UInt8.ofNat (2 : Int).toNat, UInt8.ofNat n.toNat]⟩) (by rw [enc256 2 n t (by omega), if_pos (by omega)]) (by have h := Hown6.out; rw [← hx, u8_wrap n h00 h11, ← u8_nat n h00 h11] at h; exact h) (K6.out.drewN _))
set_option maxRecDepth 100000 in
set_option maxHeartbeats 4000000 in
theorem bytes_5 (n : Int) (t : ByteArray) (w : World) :
    Calls Try.prog 38 #[.agg #[.int .i64 5, .int .i64 n, .string t]] w fun e w' => BytesSaid w (5, n, t) e w' := by
  have Ht := Box.mk (toList_nil t)
  obtain ⟨tb, htb⟩ : ∃ tb, (t.toList == ([] : List UInt8)) = tb := ⟨_, rfl⟩
  rw [htb] at Ht
  obtain ⟨i0, hi0, hz0, hz1, hz2⟩ := info_parts info_u8
  have Hi := Box.mk (And.intro hi0 (And.intro hz0 (And.intro hz1 hz2)))
  clear hi0 hz0 hz1 hz2
  go_enter Try.func38, Try.ntmps38
  go_wp2_with fail
  obtain ⟨x, hx⟩ : ∃ x, IntKind.u8.wrap n = x := ⟨_, rfl⟩

  go_region
  have H1 : Box ((((w.alloc (.cells #[.int .i64 5, .int .i64 n, .string t] 72)).alloc (.cells #[.int .u8 5] 5)).drew).ownsRow w.heap.size 5 1 (.slice (some ⟨w.heap.size + 1, 0, none⟩) 1 1) 1 [.int .u8 5]) := ⟨by have := own_new (w.alloc (.cells #[.int .i64 5, .int .i64 n, .string t] 72)) w.heap.size 5 [.int .u8 5] (by simp) (by decide); simp at this; exact this⟩
  have hB := heap_alloc_new w (.cells #[.int .i64 5, .int .i64 n, .string t] 72)
  go_wp2_with (at_builtin; refine wpList_append_own _ rfl _ _ 79 rfl w.heap.size 5 i0 _ 1 1 Try.underlying79 Hi.out.1 Hi.out.2.1 Hi.out.2.2.1 Hi.out.2.2.2 rfl (by decide) (.slice (some ⟨w.heap.size + 1, 0, none⟩) 1 1) 1 _ rfl (H1.out.alloc _) ⟨w.heap.size + 2, 0, none⟩ 1 1 [.int .u8 x] rfl rfl ?c1 ?c2 ?c3 ?c4 ?c5 ?c6)
  case c1 => exact World.news_of_block (cs := #[.int .u8 x]) (t := 5) (fr := (0, 0)) (by have := heap_alloc_new (((w.alloc (.cells #[.int .i64 5, .int .i64 n, .string t] 72)).alloc (.cells #[.int .u8 5] 5)).drew) (.cells #[.int .u8 x] 5); rw [show (((w.alloc (.cells #[.int .i64 5, .int .i64 n, .string t] 72)).alloc (.cells #[.int .u8 5] 5)).drew).heap.size = w.heap.size + 2 by simp] at this; exact this)
  case c2 => intro u hu; simp at hu; rcases hu with rfl <;> rfl
  case c3 => decide
  case c4 => decide
  case c5 => simp; omega
  case c6 =>
    intro v' w6 hown6 hgrow _
    have k6 : Keeps (fun z => z = w.heap.size + 1) (w.alloc (.cells #[.int .i64 5, .int .i64 n, .string t] 72)) w6 := ((((Keeps.refl (fun z => z = w.heap.size + 1) (w.alloc (.cells #[.int .i64 5, .int .i64 n, .string t] 72))).alloc _).drew).alloc _).grown hgrow (fun k hk _ => by simpa [Value.ownBlock] using hk.symm)
    have hB6 := k6.heap hB (by omega)
    have a0 := cell_of_heap hB6 0
    have a1 := cell_of_heap hB6 1
    have a2 := cell_of_heap hB6 2
    simp only [List.getElem?_toArray, List.getElem?_cons_zero, List.getElem?_cons_succ] at a0 a1 a2
    have K6 := Box.mk (((Keeps.refl (fun _ => False) w).alloc (.cells #[.int .i64 5, .int .i64 n, .string t] 72)).trans' k6 (by intro i hi h; omega))
    have Hown6 := Box.mk hown6
    clear hown6 hgrow k6 hB hB6 H1
    obtain ⟨va, vn, vc, rfl⟩ : ∃ va vn vc, v' = .slice va vn vc := by
      rcases Hown6.out.2 with ⟨h, _⟩ | ⟨g, cap, cur, h, _⟩
      · exact ⟨_, _, _, h⟩
      · exact ⟨_, _, _, h⟩
    go_wp2_with fail
    by_cases h0 : n < 0
    · have h00 : ¬ (0 ≤ n) := by omega
      go_quiet (fail)
      go_wp2_with fail
      exact bodyPost_ret (v := .tuple #[.slice va vn vc, .bool false]) (by simp [results, Try.results38, go_sem]) rfl (saidNo (by rw [enc256 5 n t (by omega), if_neg (by omega)]) (K6.out.drewN _))
    · have h00 : 0 ≤ n := by omega
      by_cases h1 : 255 < n
      · have h11 : ¬ (n ≤ 255) := by omega
        go_quiet (fail)
        go_wp2_with fail
        exact bodyPost_ret (v := .tuple #[.slice va vn vc, .bool false]) (by simp [results, Try.results38, go_sem]) rfl (saidNo (by rw [enc256 5 n t (by omega), if_neg (by omega)]) (K6.out.drewN _))
      · have h11 : n ≤ 255 := by omega
        cases tb with
        | false =>
          have h22 : ¬ t.size = 0 := by have h := Ht.out; intro h'; rw [h'] at h; simp at h
          go_quiet (fail)
          go_wp2_with fail
          exact bodyPost_ret (v := .tuple #[.slice va vn vc, .bool false]) (by simp [results, Try.results38, go_sem]) rfl (saidNo (by rw [enc256 5 n t (by omega), if_neg (by omega)]) (K6.out.drewN _))
        | true =>
          have h22 : t.size = 0 := by have h := Ht.out; simpa using h.symm
          go_quiet (fail)
          go_wp2_with fail
          exact bodyPost_ret (v := .tuple #[.slice va vn vc, .bool true]) (by simp [results, Try.results38, go_sem]) rfl (saidYes (b := ⟨#[UInt8.ofNat (5 : Int).toNat, UInt8.ofNat n.toNat]⟩) (by rw [enc256 5 n t (by omega), if_pos (by omega)]) (by have h := Hown6.out; rw [← hx, u8_wrap n h00 h11, ← u8_nat n h00 h11] at h; exact h) (K6.out.drewN _))
set_option maxRecDepth 100000 in
set_option maxHeartbeats 4000000 in
theorem bytes_6 (n : Int) (t : ByteArray) (w : World) :
    Calls Try.prog 38 #[.agg #[.int .i64 6, .int .i64 n, .string t]] w fun e w' => BytesSaid w (6, n, t) e w' := by
  have Ht := Box.mk (toList_nil t)
  obtain ⟨tb, htb⟩ : ∃ tb, (t.toList == ([] : List UInt8)) = tb := ⟨_, rfl⟩
  rw [htb] at Ht
  obtain ⟨i0, hi0, hz0, hz1, hz2⟩ := info_parts info_u8
  have Hi := Box.mk (And.intro hi0 (And.intro hz0 (And.intro hz1 hz2)))
  clear hi0 hz0 hz1 hz2
  go_enter Try.func38, Try.ntmps38
  go_wp2_with fail
  obtain ⟨x, hx⟩ : ∃ x, IntKind.u8.wrap n = x := ⟨_, rfl⟩

  go_region
  have H1 : Box ((((w.alloc (.cells #[.int .i64 6, .int .i64 n, .string t] 72)).alloc (.cells #[.int .u8 6] 5)).drew).ownsRow w.heap.size 5 1 (.slice (some ⟨w.heap.size + 1, 0, none⟩) 1 1) 1 [.int .u8 6]) := ⟨by have := own_new (w.alloc (.cells #[.int .i64 6, .int .i64 n, .string t] 72)) w.heap.size 5 [.int .u8 6] (by simp) (by decide); simp at this; exact this⟩
  have hB := heap_alloc_new w (.cells #[.int .i64 6, .int .i64 n, .string t] 72)
  go_wp2_with (at_builtin; refine wpList_append_own _ rfl _ _ 79 rfl w.heap.size 5 i0 _ 1 1 Try.underlying79 Hi.out.1 Hi.out.2.1 Hi.out.2.2.1 Hi.out.2.2.2 rfl (by decide) (.slice (some ⟨w.heap.size + 1, 0, none⟩) 1 1) 1 _ rfl (H1.out.alloc _) ⟨w.heap.size + 2, 0, none⟩ 1 1 [.int .u8 x] rfl rfl ?c1 ?c2 ?c3 ?c4 ?c5 ?c6)
  case c1 => exact World.news_of_block (cs := #[.int .u8 x]) (t := 5) (fr := (0, 0)) (by have := heap_alloc_new (((w.alloc (.cells #[.int .i64 6, .int .i64 n, .string t] 72)).alloc (.cells #[.int .u8 6] 5)).drew) (.cells #[.int .u8 x] 5); rw [show (((w.alloc (.cells #[.int .i64 6, .int .i64 n, .string t] 72)).alloc (.cells #[.int .u8 6] 5)).drew).heap.size = w.heap.size + 2 by simp] at this; exact this)
  case c2 => intro u hu; simp at hu; rcases hu with rfl <;> rfl
  case c3 => decide
  case c4 => decide
  case c5 => simp; omega
  case c6 =>
    intro v' w6 hown6 hgrow _
    have k6 : Keeps (fun z => z = w.heap.size + 1) (w.alloc (.cells #[.int .i64 6, .int .i64 n, .string t] 72)) w6 := ((((Keeps.refl (fun z => z = w.heap.size + 1) (w.alloc (.cells #[.int .i64 6, .int .i64 n, .string t] 72))).alloc _).drew).alloc _).grown hgrow (fun k hk _ => by simpa [Value.ownBlock] using hk.symm)
    have hB6 := k6.heap hB (by omega)
    have a0 := cell_of_heap hB6 0
    have a1 := cell_of_heap hB6 1
    have a2 := cell_of_heap hB6 2
    simp only [List.getElem?_toArray, List.getElem?_cons_zero, List.getElem?_cons_succ] at a0 a1 a2
    have K6 := Box.mk (((Keeps.refl (fun _ => False) w).alloc (.cells #[.int .i64 6, .int .i64 n, .string t] 72)).trans' k6 (by intro i hi h; omega))
    have Hown6 := Box.mk hown6
    clear hown6 hgrow k6 hB hB6 H1
    obtain ⟨va, vn, vc, rfl⟩ : ∃ va vn vc, v' = .slice va vn vc := by
      rcases Hown6.out.2 with ⟨h, _⟩ | ⟨g, cap, cur, h, _⟩
      · exact ⟨_, _, _, h⟩
      · exact ⟨_, _, _, h⟩
    go_wp2_with fail
    by_cases h0 : n < 0
    · have h00 : ¬ (0 ≤ n) := by omega
      go_quiet (fail)
      go_wp2_with fail
      exact bodyPost_ret (v := .tuple #[.slice va vn vc, .bool false]) (by simp [results, Try.results38, go_sem]) rfl (saidNo (by rw [enc256 6 n t (by omega), if_neg (by omega)]) (K6.out.drewN _))
    · have h00 : 0 ≤ n := by omega
      by_cases h1 : 255 < n
      · have h11 : ¬ (n ≤ 255) := by omega
        go_quiet (fail)
        go_wp2_with fail
        exact bodyPost_ret (v := .tuple #[.slice va vn vc, .bool false]) (by simp [results, Try.results38, go_sem]) rfl (saidNo (by rw [enc256 6 n t (by omega), if_neg (by omega)]) (K6.out.drewN _))
      · have h11 : n ≤ 255 := by omega
        cases tb with
        | false =>
          have h22 : ¬ t.size = 0 := by have h := Ht.out; intro h'; rw [h'] at h; simp at h
          go_quiet (fail)
          go_wp2_with fail
          exact bodyPost_ret (v := .tuple #[.slice va vn vc, .bool false]) (by simp [results, Try.results38, go_sem]) rfl (saidNo (by rw [enc256 6 n t (by omega), if_neg (by omega)]) (K6.out.drewN _))
        | true =>
          have h22 : t.size = 0 := by have h := Ht.out; simpa using h.symm
          go_quiet (fail)
          go_wp2_with fail
          exact bodyPost_ret (v := .tuple #[.slice va vn vc, .bool true]) (by simp [results, Try.results38, go_sem]) rfl (saidYes (b := ⟨#[UInt8.ofNat (6 : Int).toNat, UInt8.ofNat n.toNat]⟩) (by rw [enc256 6 n t (by omega), if_pos (by omega)]) (by have h := Hown6.out; rw [← hx, u8_wrap n h00 h11, ← u8_nat n h00 h11] at h; exact h) (K6.out.drewN _))

end Go.Proofs.Ytljmfiegkefpoaa
