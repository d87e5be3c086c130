/- An act's bytes: the text. -/
import Derived.Test.YtljmfiegkefpoaaScript8
import Derived.Deep.RegionHeld3
namespace Go.Proofs.Ytljmfiegkefpoaa
set_option linter.unusedVariables false
set_option linter.unusedSimpArgs false
open Go.RowKit

theorem step_append_str {P : Program} {ops : Array Oper} {o : Oper} {a : Act} {w : World} {K : Act → World → Prop} {Q : Exit → Act → World → Prop} {E : Prop} (hgd : o.guard = none) (sl x : Operand) (t u : TypeId)
    (ho : o.op = .call { callee := .builtin .append, args := #[sl, x], argTypes := #[t, u] })
    (base : Nat) (e : TypeId) (i : TypeInfo) (ht : P.underlying t = some (.slice e)) (hu : P.underlying u = some .string) (hi : P.info? e = some i) (hz : i.zero = some (.int .u8 0))
    (hsize : i.size = 1) (hby : i.bytes = 1)
    (v : Value) (n : Nat) (xs : List Value) (hs : a.eval sl = v) (hown : w.ownsRow base e 1 v n xs) (s : ByteArray) (hx : a.eval x = .string s)
    (hbytes : n + s.size ≤ 140737488355328) (hbase : base ≤ w.heap.size)
    (h : ∀ v' w', w'.ownsRow base e 1 v' (n + s.size) (xs ++ Go.Lib.strCells s) → w.grownBy w' v.ownBlock → K (a.put o.dst v') w') :
    if Region.wanted o (yielded ops a.tmps) = true then Oper.wp P o a w K Q else E := by
  have hw : Region.wanted o (yielded ops a.tmps) = true := by simp [Region.wanted, hgd]
  rw [if_pos hw]
  obtain ⟨v', w', hr, h2, h3, h4⟩ := Go.Lib.run_append_own_string (P := P) w base t u o.type e i ht hu hi hz hsize hby v n xs hown s (by unfold maxLen; omega) hbytes hbase
  unfold Oper.wp execOp
  simp only [ho, resolve, invoke, builtin, Sem.run_bind, Sem.run_pure, Result.andThen_ok, List.map_toArray, List.map_cons, List.map_nil, hs, hx, hr]
  exact h v' w' h2 h3

theorem after_text {w1 w2 : World} {o : Obj} {g c : Nat} (h : (w1.alloc o).drew.grownBy w2 (Value.slice (some ⟨g + 1, 0, none⟩) 1 c).ownBlock) : Keeps (fun z => z = g + 1) w1 w2 :=
  (((Keeps.refl (fun z => z = g + 1) w1).alloc o).drew).grown h (fun k hk _ => by simpa [Value.ownBlock] using hk.symm)
theorem after_str {S : Nat → Prop} {w1 w2 w3 : World} {v : Value} (k : Keeps S w1 w2) (h : w2.grownBy w3 v.ownBlock) : Keeps (fun z => S z ∨ v.ownBlock = some z) w1 w3 :=
  (k.mono (fun _ _ h => Or.inl h)).grown h (fun k hk _ => Or.inr hk)

set_option maxRecDepth 100000 in
set_option maxHeartbeats 4000000 in
theorem bytes_text (t : ByteArray) (w : World) (h2 : t.size ≤ 255) :
    Calls Try.prog 38 #[.agg #[.int .i64 1, .int .i64 0, .string t]] w fun e w' => BytesSaid w (1, 0, t) e w' := by
  obtain ⟨i0, hi0, hz0, hz1, hz2⟩ := info_parts info_u8
  have Hi := Box.mk (And.intro hi0 (And.intro hz0 (And.intro hz1 hz2)))
  clear hi0 hz0 hz1 hz2
  go_enter Try.func38, Try.ntmps38
  go_wp2_with fail
  go_region
  go_wp2_with fail
  have hB := heap_alloc_new w (.cells #[.int .i64 1, .int .i64 0, .string t] 72)
  have H1 : Box ((((w.alloc (.cells #[.int .i64 1, .int .i64 0, .string t] 72)).alloc (.cells #[.int .u8 1] 5)).drew).ownsRow (w.heap.size + 1) 5 1 (.slice (some ⟨w.heap.size + 1, 0, none⟩) 1 1) 1 [.int .u8 1]) := ⟨by have := own_new (w.alloc (.cells #[.int .i64 1, .int .i64 0, .string t] 72)) (w.heap.size + 1) 5 [.int .u8 1] (by simp) (by decide); simp at this; exact this⟩
  have k1 : Keeps (fun _ => False) (w.alloc (.cells #[.int .i64 1, .int .i64 0, .string t] 72)) (((w.alloc (.cells #[.int .i64 1, .int .i64 0, .string t] 72)).alloc (.cells #[.int .u8 1] 5)).drew) := ((Keeps.refl _ _).alloc _).drew
  have K1 := Box.mk (((Keeps.refl (fun _ => False) w).alloc (.cells #[.int .i64 1, .int .i64 0, .string t] 72)).trans k1)
  have hB1 := k1.heap hB (fun h => h)
  have hs1 : (((w.alloc (.cells #[.int .i64 1, .int .i64 0, .string t] 72)).alloc (.cells #[.int .u8 1] 5)).drew).heap.size = w.heap.size + 2 := by simp
  obtain ⟨g, hg⟩ : ∃ g, w.heap.size = g := ⟨_, rfl⟩
  rw [hg] at H1 hB1 hs1
  rw [hg]
  generalize (((w.alloc (.cells #[.int .i64 1, .int .i64 0, .string t] 72)).alloc (.cells #[.int .u8 1] 5)).drew) = w1 at *
  have a2 := cell_of_heap hB1 2
  simp only [List.getElem?_toArray, List.getElem?_cons_zero, List.getElem?_cons_succ] at a2
  have Hg := Box.mk hg
  have HB := Box.mk hB1
  have hle : w.heap.size ≤ g := by omega
  clear hB k1 hB1 hg
  obtain ⟨q, hq⟩ : ∃ q, IntKind.u8.wrap (t.size : Int) = q := ⟨_, rfl⟩
  have HN := heap_alloc_new w1 (.cells #[.int .u8 q] 5)
  rw [hs1] at HN
  have HN2 := Box.mk (World.news_of_block HN)
  clear HN
  go_region_held3 (fun w' => w'.cell? ⟨g, 2, none⟩ = some (.string t)) (first | go_keep | exact c3 | exact c2)
    (first | (refine step_append_own (by rfl) _ _ 79 (by rfl) (g + 1) 5 i0 _ 1 1 Try.underlying79 Hi.out.1 Hi.out.2.1 Hi.out.2.2.1 Hi.out.2.2.2 rfl (by decide) (.slice (some ⟨g + 1, 0, none⟩) 1 1) 1 _ (by rfl) (H1.out.alloc _) ⟨g + 2, 0, none⟩ 1 1 [.int .u8 q] (by rfl) (by rfl) HN2.out (by intro u hu; simp at hu; subst hu; rfl) (by decide) (by decide) (by simp; omega) ?_; intro v2 w2 hown2 hgr2; have k2 : Keeps (fun z => z = g + 1) w1 w2 := after_text hgr2; have c2 : w2.cell? ⟨g, 2, none⟩ = some (.string t) := k2.cell a2 (Nat.ne_of_lt (Nat.lt_succ_self g))) | (refine step_append_str (by rfl) _ _ 79 9 (by rfl) (g + 1) 5 i0 Try.underlying79 Try.underlying9 Hi.out.1 Hi.out.2.1 Hi.out.2.2.1 Hi.out.2.2.2 v2 2 _ (by rfl) hown2 t (by rfl) (by omega) (by have := hgr2.size; simp at this; omega) ?_; intro v3 w3 hown3 hgr3; have k3 : Keeps (fun z => z = g + 1 ∨ v2.ownBlock = some z) w1 w3 := after_str k2 hgr3; have c3 : w3.cell? ⟨g, 2, none⟩ = some (.string t) := k3.cell a2 (fun h => h.elim (fun h => absurd h (Nat.ne_of_lt (Nat.lt_succ_self g))) (fun h => absurd (hown2.lt _ h).1 (by simp)))))
  have HO := Box.mk hown3
  have K3 := Box.mk (K1.out.trans' k3 (by
    intro i hi h
    rcases h with rfl | h
    · omega
    · have := (hown2.lt _ h).1
      omega))
  obtain ⟨va, vn, vc, rfl⟩ : ∃ va vn vc, v3 = .slice va vn vc := by
    rcases hown3.2 with ⟨h, _⟩ | ⟨g', cap, cur, h, _⟩
    · exact ⟨_, _, _, h⟩
    · exact ⟨_, _, _, h⟩
  clear hown3 hgr3 k3 c3 hown2 hgr2 k2 c2 H1 HN2
  go_wp2_with fail
  have hbs : (⟨#[1, UInt8.ofNat t.size] ++ t.data⟩ : ByteArray).size = 2 + t.size := by
    show (#[1, UInt8.ofNat t.size] ++ t.data).size = _
    rw [Array.size_append]
    rfl
  have hcs : Go.Lib.strCells ⟨#[1, UInt8.ofNat t.size] ++ t.data⟩ = [.int .u8 1] ++ [.int .u8 q] ++ Go.Lib.strCells t := by
    rw [← hq, u8_wrap (t.size : Int) (by omega) (by omega)]
    have := u8_nat (t.size : Int) (by omega) (by omega)
    rw [Int.toNat_natCast] at this
    simp only [Go.Lib.strCells, Array.toList_append, List.map_append, List.map_cons, List.map_nil, this, List.cons_append, List.nil_append]
    rfl
  exact bodyPost_ret (v := .tuple #[.slice va vn vc, .bool true]) (by simp [results, Try.results38, go_sem]) rfl (saidYes (b := ⟨#[1, UInt8.ofNat t.size] ++ t.data⟩) (by rw [enc1, if_pos ⟨rfl, h2⟩]) (by rw [hbs, hcs]; exact lower (by omega) HO.out) K3.out)

/-- What bytes answers, of any act. -/
theorem bytes_is (k n : Int) (t : ByteArray) (w : World) (ht : t.size ≤ 9223372036854775807) :
    Calls Try.prog 38 #[.agg #[.int .i64 k, .int .i64 n, .string t]] w fun e w' => BytesSaid w (k, n, t) e w' := by
  rcases Int.lt_or_le k 1 with h | h
  · exact bytes_other k n (Or.inl h) t w ht
  rcases Int.lt_or_le 6 k with h' | h'
  · exact bytes_other k n (Or.inr h') t w ht
  obtain h | h | h | h | h | h : k = 1 ∨ k = 2 ∨ k = 3 ∨ k = 4 ∨ k = 5 ∨ k = 6 := by omega
  · subst h
    by_cases hn : n = 0
    · by_cases h2 : t.size ≤ 255
      · subst hn; exact bytes_text t w h2
      · exact bytes_text2 n hn t w (by omega) ht
    · exact bytes_text1 n hn t w ht
  · subst h; exact bytes_2 n t w
  · subst h; exact bytes_tick n t w
  · subst h; exact bytes_run n t w
  · subst h; exact bytes_5 n t w
  · subst h; exact bytes_6 n t w

end Go.Proofs.Ytljmfiegkefpoaa
