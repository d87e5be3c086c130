/- The document's Print, walked. -/
import Derived.Test.YtljmfiegkefpoaaScript10
import Derived.Test.YtljmfiegkefpoaaScript11
namespace Go.Proofs.Ytljmfiegkefpoaa
set_option linter.unusedVariables false
set_option linter.unusedSimpArgs false
open Go.RowKit

theorem row_ne {w : World} {base g : Nat} {v : Value} {n : Nat} {xs : List Value} {cs : Array Value} {fz : Nat × Nat} (h : w.ownsRow base 5 1 v n xs) (hg : w.heap[g]? = some (.cells cs 72 fz)) : ∀ z, v.ownBlock = some z → z ≠ g := by
  intro z hz e
  subst e
  rcases h.2 with ⟨rfl, h0⟩ | ⟨g', cap, cur, rfl, hb, hh, r⟩
  · cases hz
  · simp only [Value.ownBlock, Option.some.injEq] at hz
    subst hz
    rw [hh] at hg
    simp at hg
theorem nn_mod (nn : Nat) : (nn : Int) % 256 = ((UInt8.ofNat ((nn : Int).toNat % 256)).toNat : Int) := by
  rw [UInt8.toNat_ofNat', Int.toNat_natCast]
  omega
theorem nn_div (nn : Nat) (h : nn ≤ 65535) : (nn : Int) / 256 = ((UInt8.ofNat ((nn : Int).toNat / 256)).toNat : Int) := by
  rw [UInt8.toNat_ofNat', Int.toNat_natCast]
  omega

theorem enc_kinds {k n : Int} {t b : ByteArray} (h : encOf (k, n, t) = some b) :
    (k = 1 ∧ n = 0 ∧ t.size ≤ 255 ∧ b = ⟨#[1, UInt8.ofNat t.size] ++ t.data⟩) ∨ (k = 3 ∧ b = ⟨#[3]⟩) ∨
    (k = 4 ∧ 0 ≤ n ∧ n ≤ 65535 ∧ b = ⟨#[4, UInt8.ofNat (n.toNat % 256), UInt8.ofNat (n.toNat / 256)]⟩) ∨
    ((k = 2 ∨ k = 5 ∨ k = 6) ∧ 0 ≤ n ∧ n ≤ 255 ∧ b = ⟨#[UInt8.ofNat k.toNat, UInt8.ofNat n.toNat]⟩) := by
  unfold encOf at h
  simp only at h
  split at h
  · rename_i h1
    split at h
    · rename_i h2
      cases h
      exact Or.inl ⟨h1, h2.1, h2.2, rfl⟩
    · cases h
  · split at h
    · rename_i h1
      split at h
      · cases h
        exact Or.inr (Or.inl ⟨h1, rfl⟩)
      · cases h
    · split at h
      · rename_i h1
        split at h
        · rename_i h2
          cases h
          exact Or.inr (Or.inr (Or.inl ⟨h1, h2.1, h2.2.1, rfl⟩))
        · cases h
      · split at h
        · rename_i h1
          split at h
          · rename_i h2
            cases h
            exact Or.inr (Or.inr (Or.inr ⟨h1, h2.1, h2.2.1, rfl⟩))
          · cases h
        · cases h

set_option maxRecDepth 100000 in
set_option maxHeartbeats 8000000 in
theorem print22_is {l : List ActI} {u : Value} {w : World} (hu : IsActs w u l) (hl : l.length ≤ 8192) (ht : ∀ a ∈ l, a.2.2.size ≤ 9223372036854775807) :
    Calls Try.prog 32 #[u] w fun e w' => e = .returned (.tuple #[.string (printS l), .int .i64 (printE l)]) ∧ Keeps (fun _ => False) w w' := by
  obtain ⟨i0, hi0, hz0, hz1, hz2⟩ := info_parts info_u8
  have Hi := Box.mk (And.intro hi0 (And.intro hz0 (And.intro hz1 hz2)))
  clear hi0 hz0 hz1 hz2
  obtain ⟨a, cp, rfl, -⟩ := hu.form
  have HU := Box.mk hu
  have HT := Box.mk ht
  clear hu ht
  obtain ⟨n, hn⟩ : ∃ n, l.length = n := ⟨_, rfl⟩
  have Hn := Box.mk hn
  rw [hn] at hl ⊢
  clear hn
  go_enter Try.func32, Try.ntmps32
  go_wp2_with fail
  have HK := Box.mk ((Keeps.refl (fun _ => False) w).alloc (.cells #[] 5))
  have Hown : Box ((w.alloc (.cells #[] 5)).ownsRow w.heap.size 5 1 (.slice (some ⟨w.heap.size, 0, none⟩) 0 0) (⟨#[]⟩ : ByteArray).size (Go.Lib.strCells ⟨#[]⟩)) := ⟨own_new w w.heap.size 5 [] (Nat.le_refl _) (Nat.zero_le _)⟩
  go_loopw [4, 5] (fun v i wr => ∃ (k : Nat) (out : ByteArray), k ≤ n ∧ i = .int .i64 k ∧ Box (encAll (l.take k) = some out) ∧ out.size ≤ 257 * k ∧ Box (wr.ownsRow w.heap.size 5 1 v out.size (Go.Lib.strCells out)) ∧ Box (Keeps (fun _ => False) w wr)) (fun _ i _ => n - (intOf i).toNat)
  case atStart => exact ⟨0, ⟨#[]⟩, Nat.zero_le _, rfl, ⟨rfl⟩, Nat.zero_le _, Hown, HK⟩
  case round =>
    clear Hown HK
    obtain ⟨k, out, hk, rfl, HE, hos, Hown, K⟩ := hrel
    by_cases hkn : k < n
    · obtain ⟨ub, uo, rfl, hub, u0, u1, u2⟩ := (HU.out.keeps0 K.out).cells _ _ _ rfl k (by rw [Hn.out]; exact hkn)
      have hk0 : (0 : Int) ≤ (k : Int) := by omega
      have hk1 : (k : Int) < (n : Int) := by omega
      have htk := HT.out _ (mem_getD (l := l) (k := k) (by rw [Hn.out]; exact hkn))
      have htake := take_snoc (l := l) (k := k) (by rw [Hn.out]; exact hkn)
      have hmem := mem_getD (l := l) (k := k) (by rw [Hn.out]; exact hkn)
      generalize hx : l.getD k noAct = x at *
      obtain ⟨xk, xn, xt⟩ := x
      have Hm := Box.mk hmem
      have Htk := Box.mk htake
      clear hmem htake hx
      simp only at u0 u1 u2 htk
      go_wp2_with fail
      refine (may22_is xk xn xt _ htk).mono ?_
      rintro e w1 ⟨rfl, k1⟩
      have hws := K.out.size
      have hs1 := k1.size
      simp at hs1
      have K1 := Box.mk ((K.out.alloc (.cells #[.int .i64 xk, .int .i64 xn, .string xt] 72)).trans k1)
      have Hown1 := Box.mk (k1.own (Hown.out.alloc _) (fun _ _ h => h))
      have HB1 := Box.mk (k1.heap (heap_alloc_new wr (.cells #[.int .i64 xk, .int .i64 xn, .string xt] 72)) (fun h => h))
      obtain ⟨g, hg⟩ : ∃ g, wr.heap.size = g := ⟨_, rfl⟩
      rw [hg] at HB1 hs1 hws
      rw [hg]
      cases hx : encOf (xk, xn, xt) with
      | none =>
        have HN := Box.mk (encAll_none Hm.out hx)
        simp only [Option.isSome_none]
        clear hx k1 Hown K Hown1 hg
        go_wp2_with fail
        exact bodyPost_ret (v := .tuple #[.string ⟨#[]⟩, .int .i64 2]) (by simp [results, Try.results32, go_sem]) rfl ⟨by rw [(print_none HN.out).1, (print_none HN.out).2], K1.out⟩
      | some b =>
        simp only [Option.isSome_some]
        have hkd := enc_kinds hx
        obtain ⟨hb1, hb2⟩ := encOf_size hx
        have HE2 : Box (encAll (l.take (k + 1)) = some (out ++ b)) := ⟨by rw [Htk.out]; exact encAll_snoc HE.out hx⟩
        obtain ⟨os, hos2⟩ : ∃ os, out.size = os := ⟨_, rfl⟩
        have Hos := Box.mk hos2
        have Hown2 : Box (w1.ownsRow w.heap.size 5 1 u4 os (Go.Lib.strCells out)) := ⟨by rw [← hos2]; exact Hown1.out⟩
        rw [hos2] at hos
        have Hl7 : Box ((out ++ b).size ≤ 257 * (k + 1)) := ⟨by rw [ByteArray.size_append, hos2]; omega⟩
        have hws1 : w.heap.size ≤ w1.heap.size := by omega
        have Hws1 := Box.mk hws1
        clear hx k1 Hown K Hown1 hos2 hg hb1 hb2
        have Own1 := Hown2
        rcases hkd with ⟨rfl, rfl, ht2, rfl⟩ | ⟨rfl, rfl⟩ | ⟨rfl, hn0, hn1, rfl⟩ | ⟨rfl | rfl | rfl, hn0, hn1, rfl⟩
        · obtain ⟨q, hq⟩ : ∃ q, IntKind.u8.wrap (xt.size : Int) = q := ⟨_, rfl⟩
          have Hbs : Box ((⟨#[1, UInt8.ofNat xt.size] ++ xt.data⟩ : ByteArray).size = 2 + xt.size) := ⟨by
            show (#[1, UInt8.ofNat xt.size] ++ xt.data).size = _
            rw [Array.size_append]
            rfl⟩
          have Hcs : Box (Go.Lib.strCells ⟨#[1, UInt8.ofNat xt.size] ++ xt.data⟩ = [.int .u8 1] ++ ([.int .u8 q] ++ Go.Lib.strCells xt)) := ⟨by
            rw [← hq, u8_wrap (xt.size : Int) (by omega) (by omega)]
            have := u8_nat (xt.size : Int) (by omega) (by omega)
            rw [Int.toNat_natCast] at this
            simp only [Go.Lib.strCells, Array.toList_append, List.map_append, List.map_cons, List.map_nil, this, List.cons_append, List.nil_append]
            rfl⟩
          have h0_1 := cell_of_heap HB1.out 0
          have h1_1 := cell_of_heap HB1.out 1
          have h2_1 := cell_of_heap HB1.out 2
          simp only [List.getElem?_toArray, List.getElem?_cons_zero, List.getElem?_cons_succ] at h0_1 h1_1 h2_1
          go_wp2_with (at_builtin; refine wpList_append_own _ rfl _ _ 79 rfl w.heap.size 5 i0 _ 1 1 Try.underlying79 Hi.out.1 Hi.out.2.1 Hi.out.2.2.1 Hi.out.2.2.2 rfl (by decide) u4 os _ rfl (Own1.out.alloc _) ⟨w1.heap.size, 0, none⟩ 1 1 [.int .u8 1] rfl rfl ?c1_1 ?c2_1 ?c3_1 ?c4_1 ?c5_1 ?c6_1)
          case c1_1 => exact World.news_of_block (cs := #[.int .u8 1]) (t := 5) (fr := (0, 0)) (heap_alloc_new _ _)
          case c2_1 => intro u hu; simp at hu; rcases hu with rfl <;> rfl
          case c3_1 => unfold maxLen; omega
          case c4_1 => omega
          case c5_1 => have := Hws1.out; simp; omega
          case c6_1 =>
            intro v2 w2 hown2 hgr2 _
            have kk2 : Keeps (fun z => u4.ownBlock = some z) w1 w2 := ((Keeps.refl (fun z => u4.ownBlock = some z) w1).alloc _).grown hgr2 (fun k hk _ => hk)
            have HB2 := Box.mk (kk2.heap HB1.out (fun h => row_ne Own1.out HB1.out _ h rfl))
            have K2 := Box.mk (K1.out.trans' kk2 (by intro i hi h; have := (Own1.out.lt _ h).1; omega))
            have Hws2 : Box (w.heap.size ≤ w2.heap.size) := ⟨Nat.le_trans Hws1.out kk2.size⟩
            have Own2 := Box.mk hown2
            clear hown2 hgr2 kk2
            have h0_2 := cell_of_heap HB2.out 0
            have h1_2 := cell_of_heap HB2.out 1
            have h2_2 := cell_of_heap HB2.out 2
            simp only [List.getElem?_toArray, List.getElem?_cons_zero, List.getElem?_cons_succ] at h0_2 h1_2 h2_2
            go_wp2_with (at_builtin; refine wpList_append_own _ rfl _ _ 79 rfl w.heap.size 5 i0 _ 1 1 Try.underlying79 Hi.out.1 Hi.out.2.1 Hi.out.2.2.1 Hi.out.2.2.2 rfl (by decide) v2 (os + 1) _ rfl (Own2.out.alloc _) ⟨w2.heap.size, 0, none⟩ 1 1 [.int .u8 q] rfl rfl ?c1_2 ?c2_2 ?c3_2 ?c4_2 ?c5_2 ?c6_2)
            case c1_2 => exact World.news_of_block (cs := #[.int .u8 q]) (t := 5) (fr := (0, 0)) (heap_alloc_new _ _)
            case c2_2 => intro u hu; simp at hu; rcases hu with rfl <;> rfl
            case c3_2 => unfold maxLen; omega
            case c4_2 => omega
            case c5_2 => have := Hws2.out; simp; omega
            case c6_2 =>
              intro v3 w3 hown3 hgr3 _
              have kk3 : Keeps (fun z => v2.ownBlock = some z) w2 w3 := ((Keeps.refl (fun z => v2.ownBlock = some z) w2).alloc _).grown hgr3 (fun k hk _ => hk)
              have HB3 := Box.mk (kk3.heap HB2.out (fun h => row_ne Own2.out HB2.out _ h rfl))
              have K3 := Box.mk (K2.out.trans' kk3 (by intro i hi h; have := (Own2.out.lt _ h).1; omega))
              have Hws3 : Box (w.heap.size ≤ w3.heap.size) := ⟨Nat.le_trans Hws2.out kk3.size⟩
              have Own3 := Box.mk hown3
              clear hown3 hgr3 kk3
              have h0_3 := cell_of_heap HB3.out 0
              have h1_3 := cell_of_heap HB3.out 1
              have h2_3 := cell_of_heap HB3.out 2
              simp only [List.getElem?_toArray, List.getElem?_cons_zero, List.getElem?_cons_succ] at h0_3 h1_3 h2_3
              go_wp2_with (at_builtin; refine Go.Lib.wpList_append_own_string _ rfl _ _ 79 9 rfl w.heap.size 5 i0 Try.underlying79 Try.underlying9 Hi.out.1 Hi.out.2.1 Hi.out.2.2.1 Hi.out.2.2.2 v3 (os + 1 + 1) _ rfl Own3.out xt rfl ?c1_3 ?c2_3 ?c3_3 ?c4_3)
              case c1_3 => unfold maxLen; omega
              case c2_3 => omega
              case c3_3 => exact Hws3.out
              case c4_3 =>
                intro v4 w4 hown4 hgr4 _
                have kk4 : Keeps (fun z => v3.ownBlock = some z) w3 w4 := ((Keeps.refl (fun z => v3.ownBlock = some z) w3)).grown hgr4 (fun k hk _ => hk)
                have HB4 := Box.mk (kk4.heap HB3.out (fun h => row_ne Own3.out HB3.out _ h rfl))
                have K4 := Box.mk (K3.out.trans' kk4 (by intro i hi h; have := (Own3.out.lt _ h).1; omega))
                have Hws4 : Box (w.heap.size ≤ w4.heap.size) := ⟨Nat.le_trans Hws3.out kk4.size⟩
                have Own4 := Box.mk hown4
                clear hown4 hgr4 kk4
                have h0_4 := cell_of_heap HB4.out 0
                have h1_4 := cell_of_heap HB4.out 1
                have h2_4 := cell_of_heap HB4.out 2
                simp only [List.getElem?_toArray, List.getElem?_cons_zero, List.getElem?_cons_succ] at h0_4 h1_4 h2_4
                go_wp2_with fail
                go_roundw
                case rel => exact ⟨k + 1, _, by omega, by go_num, HE2, Hl7.out, ⟨by rw [ByteArray.size_append, Hos.out, strCells_append, Hbs.out, Hcs.out]; rw [show os + (2 + xt.size) = os + 1 + 1 + xt.size by omega]; exact Own4.out⟩, K4⟩
                case measure => simp [intOf]; omega

        · have h0_1 := cell_of_heap HB1.out 0
          have h1_1 := cell_of_heap HB1.out 1
          have h2_1 := cell_of_heap HB1.out 2
          simp only [List.getElem?_toArray, List.getElem?_cons_zero, List.getElem?_cons_succ] at h0_1 h1_1 h2_1
          go_wp2_with (at_builtin; refine wpList_append_own _ rfl _ _ 79 rfl w.heap.size 5 i0 _ 1 1 Try.underlying79 Hi.out.1 Hi.out.2.1 Hi.out.2.2.1 Hi.out.2.2.2 rfl (by decide) u4 os _ rfl (Own1.out.alloc _) ⟨w1.heap.size, 0, none⟩ 1 1 [.int .u8 3] rfl rfl ?c1_1 ?c2_1 ?c3_1 ?c4_1 ?c5_1 ?c6_1)
          case c1_1 => exact World.news_of_block (cs := #[.int .u8 3]) (t := 5) (fr := (0, 0)) (heap_alloc_new _ _)
          case c2_1 => intro u hu; simp at hu; rcases hu with rfl <;> rfl
          case c3_1 => unfold maxLen; omega
          case c4_1 => omega
          case c5_1 => have := Hws1.out; simp; omega
          case c6_1 =>
            intro v2 w2 hown2 hgr2 _
            have kk2 : Keeps (fun z => u4.ownBlock = some z) w1 w2 := ((Keeps.refl (fun z => u4.ownBlock = some z) w1).alloc _).grown hgr2 (fun k hk _ => hk)
            have HB2 := Box.mk (kk2.heap HB1.out (fun h => row_ne Own1.out HB1.out _ h rfl))
            have K2 := Box.mk (K1.out.trans' kk2 (by intro i hi h; have := (Own1.out.lt _ h).1; omega))
            have Hws2 : Box (w.heap.size ≤ w2.heap.size) := ⟨Nat.le_trans Hws1.out kk2.size⟩
            have Own2 := Box.mk hown2
            clear hown2 hgr2 kk2
            have h0_2 := cell_of_heap HB2.out 0
            have h1_2 := cell_of_heap HB2.out 1
            have h2_2 := cell_of_heap HB2.out 2
            simp only [List.getElem?_toArray, List.getElem?_cons_zero, List.getElem?_cons_succ] at h0_2 h1_2 h2_2
            go_wp2_with fail
            go_roundw
            case rel => exact ⟨k + 1, _, by omega, by go_num, HE2, Hl7.out, ⟨by rw [ByteArray.size_append, Hos.out, strCells_append]; exact Own2.out⟩, K2⟩
            case measure => simp [intOf]; omega
        · obtain ⟨nn, rfl⟩ : ∃ nn : Nat, xn = (nn : Int) := ⟨xn.toNat, by omega⟩
          have h0_1 := cell_of_heap HB1.out 0
          have h1_1 := cell_of_heap HB1.out 1
          have h2_1 := cell_of_heap HB1.out 2
          simp only [List.getElem?_toArray, List.getElem?_cons_zero, List.getElem?_cons_succ] at h0_1 h1_1 h2_1
          go_wp2_with (at_builtin; refine wpList_append_own _ rfl _ _ 79 rfl w.heap.size 5 i0 _ 1 1 Try.underlying79 Hi.out.1 Hi.out.2.1 Hi.out.2.2.1 Hi.out.2.2.2 rfl (by decide) u4 os _ rfl (Own1.out.alloc _) ⟨w1.heap.size, 0, none⟩ 1 1 [.int .u8 4] rfl rfl ?c1_1 ?c2_1 ?c3_1 ?c4_1 ?c5_1 ?c6_1)
          case c1_1 => exact World.news_of_block (cs := #[.int .u8 4]) (t := 5) (fr := (0, 0)) (heap_alloc_new _ _)
          case c2_1 => intro u hu; simp at hu; rcases hu with rfl <;> rfl
          case c3_1 => unfold maxLen; omega
          case c4_1 => omega
          case c5_1 => have := Hws1.out; simp; omega
          case c6_1 =>
            intro v2 w2 hown2 hgr2 _
            have kk2 : Keeps (fun z => u4.ownBlock = some z) w1 w2 := ((Keeps.refl (fun z => u4.ownBlock = some z) w1).alloc _).grown hgr2 (fun k hk _ => hk)
            have HB2 := Box.mk (kk2.heap HB1.out (fun h => row_ne Own1.out HB1.out _ h rfl))
            have K2 := Box.mk (K1.out.trans' kk2 (by intro i hi h; have := (Own1.out.lt _ h).1; omega))
            have Hws2 : Box (w.heap.size ≤ w2.heap.size) := ⟨Nat.le_trans Hws1.out kk2.size⟩
            have Own2 := Box.mk hown2
            clear hown2 hgr2 kk2
            have h0_2 := cell_of_heap HB2.out 0
            have h1_2 := cell_of_heap HB2.out 1
            have h2_2 := cell_of_heap HB2.out 2
            simp only [List.getElem?_toArray, List.getElem?_cons_zero, List.getElem?_cons_succ] at h0_2 h1_2 h2_2
            go_wp2_with (at_builtin; refine wpList_append_own _ rfl _ _ 79 rfl w.heap.size 5 i0 _ 1 1 Try.underlying79 Hi.out.1 Hi.out.2.1 Hi.out.2.2.1 Hi.out.2.2.2 rfl (by decide) v2 (os + 1) _ rfl (Own2.out.alloc _) ⟨w2.heap.size, 0, none⟩ 2 2 [.int .u8 ((nn : Int) % 256), .int .u8 ((nn : Int) / 256)] rfl rfl ?c1_2 ?c2_2 ?c3_2 ?c4_2 ?c5_2 ?c6_2)
            case c1_2 => exact World.news_of_block (cs := #[.int .u8 ((nn : Int) % 256), .int .u8 ((nn : Int) / 256)]) (t := 5) (fr := (0, 0)) (heap_alloc_new _ _)
            case c2_2 => intro u hu; simp at hu; rcases hu with rfl | rfl <;> rfl
            case c3_2 => unfold maxLen; omega
            case c4_2 => omega
            case c5_2 => have := Hws2.out; simp; omega
            case c6_2 =>
              intro v3 w3 hown3 hgr3 _
              have kk3 : Keeps (fun z => v2.ownBlock = some z) w2 w3 := ((Keeps.refl (fun z => v2.ownBlock = some z) w2).alloc _).grown hgr3 (fun k hk _ => hk)
              have HB3 := Box.mk (kk3.heap HB2.out (fun h => row_ne Own2.out HB2.out _ h rfl))
              have K3 := Box.mk (K2.out.trans' kk3 (by intro i hi h; have := (Own2.out.lt _ h).1; omega))
              have Hws3 : Box (w.heap.size ≤ w3.heap.size) := ⟨Nat.le_trans Hws2.out kk3.size⟩
              have Own3 := Box.mk hown3
              clear hown3 hgr3 kk3
              have h0_3 := cell_of_heap HB3.out 0
              have h1_3 := cell_of_heap HB3.out 1
              have h2_3 := cell_of_heap HB3.out 2
              simp only [List.getElem?_toArray, List.getElem?_cons_zero, List.getElem?_cons_succ] at h0_3 h1_3 h2_3
              go_wp2_with fail
              go_roundw
              case rel => exact ⟨k + 1, _, by omega, by go_num, HE2, Hl7.out, ⟨by rw [ByteArray.size_append, Hos.out, strCells_append]; have h := Own3.out; rw [nn_mod nn, nn_div nn (by omega)] at h; exact h⟩, K3⟩
              case measure => simp [intOf]; omega

        · obtain ⟨x, hx⟩ : ∃ x, IntKind.u8.wrap xn = x := ⟨_, rfl⟩
          have h0_1 := cell_of_heap HB1.out 0
          have h1_1 := cell_of_heap HB1.out 1
          have h2_1 := cell_of_heap HB1.out 2
          simp only [List.getElem?_toArray, List.getElem?_cons_zero, List.getElem?_cons_succ] at h0_1 h1_1 h2_1
          go_wp2_with (at_builtin; refine wpList_append_own _ rfl _ _ 79 rfl w.heap.size 5 i0 _ 1 1 Try.underlying79 Hi.out.1 Hi.out.2.1 Hi.out.2.2.1 Hi.out.2.2.2 rfl (by decide) u4 os _ rfl (Own1.out.alloc _) ⟨w1.heap.size, 0, none⟩ 1 1 [.int .u8 2] rfl rfl ?c1_1 ?c2_1 ?c3_1 ?c4_1 ?c5_1 ?c6_1)
          case c1_1 => exact World.news_of_block (cs := #[.int .u8 2]) (t := 5) (fr := (0, 0)) (heap_alloc_new _ _)
          case c2_1 => intro u hu; simp at hu; rcases hu with rfl <;> rfl
          case c3_1 => unfold maxLen; omega
          case c4_1 => omega
          case c5_1 => have := Hws1.out; simp; omega
          case c6_1 =>
            intro v2 w2 hown2 hgr2 _
            have kk2 : Keeps (fun z => u4.ownBlock = some z) w1 w2 := ((Keeps.refl (fun z => u4.ownBlock = some z) w1).alloc _).grown hgr2 (fun k hk _ => hk)
            have HB2 := Box.mk (kk2.heap HB1.out (fun h => row_ne Own1.out HB1.out _ h rfl))
            have K2 := Box.mk (K1.out.trans' kk2 (by intro i hi h; have := (Own1.out.lt _ h).1; omega))
            have Hws2 : Box (w.heap.size ≤ w2.heap.size) := ⟨Nat.le_trans Hws1.out kk2.size⟩
            have Own2 := Box.mk hown2
            clear hown2 hgr2 kk2
            have h0_2 := cell_of_heap HB2.out 0
            have h1_2 := cell_of_heap HB2.out 1
            have h2_2 := cell_of_heap HB2.out 2
            simp only [List.getElem?_toArray, List.getElem?_cons_zero, List.getElem?_cons_succ] at h0_2 h1_2 h2_2
            go_wp2_with (at_builtin; refine wpList_append_own _ rfl _ _ 79 rfl w.heap.size 5 i0 _ 1 1 Try.underlying79 Hi.out.1 Hi.out.2.1 Hi.out.2.2.1 Hi.out.2.2.2 rfl (by decide) v2 (os + 1) _ rfl (Own2.out.alloc _) ⟨w2.heap.size, 0, none⟩ 1 1 [.int .u8 x] rfl rfl ?c1_2 ?c2_2 ?c3_2 ?c4_2 ?c5_2 ?c6_2)
            case c1_2 => exact World.news_of_block (cs := #[.int .u8 x]) (t := 5) (fr := (0, 0)) (heap_alloc_new _ _)
            case c2_2 => intro u hu; simp at hu; rcases hu with rfl <;> rfl
            case c3_2 => unfold maxLen; omega
            case c4_2 => omega
            case c5_2 => have := Hws2.out; simp; omega
            case c6_2 =>
              intro v3 w3 hown3 hgr3 _
              have kk3 : Keeps (fun z => v2.ownBlock = some z) w2 w3 := ((Keeps.refl (fun z => v2.ownBlock = some z) w2).alloc _).grown hgr3 (fun k hk _ => hk)
              have HB3 := Box.mk (kk3.heap HB2.out (fun h => row_ne Own2.out HB2.out _ h rfl))
              have K3 := Box.mk (K2.out.trans' kk3 (by intro i hi h; have := (Own2.out.lt _ h).1; omega))
              have Hws3 : Box (w.heap.size ≤ w3.heap.size) := ⟨Nat.le_trans Hws2.out kk3.size⟩
              have Own3 := Box.mk hown3
              clear hown3 hgr3 kk3
              have h0_3 := cell_of_heap HB3.out 0
              have h1_3 := cell_of_heap HB3.out 1
              have h2_3 := cell_of_heap HB3.out 2
              simp only [List.getElem?_toArray, List.getElem?_cons_zero, List.getElem?_cons_succ] at h0_3 h1_3 h2_3
              go_wp2_with fail
              go_roundw
              case rel => exact ⟨k + 1, _, by omega, by go_num, HE2, Hl7.out, ⟨by rw [ByteArray.size_append, Hos.out, strCells_append]; have h := Own3.out; rw [← hx, u8_wrap xn hn0 hn1, ← u8_nat xn hn0 hn1] at h; exact h⟩, K3⟩
              case measure => simp [intOf]; omega

        · obtain ⟨x, hx⟩ : ∃ x, IntKind.u8.wrap xn = x := ⟨_, rfl⟩
          have h0_1 := cell_of_heap HB1.out 0
          have h1_1 := cell_of_heap HB1.out 1
          have h2_1 := cell_of_heap HB1.out 2
          simp only [List.getElem?_toArray, List.getElem?_cons_zero, List.getElem?_cons_succ] at h0_1 h1_1 h2_1
          go_wp2_with (at_builtin; refine wpList_append_own _ rfl _ _ 79 rfl w.heap.size 5 i0 _ 1 1 Try.underlying79 Hi.out.1 Hi.out.2.1 Hi.out.2.2.1 Hi.out.2.2.2 rfl (by decide) u4 os _ rfl (Own1.out.alloc _) ⟨w1.heap.size, 0, none⟩ 1 1 [.int .u8 5] rfl rfl ?c1_1 ?c2_1 ?c3_1 ?c4_1 ?c5_1 ?c6_1)
          case c1_1 => exact World.news_of_block (cs := #[.int .u8 5]) (t := 5) (fr := (0, 0)) (heap_alloc_new _ _)
          case c2_1 => intro u hu; simp at hu; rcases hu with rfl <;> rfl
          case c3_1 => unfold maxLen; omega
          case c4_1 => omega
          case c5_1 => have := Hws1.out; simp; omega
          case c6_1 =>
            intro v2 w2 hown2 hgr2 _
            have kk2 : Keeps (fun z => u4.ownBlock = some z) w1 w2 := ((Keeps.refl (fun z => u4.ownBlock = some z) w1).alloc _).grown hgr2 (fun k hk _ => hk)
            have HB2 := Box.mk (kk2.heap HB1.out (fun h => row_ne Own1.out HB1.out _ h rfl))
            have K2 := Box.mk (K1.out.trans' kk2 (by intro i hi h; have := (Own1.out.lt _ h).1; omega))
            have Hws2 : Box (w.heap.size ≤ w2.heap.size) := ⟨Nat.le_trans Hws1.out kk2.size⟩
            have Own2 := Box.mk hown2
            clear hown2 hgr2 kk2
            have h0_2 := cell_of_heap HB2.out 0
            have h1_2 := cell_of_heap HB2.out 1
            have h2_2 := cell_of_heap HB2.out 2
            simp only [List.getElem?_toArray, List.getElem?_cons_zero, List.getElem?_cons_succ] at h0_2 h1_2 h2_2
            go_wp2_with (at_builtin; refine wpList_append_own _ rfl _ _ 79 rfl w.heap.size 5 i0 _ 1 1 Try.underlying79 Hi.out.1 Hi.out.2.1 Hi.out.2.2.1 Hi.out.2.2.2 rfl (by decide) v2 (os + 1) _ rfl (Own2.out.alloc _) ⟨w2.heap.size, 0, none⟩ 1 1 [.int .u8 x] rfl rfl ?c1_2 ?c2_2 ?c3_2 ?c4_2 ?c5_2 ?c6_2)
            case c1_2 => exact World.news_of_block (cs := #[.int .u8 x]) (t := 5) (fr := (0, 0)) (heap_alloc_new _ _)
            case c2_2 => intro u hu; simp at hu; rcases hu with rfl <;> rfl
            case c3_2 => unfold maxLen; omega
            case c4_2 => omega
            case c5_2 => have := Hws2.out; simp; omega
            case c6_2 =>
              intro v3 w3 hown3 hgr3 _
              have kk3 : Keeps (fun z => v2.ownBlock = some z) w2 w3 := ((Keeps.refl (fun z => v2.ownBlock = some z) w2).alloc _).grown hgr3 (fun k hk _ => hk)
              have HB3 := Box.mk (kk3.heap HB2.out (fun h => row_ne Own2.out HB2.out _ h rfl))
              have K3 := Box.mk (K2.out.trans' kk3 (by intro i hi h; have := (Own2.out.lt _ h).1; omega))
              have Hws3 : Box (w.heap.size ≤ w3.heap.size) := ⟨Nat.le_trans Hws2.out kk3.size⟩
              have Own3 := Box.mk hown3
              clear hown3 hgr3 kk3
              have h0_3 := cell_of_heap HB3.out 0
              have h1_3 := cell_of_heap HB3.out 1
              have h2_3 := cell_of_heap HB3.out 2
              simp only [List.getElem?_toArray, List.getElem?_cons_zero, List.getElem?_cons_succ] at h0_3 h1_3 h2_3
              go_wp2_with fail
              go_roundw
              case rel => exact ⟨k + 1, _, by omega, by go_num, HE2, Hl7.out, ⟨by rw [ByteArray.size_append, Hos.out, strCells_append]; have h := Own3.out; rw [← hx, u8_wrap xn hn0 hn1, ← u8_nat xn hn0 hn1] at h; exact h⟩, K3⟩
              case measure => simp [intOf]; omega

        · obtain ⟨x, hx⟩ : ∃ x, IntKind.u8.wrap xn = x := ⟨_, rfl⟩
          have h0_1 := cell_of_heap HB1.out 0
          have h1_1 := cell_of_heap HB1.out 1
          have h2_1 := cell_of_heap HB1.out 2
          simp only [List.getElem?_toArray, List.getElem?_cons_zero, List.getElem?_cons_succ] at h0_1 h1_1 h2_1
          go_wp2_with (at_builtin; refine wpList_append_own _ rfl _ _ 79 rfl w.heap.size 5 i0 _ 1 1 Try.underlying79 Hi.out.1 Hi.out.2.1 Hi.out.2.2.1 Hi.out.2.2.2 rfl (by decide) u4 os _ rfl (Own1.out.alloc _) ⟨w1.heap.size, 0, none⟩ 1 1 [.int .u8 6] rfl rfl ?c1_1 ?c2_1 ?c3_1 ?c4_1 ?c5_1 ?c6_1)
          case c1_1 => exact World.news_of_block (cs := #[.int .u8 6]) (t := 5) (fr := (0, 0)) (heap_alloc_new _ _)
          case c2_1 => intro u hu; simp at hu; rcases hu with rfl <;> rfl
          case c3_1 => unfold maxLen; omega
          case c4_1 => omega
          case c5_1 => have := Hws1.out; simp; omega
          case c6_1 =>
            intro v2 w2 hown2 hgr2 _
            have kk2 : Keeps (fun z => u4.ownBlock = some z) w1 w2 := ((Keeps.refl (fun z => u4.ownBlock = some z) w1).alloc _).grown hgr2 (fun k hk _ => hk)
            have HB2 := Box.mk (kk2.heap HB1.out (fun h => row_ne Own1.out HB1.out _ h rfl))
            have K2 := Box.mk (K1.out.trans' kk2 (by intro i hi h; have := (Own1.out.lt _ h).1; omega))
            have Hws2 : Box (w.heap.size ≤ w2.heap.size) := ⟨Nat.le_trans Hws1.out kk2.size⟩
            have Own2 := Box.mk hown2
            clear hown2 hgr2 kk2
            have h0_2 := cell_of_heap HB2.out 0
            have h1_2 := cell_of_heap HB2.out 1
            have h2_2 := cell_of_heap HB2.out 2
            simp only [List.getElem?_toArray, List.getElem?_cons_zero, List.getElem?_cons_succ] at h0_2 h1_2 h2_2
            go_wp2_with (at_builtin; refine wpList_append_own _ rfl _ _ 79 rfl w.heap.size 5 i0 _ 1 1 Try.underlying79 Hi.out.1 Hi.out.2.1 Hi.out.2.2.1 Hi.out.2.2.2 rfl (by decide) v2 (os + 1) _ rfl (Own2.out.alloc _) ⟨w2.heap.size, 0, none⟩ 1 1 [.int .u8 x] rfl rfl ?c1_2 ?c2_2 ?c3_2 ?c4_2 ?c5_2 ?c6_2)
            case c1_2 => exact World.news_of_block (cs := #[.int .u8 x]) (t := 5) (fr := (0, 0)) (heap_alloc_new _ _)
            case c2_2 => intro u hu; simp at hu; rcases hu with rfl <;> rfl
            case c3_2 => unfold maxLen; omega
            case c4_2 => omega
            case c5_2 => have := Hws2.out; simp; omega
            case c6_2 =>
              intro v3 w3 hown3 hgr3 _
              have kk3 : Keeps (fun z => v2.ownBlock = some z) w2 w3 := ((Keeps.refl (fun z => v2.ownBlock = some z) w2).alloc _).grown hgr3 (fun k hk _ => hk)
              have HB3 := Box.mk (kk3.heap HB2.out (fun h => row_ne Own2.out HB2.out _ h rfl))
              have K3 := Box.mk (K2.out.trans' kk3 (by intro i hi h; have := (Own2.out.lt _ h).1; omega))
              have Hws3 : Box (w.heap.size ≤ w3.heap.size) := ⟨Nat.le_trans Hws2.out kk3.size⟩
              have Own3 := Box.mk hown3
              clear hown3 hgr3 kk3
              have h0_3 := cell_of_heap HB3.out 0
              have h1_3 := cell_of_heap HB3.out 1
              have h2_3 := cell_of_heap HB3.out 2
              simp only [List.getElem?_toArray, List.getElem?_cons_zero, List.getElem?_cons_succ] at h0_3 h1_3 h2_3
              go_wp2_with fail
              go_roundw
              case rel => exact ⟨k + 1, _, by omega, by go_num, HE2, Hl7.out, ⟨by rw [ByteArray.size_append, Hos.out, strCells_append]; have h := Own3.out; rw [← hx, u8_wrap xn hn0 hn1, ← u8_nat xn hn0 hn1] at h; exact h⟩, K3⟩
              case measure => simp [intOf]; omega
    · have HA : Box (encAll l = some out) := ⟨by have h := HE.out; rw [List.take_of_length_le (by rw [Hn.out]; omega)] at h; exact h⟩
      obtain ⟨va, vn, vc, rfl⟩ : ∃ va vn vc, u4 = .slice va vn vc := by
        rcases Hown.out.2 with ⟨h, _⟩ | ⟨g', cap, cur, h, _⟩
        · exact ⟨_, _, _, h⟩
        · exact ⟨_, _, _, h⟩
      have hcv := str_of_row Hown.out
      have hvn : vn = out.size := by
        rcases Hown.out.2 with ⟨h, h0⟩ | ⟨g', cap, cur, h, _⟩
        · injection h with h1 h2 h3; omega
        · injection h with h1 h2 h3
      subst hvn
      by_cases hlong : 16384 < out.size
      · have hlong2 : (16384 : Int) < (out.size : Int) := by omega
        go_wp2_with fail
        exact bodyPost_ret (v := .tuple #[.string ⟨#[]⟩, .int .i64 14]) (by simp [results, Try.results32, go_sem]) rfl ⟨by rw [(print_long HA.out hlong).1, (print_long HA.out hlong).2], K.out⟩
      · have hlong2 : ¬ (16384 : Int) < (out.size : Int) := by omega
        go_wp2_with fail
        exact bodyPost_ret (v := .tuple #[.string out, .int .i64 0]) (by simp [results, Try.results32, go_sem]) rfl ⟨by rw [(print_some HA.out hlong).1, (print_some HA.out hlong).2], K.out⟩

end Go.Proofs.Ytljmfiegkefpoaa
