/- Law 4's around and same, walked. -/
import Derived.Test.YtlbmknnpglandaaRing4
import Derived.Test.YtlbmknnpglandaaRingLaw3
import Derived.Deep.AppendLies
namespace Go.Proofs.Ytlbmknnpglandaa
set_option linter.unusedVariables false
set_option linter.unusedSimpArgs false
open Go.RowKit

theorem info_int : (Try.prog.info? 3).map (fun i => (i.zero, i.size, i.bytes)) = some (some (.int .i64 0), 1, 8) := by kernel_rfl

def icells (l : List Nat) : List Value := l.map (fun x : Nat => .int .i64 (x : Int))
theorem Keeps.own2 {S : Nat → Prop} {w w' : World} {base : Nat} {e : TypeId} {size : Nat} {v : Value} {n : Nat} {xs : List Value} (k : Keeps S w w') (h : w.ownsRow base e size v n xs) (hs : ∀ z, v.ownBlock = some z → ¬ S z) : w'.ownsRow base e size v n xs := by
  refine ⟨h.1, ?_⟩
  rcases h.2 with ⟨h1, h2⟩ | ⟨g, cap, cur, hv, hg, hh, r⟩
  · exact .inl ⟨h1, h2⟩
  · exact .inr ⟨g, cap, cur, hv, hg, k.heap hh (hs g (by rw [hv]; rfl)), r⟩

theorem row_of_own {w : World} {base : Nat} {v : Value} {l : List Nat} (h : w.ownsRow base 3 1 v l.length (icells l)) (hl : ∀ x ∈ l, x ≤ 1048576) : IsRow .i64 w v (l.map (fun x : Nat => (x : Int))) := by
  rcases h.2 with ⟨rfl, h0⟩ | ⟨g, cap, cur, rfl, hb, hh, hn, hm, hs, ht⟩
  · have : l = [] := List.eq_nil_of_length_eq_zero h0
    subst this
    exact .empty
  · refine .full hn hm (by simp) (fun i hi => ?_) (fun n hn => ?_)
    · have := h.cells (g := g) rfl i (.int .i64 ((l.getD i 0 : Nat) : Int)) (by simp [icells, List.getD, hi])
      rw [this]
      simp [List.getD, hi]
    · simp only [List.mem_map] at hn
      obtain ⟨x, hx, rfl⟩ := hn
      have := hl x hx
      simp [Lit.wf, IntKind.min, IntKind.max, IntKind.bits, IntKind.signed]
      omega

set_option maxRecDepth 100000 in
set_option maxHeartbeats 1000000 in
theorem around_is {w : World} {b g h most : Nat} {W L : List Nat} (hI : IsW w b g W) (hr : Ring W h L) (hL : L.length ≤ most) (hmost : most ≤ 1000) :
    Calls Try.prog 29 #[.pointer (some ⟨b, 0, none⟩), .int .i64 h, .int .i64 most] w fun e w' =>
      ∃ v, e = .returned (.tuple #[v, .bool true]) ∧ w'.ownsRow w.heap.size 3 1 v L.length (icells L) ∧ IsW w' b g W ∧ Keeps (foot b g) w w' := by
  obtain ⟨i0, hi0, hz0, hz1, hz2⟩ := info_parts info_int
  have Hi := Box.mk (And.intro hi0 (And.intro hz0 (And.intro hz1 hz2)))
  clear hi0 hz0 hz1 hz2
  have HI := Box.mk hI
  have HR := Box.mk hr
  have hlt := Box.mk hI.lt
  have hWl := hI.len
  clear hI hr
  obtain ⟨m1, hm1⟩ : ∃ m1 : Nat, most + 1 = m1 := ⟨_, rfl⟩
  have hm3 : (most : Int) + 1 = (m1 : Int) := by omega
  have Hm := Box.mk hm1
  have hm1b : m1 ≤ 1001 := by omega
  clear hm1
  obtain ⟨n, hn⟩ : ∃ n, L.length = n := ⟨_, rfl⟩
  have Hn := Box.mk hn
  rw [hn] at hL ⊢
  clear hn
  go_enter Try.func29, Try.ntmps29
  go_wp2_with fail
  have HK := Box.mk (Keeps.refl (foot b g) w)
  have HO : Box (w.ownsRow w.heap.size 3 1 (.slice none 0 0) (L.take 0).length (icells (L.take 0))) := ⟨World.ownsRow_nil _ _ _ _⟩
  go_loopw [8, 9, 17] (fun v a i wr => ∃ k : Nat, k ≤ n ∧ i = .int .i64 k ∧ a = .int .i64 ((h :: L).getD k 0 : Nat) ∧ Box (wr.ownsRow w.heap.size 3 1 v (L.take k).length (icells (L.take k))) ∧ Box (IsW wr b g W) ∧ Box (Keeps (foot b g) w wr)) (fun _ _ i _ => n + 1 - (intOf i).toNat)
  case atStart => exact ⟨0, Nat.zero_le _, rfl, rfl, HO, HI, HK⟩
  case round =>
    clear HO HI HK
    obtain ⟨k, hk, rfl, rfl, HO, HI, K⟩ := hrel
    have hlk := ring_links HR.out k (by rw [Hn.out]; exact hk)
    have hk1 : (k : Int) < (m1 : Int) := by have := Hm.out; omega
    have hame : (h :: L).getD k 0 ∈ h :: L := by
      rw [List.getD_eq_getElem?_getD, List.getElem?_eq_getElem (by simp; have := Hn.out; omega)]
      exact List.getElem_mem _
    have HA := Box.mk (HR.out.node _ hame)
    obtain ⟨a, ha⟩ : ∃ a, (h :: L).getD k 0 = a := ⟨_, rfl⟩
    rw [ha] at hlk HA ⊢
    have Ha := Box.mk ha
    clear hame ha
    have ha20 : a ≤ 1048576 := by have := HA.out.2; omega
    by_cases hkn : k < n
    · have hkl : k < L.length := by rw [Hn.out]; exact hkn
      have hx0 : L.getD k h = L[k] := by simp [List.getD, hkl]
      have hxm : L[k] ∈ h :: L := List.mem_cons_of_mem _ (List.getElem_mem hkl)
      have hxh : L[k] ≠ h := ne_mem (List.getElem_mem hkl) (List.nodup_cons.1 HR.out.nodup).1
      have htk : L.take (k + 1) = L.take k ++ [L[k]] := by rw [List.take_add_one, List.getElem?_eq_getElem hkl]; rfl
      have hnx : (h :: L).getD (k + 1) 0 = L[k] := by simp [List.getD, hkl]
      rw [hx0] at hlk
      have HX := Box.mk (HR.out.node _ hxm)
      generalize L[k] = x at *
      have hx20 : x ≤ 1048576 := by have := HX.out.2; omega
      have hxh2 : ((x : Int) == (h : Int)) = false := by rw [beq_eq_false_iff_ne]; omega
      have Hl := Box.mk hlk
      have Ht := Box.mk htk
      have Hnx := Box.mk hnx
      have Htl : Box ((L.take k).length = k) := ⟨by simp; omega⟩
      clear hx0 hxm hxh htk hnx hlk hkl
      go_wp2_with fail
      refine (rbehind_is (p := a) (x := x) HI.out HA.out.2 Hl.out.1 hx20).mono ?_
      rintro e w1 ⟨rfl, h1, k1⟩
      have H1 := Box.mk h1
      have K1 := Box.mk (K.out.trans k1)
      have O1 := Box.mk (k1.own2 HO.out (fun z hz hf => by have := (HO.out.lt z hz).1; have := hlt.out; unfold foot at hf; omega))
      clear h1 k1 HI K HO
      go_wp2_with fail
      refine (rahead_is (p := x) (x := a) H1.out HX.out.2 Hl.out.2 ha20).mono ?_
      rintro e w2 ⟨rfl, h2, k2⟩
      have H2 := Box.mk h2
      have K2 := Box.mk (K1.out.trans k2)
      have O2' := k2.own2 O1.out (fun z hz hf => by have := (O1.out.lt z hz).1; have := hlt.out; unfold foot at hf; omega)
      rw [Htl.out] at O2'
      have O2 := Box.mk O2'
      have hws := K2.out.size
      clear h2 k2 H1 K1 O1 O2'
      go_wp2_with (at_builtin; refine wpList_append_own _ rfl _ _ 34 rfl w.heap.size 3 i0 _ 1 8 Try.underlying34 Hi.out.1 Hi.out.2.1 Hi.out.2.2.1 Hi.out.2.2.2 rfl (by decide) u8 k _ rfl (O2.out.alloc _) ⟨w2.heap.size, 0, none⟩ 1 1 [.int .i64 x] rfl rfl ?c1 ?c2 ?c3 ?c4 ?c5 ?c6)
      case c1 => exact World.news_of_block (cs := #[.int .i64 x]) (t := 3) (fr := (0, 0)) (heap_alloc_new _ _)
      case c2 => intro u hu; simp at hu; subst hu; rfl
      case c3 => unfold maxLen; omega
      case c4 => omega
      case c5 => simp; omega
      case c6 =>
        intro v' w6 hown6 hgrow _
        have hub : ∀ z, u8.ownBlock = some z → w.heap.size ≤ z := fun z hz => (O2.out.lt z hz).1
        have k6 : Keeps (fun z => u8.ownBlock = some z) w2 w6 := ((Keeps.refl (fun z => u8.ownBlock = some z) w2).alloc _).grown hgrow (fun k hk _ => hk)
        have K6 := Box.mk (K2.out.trans' k6 (by intro i hi h; have := hub _ h; omega))
        have H6 := Box.mk (H2.out.keeps k6 (fun h => by have := hub _ h; have := hlt.out; omega) (fun h => by have := hub _ h; have := hlt.out; omega))
        have O6 : Box (w6.ownsRow w.heap.size 3 1 v' (L.take (k + 1)).length (icells (L.take (k + 1)))) := ⟨by
          rw [Ht.out, List.length_append, Htl.out]
          simp only [icells, List.map_append] at hown6 ⊢
          exact hown6⟩
        clear hown6 hgrow k6 hub K2 H2 O2
        go_wp2_with fail
        go_roundw
        case rel => exact ⟨k + 1, by omega, by go_num, by rw [Hnx.out], O6, H6, K6⟩
        case measure => simp [intOf]; omega
    · have hkn2 : k = L.length := by rw [Hn.out]; omega
      have hx0 : L.getD k h = h := by simp [List.getD, List.getElem?_eq_none (by omega : L.length ≤ k)]
      rw [hx0] at hlk
      have Hl := Box.mk hlk
      have HX := Box.mk (HR.out.node h (by simp))
      have hh20 : h ≤ 1048576 := by have := HX.out.2; omega
      have HO2 : Box (wr.ownsRow w.heap.size 3 1 u8 n (icells L)) := ⟨by have h := HO.out; rw [List.take_of_length_le (by omega), Hn.out] at h; exact h⟩
      clear hx0 hlk hkn2 HO
      go_wp2_with fail
      refine (rbehind_is (p := a) (x := h) HI.out HA.out.2 Hl.out.1 hh20).mono ?_
      rintro e w1 ⟨rfl, h1, k1⟩
      have H1 := Box.mk h1
      have K1 := Box.mk (K.out.trans k1)
      have O1 := Box.mk (k1.own2 HO2.out (fun z hz hf => by have := (HO2.out.lt z hz).1; have := hlt.out; unfold foot at hf; omega))
      clear h1 k1 HI K HO2
      go_wp2_with fail
      refine (rahead_is (p := h) (x := a) H1.out HX.out.2 Hl.out.2 ha20).mono ?_
      rintro e w2 ⟨rfl, h2, k2⟩
      have H2 := Box.mk h2
      have K2 := Box.mk (K1.out.trans k2)
      have O2 := Box.mk (k2.own2 O1.out (fun z hz hf => by have := (O1.out.lt z hz).1; have := hlt.out; unfold foot at hf; omega))
      clear h2 k2 H1 K1 O1
      go_wp2_with fail
      exact bodyPost_ret (v := .tuple #[u8, .bool true]) (by simp [results, Try.results29, go_sem]) rfl ⟨_, rfl, O2.out, H2.out, K2.out⟩

end Go.Proofs.Ytlbmknnpglandaa
