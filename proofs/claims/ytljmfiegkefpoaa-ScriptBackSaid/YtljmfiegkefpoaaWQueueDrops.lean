/- QueueDrops's walk: what is dropped is gone; the others come out as they would have. -/
import Derived.Test.YtljmfiegkefpoaaQRead
namespace Go.Proofs.Ytljmfiegkefpoaa
set_option linter.unusedVariables false
set_option linter.unusedSimpArgs false
open Go.RowKit

/-- A row of the call's own stays. -/
theorem Keeps.own {S : Nat → Prop} {w w' : World} (h : Keeps S w w') {base : Nat} {e : TypeId} {size : Nat} {v : Value} {n : Nat} {xs : List Value}
    (hr : w.ownsRow base e size v n xs) (hs : ∀ k, v.ownBlock = some k → ¬ S k) : w'.ownsRow base e size v n xs := by
  obtain ⟨h1, h2⟩ := hr
  refine ⟨h1, ?_⟩
  rcases h2 with h2 | ⟨g', cap, cur, hv, hg, hh, r⟩
  · exact .inl h2
  · subst hv
    exact .inr ⟨_, _, cur, rfl, hg, by rw [h.block _ (Array.getElem?_eq_some_iff.1 hh).1 (hs _ rfl)]; exact hh, r⟩

theorem evCells_filter_snoc (p : Int × Int → Bool) (l : List (Int × Int)) (i : Nat) (h : i < l.length) (hp : p (l.getD i (0, 0)) = true) :
    evCells ((l.take i).filter p) ++ [.int .i64 (l.getD i (0, 0)).1, .int .i64 (l.getD i (0, 0)).2] = evCells ((l.take (i + 1)).filter p) ∧ ((l.take (i + 1)).filter p).length = ((l.take i).filter p).length + 1 := by
  rw [List.take_succ_eq_append_getElem h, List.filter_append]
  have e : l.getD i (0, 0) = l[i] := by simp [List.getD, h]
  rw [e] at hp ⊢
  rw [List.filter_cons_of_pos hp, List.filter_nil, evCells_snoc]
  simp
theorem filter_take_skip (p : Int × Int → Bool) (l : List (Int × Int)) (i : Nat) (h : i < l.length) (hp : p (l.getD i (0, 0)) = false) :
    (l.take (i + 1)).filter p = (l.take i).filter p := by
  rw [List.take_succ_eq_append_getElem h, List.filter_append]
  have e : l.getD i (0, 0) = l[i] := by simp [List.getD, h]
  rw [e] at hp
  rw [List.filter_cons_of_neg (by simp [hp]), List.filter_nil, List.append_nil]

theorem same_refl {w : World} {u v : Value} {l : List (Int × Int)} (hu : IsEvs w u l) (hv : IsEvs w v l) :
    Calls Try.prog 18 #[u, v] w fun e w' => e = .returned (.bool true) ∧ ∃ k, w' = w.drewN k := by
  have := same_is w u v l l hu hv
  rwa [show decide (l = l) = true from decide_eq_true rfl] at this

set_option maxRecDepth 100000 in
set_option maxHeartbeats 4000000 in
theorem QueueDrops_walk (v : Value) (k : Int) (w : World) (hv : Reads Try.prog w 22 v) (hk : (Lit.int .i64 k).wf = true) :
    Calls Try.prog 3 #[v, .int .i64 k] w fun e w' => e = .returned (.bool true) ∧ Below w.heap.size w w' := by
  clear hk
  obtain ⟨l, hl⟩ := events_of_reads hv
  clear hv
  obtain ⟨a, c, rfl⟩ := hl.form
  have hlen := hl.len
  have HL := Box.mk hl
  clear hl
  obtain ⟨n, hn⟩ : ∃ n, l.length = n := ⟨_, rfl⟩
  have Hn := Box.mk hn
  rw [hn] at hlen ⊢
  clear hn
  obtain ⟨i0, hi0, hz0, hz1, hz2⟩ := info_parts info_event
  have Hi := Box.mk (And.intro hi0 (And.intro hz0 (And.intro hz1 hz2)))
  clear hi0 hz0 hz1 hz2
  go_enter Try.func3, Try.ntmps3
  go_wp2_with fail
  refine (awake20 _).mono ?_
  rintro e w1 ⟨rfl, k1⟩
  have K1 := Box.mk k1
  clear k1
  by_cases h200 : 200 < n
  · go_wp2_with fail
    refine (awake20 _).mono ?_
    rintro e w2 ⟨rfl, k2⟩
    have K2 := Box.mk (K1.out.trans k2)
    clear k2
    go_wp2_with fail
    go_ret
    exact ⟨rfl, K2.out.below (Nat.le_refl _) (fun _ h => h.elim)⟩
  go_wp2_with fail
  refine (lnew_is _).mono ?_
  rintro e w2 ⟨rfl, h2, k2⟩
  obtain ⟨b, hb⟩ : ∃ b, w1.heap.size = b := ⟨_, rfl⟩
  rw [hb] at h2 ⊢
  have Hb : w.heap.size ≤ b := by have := K1.out.size; omega
  have H2 := Box.mk h2
  have K2 := Box.mk (K1.out.trans k2)
  clear hb h2 k2 K1
  go_wp2_with fail
  go_loopw [23] (fun i wr => ∃ (j : Nat) (q : List (Int × Int)), j ≤ n ∧ i = .int .i64 j ∧ Box (IsQL wr b q) ∧ Box (Keeps (fun _ => False) w wr)) (fun i _ => n - (intOf i).toNat)
  case atStart => exact ⟨0, [], Nat.zero_le _, rfl, H2, K2⟩
  case round =>
    clear H2 K2
    obtain ⟨j, q, hj, rfl, HQ, K⟩ := hrel
    by_cases hlt : j < n
    · obtain ⟨eb, eo, rfl, heb, c0, c1⟩ := HL.out.cells _ _ _ rfl j (by rw [Hn.out]; exact hlt)
      have d0 := K.out.cell c0 (fun h => h)
      have d1 := K.out.cell c1 (fun h => h)
      clear c0 c1
      generalize (l.getD j (0, 0)).1 = x at d0
      generalize (l.getD j (0, 0)).2 = y at d1
      have HQ1 := Box.mk (HQ.out.keeps0 ((Keeps.refl (fun _ => False) wr).alloc (.cells #[.int .i64 x, .int .i64 y] 27)))
      have K1 := Box.mk (K.out.alloc (.cells #[.int .i64 x, .int .i64 y] 27))
      go_wp2_with fail
      refine (lpush_any HQ1.out).mono ?_
      rintro e w3 ⟨r, q', rfl, hp, hq3, k3⟩
      have HQ3 := Box.mk hq3
      have K3 := Box.mk (K1.out.trans' k3 (by intro i hi h; omega))
      clear hp hq3 k3 HQ1 K1 HQ K
      go_wp2_with fail
      go_roundw
      case rel => exact ⟨j + 1, q', by omega, by go_num, HQ3, K3⟩
      case measure => simp [intOf]; omega
    · go_wp2_with fail
      clear hlt hj
      refine (lall_is HQ.out).mono ?_
      rintro e w3 ⟨u, rfl, ho, k3⟩
      have hq16 := HQ.out.len
      have HU := Box.mk (IsEvs.of_own ho)
      have hub : ∀ k, u.ownBlock = some k → b < k := fun k hk => by have := (ho.lt k hk).1; have := HQ.out.lt; omega
      obtain ⟨ua, uc, rfl⟩ := HU.out.form
      have HQ3 := Box.mk (HQ.out.keeps0 k3)
      have K3 := Box.mk (K.out.trans k3)
      obtain ⟨B, hB⟩ : ∃ B, w3.heap.size = B := ⟨_, rfl⟩
      have hBw : w.heap.size ≤ B := by have := K3.out.size; omega
      have hbB : b < B := by have := HQ3.out.lt; omega
      have Hua : Box (∀ bb oo, ua = some ⟨bb, oo, none⟩ → bb < B) := ⟨fun bb oo h => by subst h; have := (ho.lt bb rfl).2; omega⟩
      obtain ⟨nq, hnq⟩ : ∃ nq, q.length = nq := ⟨_, rfl⟩
      have Hnq := Box.mk hnq
      rw [hnq] at hq16 ⊢
      have Hown : Box (w3.ownsRow B 27 2 (.slice none 0 0) ((q.take 0).filter (fun p => p.1 != k)).length (evCells ((q.take 0).filter (fun p => p.1 != k)))) := ⟨World.ownsRow_nil _ _ _ _⟩
      have hBle : B ≤ w3.heap.size := by omega
      clear ho k3 hub HQ K hnq hB
      go_wp2_with fail
      go_loopw [8, 34] (fun v i wr => ∃ (j : Nat), j ≤ nq ∧ i = .int .i64 j ∧ Box (wr.ownsRow B 27 2 v ((q.take j).filter (fun p => p.1 != k)).length (evCells ((q.take j).filter (fun p => p.1 != k)))) ∧ B ≤ wr.heap.size ∧
          Box (Keeps (fun z => B ≤ z) w3 wr)) (fun _ i _ => nq - (intOf i).toNat)
      case atStart => exact ⟨0, Nat.zero_le _, rfl, Hown, hBle, ⟨Keeps.refl _ _⟩⟩
      case round =>
        clear Hown hBle
        obtain ⟨j, hj, rfl, Hown, hBle, K⟩ := hrel
        by_cases hlt : j < nq
        · obtain ⟨eb, eo, rfl, heb, c0, c1⟩ := HU.out.cells _ _ _ rfl j (by rw [Hnq.out]; exact hlt)
          have hebB := Hua.out eb eo rfl
          have d0 := K.out.cell c0 (by simp only; omega)
          have d1 := K.out.cell c1 (by simp only; omega)
          clear c0 c1
          have hebr : eb < wr.heap.size := by have := K.out.size; omega
          cases hp : (fun p : Int × Int => p.1 != k) (q.getD j (0, 0))
          · have hsk := filter_take_skip (fun p => p.1 != k) q j (by rw [Hnq.out]; exact hlt) hp
            have hx : ((q.getD j (0, 0)).1 != k) = false := hp
            have Hown2 : Box ((wr.alloc (.cells #[.int .i64 (q.getD j (0, 0)).1, .int .i64 (q.getD j (0, 0)).2] 27)).ownsRow B 27 2 u8 ((q.take (j + 1)).filter (fun p => p.1 != k)).length (evCells ((q.take (j + 1)).filter (fun p => p.1 != k)))) := ⟨by rw [hsk]; exact Hown.out.alloc _⟩
            have K2 := Box.mk (K.out.alloc (.cells #[.int .i64 (q.getD j (0, 0)).1, .int .i64 (q.getD j (0, 0)).2] 27))
            clear hsk hp Hown K
            generalize (q.getD j (0, 0)).1 = x at *
            generalize (q.getD j (0, 0)).2 = y at *
            go_wp2_with fail
            go_roundw
            case rel => exact ⟨j + 1, by omega, by go_num, Hown2, by simp; omega, K2⟩
            case measure => simp [intOf]; omega
          · have hsn := evCells_filter_snoc (fun p => p.1 != k) q j (by rw [Hnq.out]; exact hlt) hp
            have hx : ((q.getD j (0, 0)).1 != k) = true := hp
            have hle : ((q.take j).filter (fun p => p.1 != k)).length ≤ 16 := by
              have := List.length_filter_le (fun p : Int × Int => p.1 != k) (q.take j)
              have h2 : (q.take j).length ≤ j := List.length_take_le _ _
              omega
            clear hp
            generalize (q.getD j (0, 0)).1 = x at *
            generalize (q.getD j (0, 0)).2 = y at *
            have Hsn := Box.mk hsn
            clear hsn
            obtain ⟨fl, hfl⟩ : ∃ fl, ((q.take j).filter (fun p => p.1 != k)).length = fl := ⟨_, rfl⟩
            have Hown' : Box (wr.ownsRow B 27 2 u8 fl (evCells ((q.take j).filter (fun p => p.1 != k)))) := ⟨by rw [← hfl]; exact Hown.out⟩
            rw [hfl] at hle
            have Hfl := Box.mk hfl
            clear Hown hfl
            go_wp2_with (at_builtin; refine wpList_append_own _ rfl _ _ 22 rfl B 27 i0 _ 2 16 Try.underlying22 Hi.out.1 Hi.out.2.1 Hi.out.2.2.1 Hi.out.2.2.2 rfl (by decide) u8 fl _ rfl ((Hown'.out.alloc _).alloc _) ⟨wr.heap.size + 1, 0, none⟩ 1 1 [.int .i64 x, .int .i64 y] rfl rfl ?c1 ?c2 ?c3 ?c4 ?c5 ?c6)
            case c1 => exact World.news_of_block (cs := #[.int .i64 x, .int .i64 y]) (t := 27) (fr := (0, 0)) (by have := heap_alloc_new (wr.alloc (.cells #[.int .i64 x, .int .i64 y] 27)) (.cells #[.int .i64 x, .int .i64 y] 27); simpa using this)
            case c2 => intro u hu; simp at hu; rcases hu with rfl | rfl <;> rfl
            case c3 => unfold maxLen; omega
            case c4 => omega
            case c5 => simp; omega
            case c6 =>
              intro v' w6 hown6 hgrow _
              have Hown6 : Box (w6.ownsRow B 27 2 v' ((q.take (j + 1)).filter (fun p => p.1 != k)).length (evCells ((q.take (j + 1)).filter (fun p => p.1 != k)))) := ⟨by rw [Hsn.out.2, Hfl.out, ← Hsn.out.1]; exact hown6⟩
              have k6 : Keeps (fun z => B ≤ z) w3 w6 := ((K.out.alloc _).alloc _).grown hgrow (fun k hk _ => (Hown'.out.lt k hk).1)
              have K6 := Box.mk k6
              have hB6 : B ≤ w6.heap.size := by have := hgrow.size; simp at this; omega
              clear hown6 hgrow k6 K Hown'
              go_wp2_with fail
              go_roundw
              case rel => exact ⟨j + 1, by omega, by go_num, Hown6, hB6, K6⟩
              case measure => simp [intOf]; omega
        · have e : j = nq := by omega
          subst e
          have htk : q.take j = q := List.take_of_length_le (by rw [Hnq.out]; exact Nat.le_refl _)
          have Hown2 := Hown.out
          rw [htk] at Hown2
          have HEv := Box.mk (IsEvs.of_own Hown2)
          have HQ4 := Box.mk (HQ3.out.keeps K.out (by show ¬ B ≤ b; omega))
          have K4 := Box.mk (K3.out.trans' K.out (by intro i hi h; omega))
          obtain ⟨fl, hfl⟩ : ∃ fl, (q.filter (fun p => p.1 != k)).length = fl := ⟨_, rfl⟩
          have hub : ∀ z, u8.ownBlock = some z → B ≤ z := fun z hz => (Hown2.lt z hz).1
          obtain ⟨va, vc, rfl⟩ := HEv.out.form
          have Hva : Box (∀ bb oo nn cc, Value.slice va (q.filter (fun p => p.1 != k)).length vc = .slice (some ⟨bb, oo, none⟩) nn cc → bb ≠ b) := ⟨fun bb oo nn cc h => by
            simp only [Value.slice.injEq] at h
            obtain ⟨rfl, -, -⟩ := h
            have := hub bb rfl
            omega⟩
          clear Hown Hown2 K K3 HQ3 hub
          rw [hfl] at HEv Hva ⊢
          have Hfl := Box.mk hfl
          clear hfl
          go_wp2_with fail
          have hln := llen_is HQ4.out
          rw [Hnq.out] at hln
          refine hln.mono ?_
          clear hln
          rintro e w5 ⟨rfl, rfl⟩
          go_wp2_with fail
          have hdr := ldrop_is k HQ4.out
          rw [Hnq.out, Hfl.out] at hdr
          refine hdr.mono ?_
          clear hdr
          rintro e w6 ⟨rfl, hq6, k6⟩
          have HEv6 := Box.mk (HEv.out.keeps k6 (fun bb oo nn cc h => Hva.out bb oo nn cc h))
          have HQ6 := Box.mk hq6
          have K6 := Box.mk (K4.out.trans' k6 (by intro i hi h; omega))
          clear hq6 k6 HEv HQ4 K4
          have hfq : fl ≤ j := by rw [← Hfl.out, ← Hnq.out]; exact List.length_filter_le _ _
          clear htk hlt hj h200
          obtain ⟨d, hd⟩ : ∃ d : Int, (j : Int) - (fl : Int) = d := ⟨_, rfl⟩
          rw [hd]
          have hwd : IntKind.i64.wrap d = d := by simp only [IntKind.wrap]; simp [IntKind.bits, IntKind.signed]; omega
          clear hfq hq16 hlen
          go_wp2_with fail
          refine (lall_is HQ6.out).mono ?_
          rintro e w7 ⟨u7, rfl, ho7, k7⟩
          have HU7 := Box.mk (IsEvs.of_own ho7)
          have HEv7 := Box.mk (HEv6.out.keeps0 k7)
          have K7 := Box.mk (K6.out.trans k7)
          clear ho7 k7 HEv6 HQ6 K6
          go_wp2_with fail
          refine (same_refl HU7.out HEv7.out).mono ?_
          rintro e w8 ⟨rfl, zz, rfl⟩
          have K8 := Box.mk (K7.out.drewN zz)
          clear K7 HU7 HEv7
          go_wp2_with fail
          go_ret
          exact ⟨rfl, K8.out.below (Nat.le_refl _) (fun _ h => h.elim)⟩

end Go.Proofs.Ytljmfiegkefpoaa
