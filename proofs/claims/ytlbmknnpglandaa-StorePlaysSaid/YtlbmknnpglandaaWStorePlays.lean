/- StorePlays's walk: in every order of calls words are read as they were written, and touches counted. -/
import Derived.Test.YtlbmknnpglandaaRef
import Derived.Test.YtlbmknnpglandaaRead
import Derived.Deep.RegionHeld3
namespace Go.Proofs.Ytlbmknnpglandaa
set_option linter.unusedVariables false
set_option linter.unusedSimpArgs false
open Go.RowKit

/-- A script of calls, in memory: kind, place, word of each. -/
structure IsOps (w : World) (a : Option Addr) (len : Nat) (K I W : Nat → Int) : Prop where
  cells : ∀ i, i < len → ∃ b o, a = some ⟨b, o, none⟩ ∧ b < w.heap.size ∧ w.cell? ⟨b, o + i * 3, none⟩ = some (.int .i64 (K i)) ∧ w.cell? ⟨b, o + i * 3 + 1, none⟩ = some (.int .i64 (I i)) ∧
    w.cell? ⟨b, o + i * 3 + 2, none⟩ = some (.int .u64 (W i))

set_option maxRecDepth 100000 in
theorem ops_of_reads {w : World} {v : Value} (h : Reads Try.prog w 38 v) : ∃ a len cap K I W, v = .slice a len cap ∧ len ≤ maxLen ∧ IsOps w a len K I W := by
  obtain ⟨n, ht⟩ := h.tr
  have hv : ∃ a len cap, v = .slice a len cap := by
    obtain ⟨b0, hw⟩ := h.wide
    exact Go.WideShapes.okWide_slice Try.underlying38 hw
  obtain ⟨a, len, cap, rfl⟩ := hv
  have h3 : (Value.slice a len cap).cells.toList = [.slice a len cap] := by simp [Value.cells]
  rw [h3] at ht
  rcases ht.recs Try.underlying38 Try.underlying45 (by kernel_rfl) (by kernel_rfl) (by decide) with h0 | ⟨x, l, c, m, hcs, hl, hm, h0, hf⟩
  · simp only [List.cons.injEq, Value.slice.injEq, and_true] at h0
    obtain ⟨rfl, rfl, rfl⟩ := h0
    exact ⟨none, 0, 0, fun _ => 0, fun _ => 0, fun _ => 0, rfl, Nat.zero_le _, ⟨fun i hi => by omega⟩⟩
  · simp only [List.cons.injEq, Value.slice.injEq, and_true] at hcs
    obtain ⟨rfl, rfl, rfl⟩ := hcs
    have key : ∀ i, i < len → ∃ p : Int × Int × Int, w.cell? ⟨x.block, x.off + i * 3, none⟩ = some (.int .i64 p.1) ∧ w.cell? ⟨x.block, x.off + i * 3 + 1, none⟩ = some (.int .i64 p.2.1) ∧
        w.cell? ⟨x.block, x.off + i * 3 + 2, none⟩ = some (.int .u64 p.2.2) := by
      intro i hi
      obtain ⟨u0, h0, r0⟩ := hf i hi 0 _ rfl
      obtain ⟨u1, h1, r1⟩ := hf i hi 1 _ rfl
      obtain ⟨u2, h2, r2⟩ := hf i hi 2 _ rfl
      obtain ⟨k0, e0, _⟩ := r0.int Try.underlying3
      obtain ⟨k1, e1, _⟩ := r1.int Try.underlying3
      obtain ⟨k2, e2, _⟩ := r2.int Try.underlying22
      simp only [List.cons.injEq, and_true] at e0 e1 e2
      subst e0 e1 e2
      exact ⟨(k0, k1, k2), h0, h1, h2⟩
    obtain ⟨f, hf⟩ := Go.Deep.choose_lt key
    refine ⟨some x, len, cap, fun i => (f i).1, fun i => (f i).2.1, fun i => (f i).2.2, rfl, by omega, ⟨fun i hi => ?_⟩⟩
    obtain ⟨b, o, rfl, hb⟩ := h0 (by omega)
    exact ⟨b, o, rfl, hb, hf i hi⟩

theorem ref_world (n : Nat) (w : World) (hn : n ≤ 1048576) :
    IsRef ((w.alloc (.cells (madeCells #[.int .u64 0] n) 22)).alloc (.cells #[.slice (some ⟨w.heap.size, 0, none⟩) n n, .int .i64 0] 43))
      ⟨w.heap.size + 1, w.heap.size, n, List.replicate n 0, 0⟩ := by
  refine ⟨?_, ?_, by simp, by simpa using hn⟩
  · have := heap_alloc_new (w.alloc (.cells (madeCells #[.int .u64 0] n) 22)) (.cells #[.slice (some ⟨w.heap.size, 0, none⟩) n n, .int .i64 0] 43)
    simpa using this
  · have := World.ownsRow_lit (e := 22) (size := 1) (base := 0) w (madeCells #[.int .u64 0] n) n (Nat.zero_le _) (by unfold maxLen; omega) (by simp [size_madeCells])
    rw [toList_madeCells_one] at this
    simpa using this.alloc _

theorem Keeps.drewN {S : Nat → Prop} {a b : World} (h : Keeps S a b) (n : Nat) : Keeps S a (b.drewN n) := ⟨h.os, h.tape, h.output, h.size, h.block⟩
theorem IsStore.drewN {w : World} {s : SSt} (h : IsStore w s) (n : Nat) : IsStore (w.drewN n) s := ⟨h.head, h.row, h.ne, h.len⟩
theorem IsRef.drewN {w : World} {s : SSt} (h : IsRef w s) (n : Nat) : IsRef (w.drewN n) s := ⟨h.head, h.row, h.ne, h.len⟩
theorem Keeps.unalloc {S : Nat → Prop} {a c : World} {o : Obj} (h : Keeps S (a.alloc o) c) : Keeps S a c := ((Keeps.refl S a).alloc o).trans h
theorem Keeps.undrew {S : Nat → Prop} {a c : World} (h : Keeps S a.drew c) : Keeps S a c := (show Keeps S a a.drew from (Keeps.refl S a).drew).trans h
theorem IsStore.alloc {w : World} {s : SSt} (h : IsStore w s) (o : Obj) : IsStore (w.alloc o) s := h.keeps ((Keeps.refl (fun _ => False) w).alloc o) (fun h => h) (fun h => h)
theorem IsRef.alloc {w : World} {s : SSt} (h : IsRef w s) (o : Obj) : IsRef (w.alloc o) s := h.keeps ((Keeps.refl (fun _ => False) w).alloc o) (fun h => h) (fun h => h)
theorem IsStore.keeps0 {w w' : World} {s : SSt} (h : IsStore w s) (k : Keeps (fun _ => False) w w') : IsStore w' s := h.keeps k (fun h => h) (fun h => h)
theorem IsRef.keeps0 {w w' : World} {s : SSt} (h : IsRef w s) (k : Keeps (fun _ => False) w w') : IsRef w' s := h.keeps k (fun h => h) (fun h => h)

theorem kind03_nil (w : World) : Calls Try.prog 17 #[.nilIface] w fun e w' => e = .returned (.int .i64 0) ∧ Keeps (fun _ => False) w w' := kind03 0 (by omega) w
theorem kind03_err (a : Int) (h : a = 1 ∨ a = 2 ∨ a = 3) (w : World) : Calls Try.prog 17 #[.iface 70 (.int .i64 a)] w fun e w' => e = .returned (.int .i64 a) ∧ Keeps (fun _ => False) w w' := by
  have := kind03 a (by omega) w
  unfold errV at this
  rwa [if_neg (by omega)] at this

set_option maxRecDepth 100000 in
set_option maxHeartbeats 4000000 in
theorem StorePlays_main (n : Int) (a : Option Addr) (len cap : Nat) (K_ I W : Nat → Int) (w : World) (hlen : len ≤ 500) (hn0 : 0 ≤ n) (hn1 : n ≤ 16384) (ho : IsOps w a len K_ I W) :
    Calls Try.prog 5 #[.int .i64 n, .slice a len cap] w fun e w' => e = .returned (.bool true) ∧ Below w.heap.size w w' := by
  obtain ⟨m, rfl⟩ := Int.eq_ofNat_of_zero_le hn0
  clear hn0
  have HO := Box.mk ho
  clear ho
  obtain ⟨i0, hi, hz0, hz1, hz2⟩ := info_parts info_u64
  have hmk := fun (w : World) => run_make (P := Try.prog) w 41 22 i0 (.int .u64 0) Try.underlying41 hi hz0 .i64 .i64 m m (by omega) (by omega) (by rw [hz2]; omega) (by omega)
  simp only [hz1, Nat.mul_one, Int.toNat_natCast, Value.cells] at hmk
  clear hi hz0 hz1 hz2
  go_enter Try.func5, Try.ntmps5
  go_wp2_with fail
  refine (new_ok m _ (by omega) (by omega)).mono ?_
  rintro e w1 ⟨⟨b, g, c, ws, k⟩, rfl, hs, hws, hk, k1, hb, hg⟩
  simp only at hws hk hb hg
  subst hws hk
  have Hs : Box (IsStore w1 ⟨b, g, c, List.replicate m 0, 0⟩) := ⟨by simpa using hs⟩
  have K1 := Box.mk k1
  clear hs k1
  go_wp2_with fail
  refine (awake03 _).mono ?_
  rintro e w3 ⟨rfl, k3⟩
  have K3 := Box.mk (K1.out.trans k3)
  have Hs3 := Box.mk (Hs.out.keeps k3 (fun h => h) (fun h => h))
  clear k3 K1 Hs
  go_wp2_with fail
  have hrw := ref_world m w3 (by omega)
  have hst := (Hs3.out.keeps ((Keeps.refl (fun _ => False) w3).alloc (.cells (madeCells #[.int .u64 0] m) 22)) (fun h => h) (fun h => h)).keeps ((Keeps.refl (fun _ => False) _).alloc (.cells #[.slice (some ⟨w3.heap.size, 0, none⟩) m m, .int .i64 0] 43)) (fun h => h) (fun h => h)
  have hk := (K3.out.alloc (.cells (madeCells #[.int .u64 0] m) 22)).alloc (.cells #[.slice (some ⟨w3.heap.size, 0, none⟩) m m, .int .i64 0] 43)
  have hlt := Hs3.out.lt
  have hsz := K3.out.size
  simp only at hlt
  obtain ⟨rb, hrb⟩ : ∃ rb, rb = w3.heap.size + 1 := ⟨_, rfl⟩
  obtain ⟨rg, hrg⟩ : ∃ rg, rg = w3.heap.size := ⟨_, rfl⟩
  rw [← hrb, ← hrg] at hrw
  rw [← hrg] at hrb
  simp only [← hrg, ← hrb] at hst hk ⊢
  have d1 : b < rg ∧ g < rg ∧ w.heap.size ≤ rg := by omega
  obtain ⟨d1, d2, d3⟩ := d1
  have d4 : rg < rb := by omega
  have HW := Box.mk hrw
  have HS := Box.mk hst
  have HK := Box.mk hk
  clear hrw hst hk hlt hsz hrb hrg hmk
  go_loopw [5, 69] (fun p i wr => ∃ (k : Nat) (s : SSt), k ≤ len ∧ i = .int .i64 k ∧ p = .pointer (some ⟨s.b, 0, none⟩) ∧ Box (s.ws.length = m) ∧ Box (IsStore wr s) ∧ Box (IsRef wr ⟨rb, rg, m, s.ws, s.k⟩) ∧
      s.b ≠ rb ∧ s.b ≠ rg ∧ s.g ≠ rb ∧ s.g ≠ rg ∧ w.heap.size ≤ s.b ∧ w.heap.size ≤ s.g ∧ Box (Keeps (fun _ => False) w wr)) (fun _ i _ => len - (intOf i).toNat)
  case atStart => exact ⟨0, ⟨b, g, c, List.replicate m 0, 0⟩, Nat.zero_le _, rfl, rfl, ⟨by simp⟩, HS, HW, by simp only; omega, by simp only; omega, by simp only; omega, by simp only; omega, hb, hg, HK⟩
  case round =>
    clear HS HW HK d1 d2 hb hg
    obtain ⟨k, s, hk, rfl, rfl, Hl, Hs, Hr, n1, n2, n3, n4, hb, hg, K⟩ := hrel
    by_cases hlt : k < len
    · obtain ⟨ob, oo, rfl, hob, c0, c1, c2⟩ := HO.out.cells k hlt
      have e0 := K.out.cell c0 (fun h => h)
      have e1 := K.out.cell c1 (fun h => h)
      have e2 := K.out.cell c2 (fun h => h)
      have hobr : ob < wr.heap.size := by have := K.out.size; omega
      clear c0 c1 c2
      generalize K_ k = kk at e0
      generalize I k = ii at e1
      generalize W k = vv at e2
      obtain ⟨sb, sg, sc, ws, q0⟩ := s
      have hsl := Hs.out.lt
      have hrl := Hr.out.lt
      simp only at hrl hsl n1 n2 n3 n4 hb hg Hl
      by_cases hk1 : kk = 1
      · subst hk1
        by_cases hin : (⟨sb, sg, sc, ws, q0⟩ : SSt).has ii
        · have Hin := Box.mk hin
          clear hin
          go_wp2_with fail
          obtain ⟨q, hq⟩ : ∃ q, q = wrap64 (q0 + 1) := ⟨_, rfl⟩
          have Hq := Box.mk hq
          clear hq
          refine (get_at (s := ⟨sb, sg, sc, ws, q0⟩) (t := ⟨sb, sg, sc, ws, q⟩) ?_ Hin.out rfl (by rw [Hq.out]; rfl)).mono ?_
          exact Hs.out.alloc _
          rintro e w4 ⟨rfl, hs4, k4⟩
          have Hs4 := Box.mk hs4
          have K4 := Box.mk k4.unalloc
          have hc4 : w4.cell? ⟨wr.heap.size, 1, none⟩ = some (.int .i64 ii) := k4.cell (by simp) (by simp only [SSt.foot]; omega)
          clear hs4 k4
          go_wp2_with fail
          have hr4 : IsRef w4 ⟨rb, rg, m, ws, q0⟩ := Hr.out.keeps K4.out (by simp only [SSt.foot]; omega) (by simp only [SSt.foot]; omega)
          refine (rget_at (s := ⟨rb, rg, m, ws, q0⟩) (t := ⟨rb, rg, m, ws, q⟩) hr4 Hin.out rfl (by rw [Hq.out]; rfl)).mono ?_
          rintro e w5 ⟨rfl, hr5, k5⟩
          have Hr5 := Box.mk hr5
          have Hs5 : Box (IsStore w5 ⟨sb, sg, sc, ws, q⟩) := ⟨Hs4.out.keeps k5 (by simp only [SSt.foot]; omega) (by simp only [SSt.foot]; omega)⟩
          have K5 : Box (Keeps (fun _ => False) w w5) := ⟨(K.out.trans' K4.out (by intro i hi h; simp only [SSt.foot] at h; omega)).trans' k5 (by intro i hi h; simp only [SSt.foot] at h; omega)⟩
          clear hr5 k5 hr4 Hr Hs4 K4 hc4
          go_wp2_with fail
          refine (kind03_nil _).mono ?_
          rintro e w6 ⟨rfl, k6⟩
          have Hr6 := Box.mk (Hr5.out.keeps0 k6)
          have Hs6 := Box.mk (Hs5.out.keeps0 k6)
          have K6 := Box.mk (K5.out.trans k6)
          clear k6 Hr5 Hs5 K5
          go_wp2_with fail
          have hct : w6.cell? ⟨rb, 1, none⟩ = some (.int .i64 q) := by have := cell_of_heap Hr6.out.head 1; simpa using this
          have Hl' : Box ((ws).length = m) := Hl
          have hsz := fun n => size_is _ _ (Hs6.out.drewN n)
          simp only [Hl'.out] at hsz
          have HZ := Box.mk hsz
          clear hsz
          go_quiet ((first | (go_at_call 16; exact Calls.quiet_of_same (count_is _ ⟨sb, sg, sc, ws, q⟩ (Hs6.out.drewN _))) | (go_at_call 21; exact Calls.quiet_of_same (HZ.out _))))
          go_wp2_with fail
          go_roundw
          case rel => exact ⟨k + 1, ⟨sb, sg, sc, ws, q⟩, by omega, by go_num, rfl, Hl', ⟨Hs6.out.drewN _⟩, ⟨Hr6.out.drewN _⟩, by simp only; omega, by simp only; omega, by simp only; omega, by simp only; omega, by simp only; omega, by simp only; omega, ⟨K6.out.drewN _⟩⟩
          case measure => simp [intOf]; omega
        · have Hin := Box.mk hin
          clear hin
          go_wp2_with fail
          refine (get_no _ _ ⟨sb, sg, sc, ws, q0⟩ ?_ Hin.out).mono ?_
          exact Hs.out.alloc _
          rintro e w4 ⟨rfl, rfl⟩
          have hr4 := Box.mk (Hr.out.alloc (.cells #[.int .i64 1, .int .i64 ii, .int .u64 vv] 45))
          have hs4 := Box.mk (Hs.out.alloc (.cells #[.int .i64 1, .int .i64 ii, .int .u64 vv] 45))
          have K4 := Box.mk (K.out.alloc (.cells #[.int .i64 1, .int .i64 ii, .int .u64 vv] 45))
          go_wp2_with fail
          refine (rget_no _ _ ⟨rb, rg, m, ws, q0⟩ hr4.out Hin.out).mono ?_
          rintro e w5 ⟨rfl, rfl⟩
          go_wp2_with fail
          refine (kind03_err 3 (by omega) _).mono ?_
          rintro e w6 ⟨rfl, k6⟩
          have Hr6 := Box.mk (hr4.out.keeps0 k6)
          have Hs6 := Box.mk (hs4.out.keeps0 k6)
          have K6 := Box.mk (K4.out.trans k6)
          clear k6 hr4 hs4 K4
          go_wp2_with fail
          have hct : w6.cell? ⟨rb, 1, none⟩ = some (.int .i64 q0) := by have := cell_of_heap Hr6.out.head 1; simpa using this
          have Hl' : Box ((ws).length = m) := Hl
          have hsz := fun n => size_is _ _ (Hs6.out.drewN n)
          simp only [Hl'.out] at hsz
          have HZ := Box.mk hsz
          clear hsz
          go_quiet ((first | (go_at_call 16; exact Calls.quiet_of_same (count_is _ ⟨sb, sg, sc, ws, q0⟩ (Hs6.out.drewN _))) | (go_at_call 21; exact Calls.quiet_of_same (HZ.out _))))
          go_wp2_with fail
          go_roundw
          case rel => exact ⟨k + 1, ⟨sb, sg, sc, ws, q0⟩, by omega, by go_num, rfl, Hl', ⟨Hs6.out.drewN _⟩, ⟨Hr6.out.drewN _⟩, by simp only; omega, by simp only; omega, by simp only; omega, by simp only; omega, by simp only; omega, by simp only; omega, ⟨K6.out.drewN _⟩⟩
          case measure => simp [intOf]; omega
      · by_cases hk2 : kk = 2
        · subst hk2
          clear hk1
          by_cases hin : (⟨sb, sg, sc, ws, q0⟩ : SSt).has ii
          · have Hin := Box.mk hin
            clear hin
            obtain ⟨q, hq⟩ : ∃ q, q = wrap64 (q0 + 1) := ⟨_, rfl⟩
            have Hq := Box.mk hq
            clear hq
            have hs3 := Hs.out.alloc (.cells #[.int .i64 2, .int .i64 ii, .int .u64 vv] 45)
            have hr3 := Hr.out.alloc (.cells #[.int .i64 2, .int .i64 ii, .int .u64 vv] 45)
            have hk3 := K.out.alloc (.cells #[.int .i64 2, .int .i64 ii, .int .u64 vv] 45)
            have hsz3 : (wr.alloc (.cells #[.int .i64 2, .int .i64 ii, .int .u64 vv] 45)).heap.size = wr.heap.size + 1 := by simp
            have hx1 : (wr.alloc (.cells #[.int .i64 2, .int .i64 ii, .int .u64 vv] 45)).cell? ⟨wr.heap.size, 1, none⟩ = some (.int .i64 ii) := by simp
            have hx2 : (wr.alloc (.cells #[.int .i64 2, .int .i64 ii, .int .u64 vv] 45)).cell? ⟨wr.heap.size, 2, none⟩ = some (.int .u64 vv) := by simp
            have hfo : ∀ k, (⟨sb, sg, sc, ws, q0⟩ : SSt).foot k → k < wr.heap.size := by intro k hk; simp only [SSt.foot] at hk; omega
            have hfr : ∀ k, (⟨rb, rg, m, ws, q0⟩ : SSt).foot k → k < wr.heap.size := by intro k hk; simp only [SSt.foot] at hk; omega
            have Hfo := Box.mk hfo
            have Hfr := Box.mk hfr
            have Hsz := Box.mk hsz3
            clear hfo hfr hsz3
            go_wp2_with fail
            generalize wr.alloc (.cells #[.int .i64 2, .int .i64 ii, .int .u64 vv] 45) = wa at hs3 hr3 hk3 hx1 hx2 Hsz ⊢
            have HS3 := Box.mk hs3
            have HR3 := Box.mk hr3
            have HK3 := Box.mk hk3
            clear hs3 hr3 hk3
            go_region_held3 (fun w' => w'.cell? ⟨wr.heap.size, 1, none⟩ = some (.int .i64 ii) ∧ w'.cell? ⟨wr.heap.size, 2, none⟩ = some (.int .u64 vv))
              (first | go_keep | exact ⟨(k6.cell (k5.cell (k4.cell (by exact hx1) (fun h => absurd (Hfo.out _ h) (Nat.lt_irrefl _))) (fun h => h)) (fun h => absurd (Hfr.out _ h) (Nat.lt_irrefl _))), (k6.cell (k5.cell (k4.cell (by exact hx2) (fun h => absurd (Hfo.out _ h) (Nat.lt_irrefl _))) (fun h => h)) (fun h => absurd (Hfr.out _ h) (Nat.lt_irrefl _)))⟩ | exact ⟨(k5.cell (k4.cell (by exact hx1) (fun h => absurd (Hfo.out _ h) (Nat.lt_irrefl _))) (fun h => h)), (k5.cell (k4.cell (by exact hx2) (fun h => absurd (Hfo.out _ h) (Nat.lt_irrefl _))) (fun h => h))⟩ | exact ⟨(k4.cell (by exact hx1) (fun h => absurd (Hfo.out _ h) (Nat.lt_irrefl _))), (k4.cell (by exact hx2) (fun h => absurd (Hfo.out _ h) (Nat.lt_irrefl _)))⟩)
              (first
                | (go_at_call 12; refine (set_at (s := ⟨sb, sg, sc, ws, q0⟩) (t := ⟨sb, sg, sc, ws.set ii.toNat vv, q⟩) (show IsStore wa.drew _ from ⟨HS3.out.head, HS3.out.row, HS3.out.ne, HS3.out.len⟩) Hin.out (by rw [Hq.out]; rfl)).mono ?_; rintro e w4 ⟨rfl, hs4, k4⟩)
                | (go_at_call 17; refine (kind03_nil _).mono ?_; rintro e w5 ⟨rfl, k5⟩)
                | (go_at_call 19; refine (rset_at (s := ⟨rb, rg, m, ws, q0⟩) (t := ⟨rb, rg, m, ws.set ii.toNat vv, q⟩) (((show IsRef wa.drew _ from ⟨HR3.out.head, HR3.out.row, HR3.out.ne, HR3.out.len⟩).keeps k4 (by simp only [SSt.foot]; omega) (by simp only [SSt.foot]; omega)).keeps0 k5) Hin.out (by rw [Hq.out]; rfl)).mono ?_; rintro e w6 ⟨rfl, hr6, k6⟩))
            have Hs6 : Box (IsStore w6 ⟨sb, sg, sc, ws.set ii.toNat vv, q⟩) := ⟨(hs4.keeps0 k5).keeps k6 (by simp only [SSt.foot]; omega) (by simp only [SSt.foot]; omega)⟩
            have Hr6 := Box.mk hr6
            have K6 : Box (Keeps (fun _ => False) w w6) := ⟨((HK3.out.drew.trans' k4 (by intro i hi h; simp only [SSt.foot] at h; omega)).trans k5).trans' k6 (by intro i hi h; simp only [SSt.foot] at h; omega)⟩
            clear hs4 hr6 k4 k5 k6 hx1 hx2 HS3 HR3 HK3
            go_wp2_with fail
            have hct : w6.cell? ⟨rb, 1, none⟩ = some (.int .i64 q) := by have := cell_of_heap Hr6.out.head 1; simpa using this
            have Hl' : Box ((ws.set ii.toNat vv).length = m) := ⟨by simpa using Hl.out⟩
            have hsz := fun n => size_is _ _ (Hs6.out.drewN n)
            simp only [Hl'.out] at hsz
            have HZ := Box.mk hsz
            clear hsz
            go_quiet ((first | (go_at_call 16; exact Calls.quiet_of_same (count_is _ ⟨sb, sg, sc, ws.set ii.toNat vv, q⟩ (Hs6.out.drewN _))) | (go_at_call 21; exact Calls.quiet_of_same (HZ.out _))))
            go_wp2_with fail
            go_roundw
            case rel => exact ⟨k + 1, ⟨sb, sg, sc, ws.set ii.toNat vv, q⟩, by omega, by go_num, rfl, Hl', ⟨Hs6.out.drewN _⟩, ⟨Hr6.out.drewN _⟩, by simp only; omega, by simp only; omega, by simp only; omega, by simp only; omega, by simp only; omega, by simp only; omega, ⟨K6.out.drewN _⟩⟩
            case measure => simp [intOf]; omega
          · have Hin := Box.mk hin
            clear hin
            have hs3 := Hs.out.alloc (.cells #[.int .i64 2, .int .i64 ii, .int .u64 vv] 45)
            have hr3 := Hr.out.alloc (.cells #[.int .i64 2, .int .i64 ii, .int .u64 vv] 45)
            have hk3 := K.out.alloc (.cells #[.int .i64 2, .int .i64 ii, .int .u64 vv] 45)
            have hsz3 : (wr.alloc (.cells #[.int .i64 2, .int .i64 ii, .int .u64 vv] 45)).heap.size = wr.heap.size + 1 := by simp
            have hx1 : (wr.alloc (.cells #[.int .i64 2, .int .i64 ii, .int .u64 vv] 45)).cell? ⟨wr.heap.size, 1, none⟩ = some (.int .i64 ii) := by simp
            have hx2 : (wr.alloc (.cells #[.int .i64 2, .int .i64 ii, .int .u64 vv] 45)).cell? ⟨wr.heap.size, 2, none⟩ = some (.int .u64 vv) := by simp
            have hfo : ∀ k, (⟨sb, sg, sc, ws, q0⟩ : SSt).foot k → k < wr.heap.size := by intro k hk; simp only [SSt.foot] at hk; omega
            have hfr : ∀ k, (⟨rb, rg, m, ws, q0⟩ : SSt).foot k → k < wr.heap.size := by intro k hk; simp only [SSt.foot] at hk; omega
            have Hfo := Box.mk hfo
            have Hfr := Box.mk hfr
            have Hsz := Box.mk hsz3
            clear hfo hfr hsz3
            go_wp2_with fail
            generalize wr.alloc (.cells #[.int .i64 2, .int .i64 ii, .int .u64 vv] 45) = wa at hs3 hr3 hk3 hx1 hx2 Hsz ⊢
            have HS3 := Box.mk hs3
            have HR3 := Box.mk hr3
            have HK3 := Box.mk hk3
            clear hs3 hr3 hk3
            go_region_held3 (fun w' => w'.cell? ⟨wr.heap.size, 1, none⟩ = some (.int .i64 ii) ∧ w'.cell? ⟨wr.heap.size, 2, none⟩ = some (.int .u64 vv))
              (first | go_keep | exact ⟨(k5.cell (by exact hx1) (fun h => h)), (k5.cell (by exact hx2) (fun h => h))⟩)
              (first
                | (go_at_call 12; refine (set_no _ _ _ ⟨sb, sg, sc, ws, q0⟩ (show IsStore wa.drew _ from ⟨HS3.out.head, HS3.out.row, HS3.out.ne, HS3.out.len⟩) Hin.out).mono ?_; rintro e w4 ⟨rfl, rfl⟩)
                | (go_at_call 17; refine (kind03_err 3 (by omega) _).mono ?_; rintro e w5 ⟨rfl, k5⟩)
                | (go_at_call 19; refine (rset_no _ _ _ ⟨rb, rg, m, ws, q0⟩ ((show IsRef wa.drew _ from ⟨HR3.out.head, HR3.out.row, HR3.out.ne, HR3.out.len⟩).keeps0 k5) Hin.out).mono ?_; rintro e w6 ⟨rfl, rfl⟩))
            have Hs6 : Box (IsStore w6 ⟨sb, sg, sc, ws, q0⟩) := ⟨(show IsStore wa.drew _ from ⟨HS3.out.head, HS3.out.row, HS3.out.ne, HS3.out.len⟩).keeps0 k5⟩
            have Hr6 : Box (IsRef w6 ⟨rb, rg, m, ws, q0⟩) := ⟨(show IsRef wa.drew _ from ⟨HR3.out.head, HR3.out.row, HR3.out.ne, HR3.out.len⟩).keeps0 k5⟩
            have K6 : Box (Keeps (fun _ => False) w w6) := ⟨HK3.out.drew.trans k5⟩
            clear k5 hx1 hx2 HS3 HR3 HK3
            go_wp2_with fail
            have hct : w6.cell? ⟨rb, 1, none⟩ = some (.int .i64 q0) := by have := cell_of_heap Hr6.out.head 1; simpa using this
            have Hl' : Box ((ws).length = m) := Hl
            have hsz := fun n => size_is _ _ (Hs6.out.drewN n)
            simp only [Hl'.out] at hsz
            have HZ := Box.mk hsz
            clear hsz
            go_quiet ((first | (go_at_call 16; exact Calls.quiet_of_same (count_is _ ⟨sb, sg, sc, ws, q0⟩ (Hs6.out.drewN _))) | (go_at_call 21; exact Calls.quiet_of_same (HZ.out _))))
            go_wp2_with fail
            go_roundw
            case rel => exact ⟨k + 1, ⟨sb, sg, sc, ws, q0⟩, by omega, by go_num, rfl, Hl', ⟨Hs6.out.drewN _⟩, ⟨Hr6.out.drewN _⟩, by simp only; omega, by simp only; omega, by simp only; omega, by simp only; omega, by simp only; omega, by simp only; omega, ⟨K6.out.drewN _⟩⟩
            case measure => simp [intOf]; omega
        · by_cases hin : (⟨sb, sg, sc, ws, q0⟩ : SSt).has 0
          · have Hin := Box.mk hin
            clear hin
            go_wp2_with fail
            have hs3 := Hs.out.alloc (.cells #[.int .i64 kk, .int .i64 ii, .int .u64 vv] 45)
            have hr3 := Hr.out.alloc (.cells #[.int .i64 kk, .int .i64 ii, .int .u64 vv] 45)
            have hk3 := K.out.alloc (.cells #[.int .i64 kk, .int .i64 ii, .int .u64 vv] 45)
            refine (copy_is _ ⟨sb, sg, sc, ws, q0⟩ hs3).mono ?_
            rintro e w4 ⟨⟨tb, tg, tc, tws, tq⟩, rfl, ht4, hws, hq, k4, htb, htg⟩
            simp only at hws hq htb htg
            subst hws hq
            have hsz3 : wr.heap.size < (wr.alloc (.cells #[.int .i64 kk, .int .i64 ii, .int .u64 vv] 45)).heap.size := by simp
            have Ht4 := Box.mk ht4
            have Hs4 := Box.mk (hs3.keeps0 k4)
            have Hr4 := Box.mk (hr3.keeps0 k4)
            have K4 := Box.mk (hk3.trans k4)
            have htb' : wr.heap.size ≤ tb ∧ wr.heap.size ≤ tg := by omega
            obtain ⟨htb1, htg1⟩ := htb'
            have hws := K.out.size
            clear ht4 hs3 hr3 hk3 k4 htb htg hsz3
            go_wp2_with fail
            refine (set_at (s := ⟨sb, sg, sc, tws, tq⟩) Hs4.out Hin.out rfl).mono ?_
            rintro e w6 ⟨rfl, hs6, k6⟩
            have Hs6 : Box (IsStore w6 ⟨tb, tg, tc, tws, tq⟩) := ⟨Ht4.out.keeps k6 (by simp only [SSt.foot]; omega) (by simp only [SSt.foot]; omega)⟩
            have Hr6 : Box (IsRef w6 ⟨rb, rg, m, tws, tq⟩) := ⟨Hr4.out.keeps k6 (by simp only [SSt.foot]; omega) (by simp only [SSt.foot]; omega)⟩
            have K6 : Box (Keeps (fun _ => False) w w6) := ⟨K4.out.trans' k6 (by intro i hi h; simp only [SSt.foot] at h; omega)⟩
            clear hs6 k6 Ht4 Hs4 Hr4 K4
            go_wp2_with fail
            have hct : w6.cell? ⟨rb, 1, none⟩ = some (.int .i64 tq) := by have := cell_of_heap Hr6.out.head 1; simpa using this
            have Hl' : Box ((tws).length = m) := Hl
            have hsz := fun n => size_is _ _ (Hs6.out.drewN n)
            simp only [Hl'.out] at hsz
            have HZ := Box.mk hsz
            clear hsz
            go_quiet ((first | (go_at_call 16; exact Calls.quiet_of_same (count_is _ ⟨tb, tg, tc, tws, tq⟩ (Hs6.out.drewN _))) | (go_at_call 21; exact Calls.quiet_of_same (HZ.out _))))
            go_wp2_with fail
            go_roundw
            case rel => exact ⟨k + 1, ⟨tb, tg, tc, tws, tq⟩, by omega, by go_num, rfl, Hl', ⟨Hs6.out.drewN _⟩, ⟨Hr6.out.drewN _⟩, by simp only; omega, by simp only; omega, by simp only; omega, by simp only; omega, by simp only; omega, by simp only; omega, ⟨K6.out.drewN _⟩⟩
            case measure => simp [intOf]; omega
          · have Hin := Box.mk hin
            clear hin
            go_wp2_with fail
            have hs3 := Hs.out.alloc (.cells #[.int .i64 kk, .int .i64 ii, .int .u64 vv] 45)
            have hr3 := Hr.out.alloc (.cells #[.int .i64 kk, .int .i64 ii, .int .u64 vv] 45)
            have hk3 := K.out.alloc (.cells #[.int .i64 kk, .int .i64 ii, .int .u64 vv] 45)
            refine (copy_is _ ⟨sb, sg, sc, ws, q0⟩ hs3).mono ?_
            rintro e w4 ⟨⟨tb, tg, tc, tws, tq⟩, rfl, ht4, hws, hq, k4, htb, htg⟩
            simp only at hws hq htb htg
            subst hws hq
            have hsz3 : wr.heap.size < (wr.alloc (.cells #[.int .i64 kk, .int .i64 ii, .int .u64 vv] 45)).heap.size := by simp
            have Ht4 := Box.mk ht4
            have Hs4 := Box.mk (hs3.keeps0 k4)
            have Hr4 := Box.mk (hr3.keeps0 k4)
            have K4 := Box.mk (hk3.trans k4)
            have htb' : wr.heap.size ≤ tb ∧ wr.heap.size ≤ tg := by omega
            obtain ⟨htb1, htg1⟩ := htb'
            have hws := K.out.size
            clear ht4 hs3 hr3 hk3 k4 htb htg hsz3
            go_wp2_with fail
            refine (set_no _ _ _ ⟨sb, sg, sc, tws, tq⟩ Hs4.out Hin.out).mono ?_
            rintro e w6 ⟨rfl, rfl⟩
            go_wp2_with fail
            have hct : w6.cell? ⟨rb, 1, none⟩ = some (.int .i64 tq) := by have := cell_of_heap Hr4.out.head 1; simpa using this
            have Hl' : Box ((tws).length = m) := Hl
            have hsz := fun n => size_is _ _ (Ht4.out.drewN n)
            simp only [Hl'.out] at hsz
            have HZ := Box.mk hsz
            clear hsz
            go_quiet ((first | (go_at_call 16; exact Calls.quiet_of_same (count_is _ ⟨tb, tg, tc, tws, tq⟩ (Ht4.out.drewN _))) | (go_at_call 21; exact Calls.quiet_of_same (HZ.out _))))
            go_wp2_with fail
            go_roundw
            case rel => exact ⟨k + 1, ⟨tb, tg, tc, tws, tq⟩, by omega, by go_num, rfl, Hl', ⟨Ht4.out.drewN _⟩, ⟨Hr4.out.drewN _⟩, by simp only; omega, by simp only; omega, by simp only; omega, by simp only; omega, by simp only; omega, by simp only; omega, ⟨K4.out.drewN _⟩⟩
            case measure => simp [intOf]; omega
    · go_wp2_with fail
      go_ret
      exact ⟨rfl, K.out.below (Nat.le_refl _) (fun _ h => h.elim)⟩

end Go.Proofs.Ytlbmknnpglandaa
