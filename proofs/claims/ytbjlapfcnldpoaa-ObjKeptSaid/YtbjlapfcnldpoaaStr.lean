/- Str by its contract. -/
import Derived.Test.YtbjlapfcnldpoaaMake
import Derived.Lib.ConvBytes
import Derived.Laws.Bits64b
namespace Go.Proofs.Ytbjlapfcnldpoaa
set_option linter.unusedVariables false
set_option linter.unusedSimpArgs false
open Go.RowKit

theorem keeps_bytes (w : World) (e : TypeId) (s : ByteArray) : Keeps (fun _ => False) w (Lib.bytesWorld w e s) :=
  ⟨rfl, rfl, rfl, by rw [Lib.bytesWorld_size]; omega, fun k hk _ => Lib.bytesWorld_at_old w e s k hk⟩

/-- The byte at j. -/
def sby (s : ByteArray) (j : Nat) : Nat := (s.data.toList.getD j 0).toNat
theorem sby_lt (s : ByteArray) (j : Nat) : sby s j < 256 := (s.data.toList.getD j 0).toNat_lt
/-- The first m bytes of the eight from 8 q on, as one word. -/
def pkw (s : ByteArray) (q : Nat) : Nat → Nat
  | 0 => 0
  | m + 1 => pkw s q m + sby s (8 * q + m) * 256 ^ m
theorem pkw_lt (s : ByteArray) (q : Nat) : ∀ m, pkw s q m < 256 ^ m
  | 0 => by simp [pkw]
  | m + 1 => by
    have h := pkw_lt s q m
    have h2 := sby_lt s (8 * q + m)
    have h3 : sby s (8 * q + m) * 256 ^ m ≤ 255 * 256 ^ m := Nat.mul_le_mul_right _ (by omega)
    rw [pkw, Nat.pow_succ]; omega
/-- A string's fields. -/
def strW (s : ByteArray) (i : Nat) : Nat := if i = 0 then s.size else pkw s (i - 1) (min 8 (s.size - 8 * (i - 1)))
theorem strW_lt (s : ByteArray) (i : Nat) (h : s.size ≤ 500) : strW s i < 18446744073709551616 := by
  unfold strW; split
  · omega
  · have h1 := pkw_lt s (i - 1) (min 8 (s.size - 8 * (i - 1)))
    have h2 : 256 ^ (min 8 (s.size - 8 * (i - 1))) ≤ 256 ^ 8 := Nat.pow_le_pow_right (by decide) (by omega)
    omega
theorem pkw_or (a c m : Nat) (ha : a < 256 ^ m) (hc : c < 256) (hm : m < 8) :
    bits .or .u64 (a : Int) (IntKind.u64.wrap (IntKind.u64.wrap (c : Int) * 2 ^ (8 * m))) = ((a + c * 256 ^ m : Nat) : Int) := by
  have hw : ∀ z : Nat, z < 18446744073709551616 → IntKind.u64.wrap (z : Int) = z := fun z hz => by simp only [IntKind.wrap]; simp [IntKind.bits, IntKind.signed]; omega
  have e1 : IntKind.u64.wrap (c : Int) = c := hw c (by omega)
  have hp : (256 : Nat) ^ m = 2 ^ (8 * m) := by rw [show (256 : Nat) = 2 ^ 8 from rfl, ← Nat.pow_mul]
  have hle : c * 256 ^ m ≤ 255 * 256 ^ m := Nat.mul_le_mul_right _ (by omega)
  have h7 : 256 ^ m ≤ 256 ^ 7 := Nat.pow_le_pow_right (by decide) (by omega)
  have e2 : ((c : Int) * 2 ^ (8 * m)) = ((c * 256 ^ m : Nat) : Int) := by rw [hp]; push_cast; rfl
  rw [e1, e2, hw _ (by omega)]
  have hb : bits .or .u64 (a : Int) ((c * 256 ^ m : Nat) : Int) = ((a ||| (c * 256 ^ m) : Nat) : Int) := bits_or_u64_nat _ _ (by omega) (by omega)
  rw [hb]
  congr 1
  rw [Nat.or_comm, hp, Nat.mul_comm, ← Nat.two_pow_add_eq_or_of_lt (by rw [← hp]; exact ha), Nat.add_comm]

theorem str_step {s : TH} {L : Nat → Nat → List Nat} {u n q x : Nat} {str : ByteArray} {fs : Nat → Nat} (hst : St s L) (ho : IsObj s L u 2 2 n fs) (hfs : ∀ i, i < 1 + q → i < n → fs i = strW str i) (hq : 1 + q < n) (hx : x = strW str (1 + q)) (hxl : x < 18446744073709551616) :
    ∃ s' L', tset s u (1 + q) x = some s' ∧ SetTo s s' L L' u (1 + q) x ∧ ∃ fs', IsObj s' L' u 2 2 n fs' ∧ ∀ i, i < 2 + q → i < n → fs' i = strW str i := by
  obtain ⟨s', L', h1, h2⟩ := set_ok hst (i := 1 + q) (x := x) ho.isC ho.alive (by rw [ho.num]; exact hq) hxl (fun h => by rw [ho.f] at h; cases h)
  refine ⟨s', L', h1, h2, _, h2.obj ho, fun i hi hi2 => ?_⟩
  by_cases e : i = 1 + q
  · show (if i = 1 + q then x else fs i) = _
    rw [if_pos e, hx, e]
  · show (if i = 1 + q then x else fs i) = _
    rw [if_neg e]; exact hfs i (by omega) hi2
theorem strW_full (str : ByteArray) (j m : Nat) (hj : j < str.size) (hm : m = j % 8) (h : m = 7 ∨ j + 1 = str.size) : pkw str (j / 8) (m + 1) = strW str (1 + j / 8) := by
  unfold strW
  rw [if_neg (by omega), show 1 + j / 8 - 1 = j / 8 from by omega, show min 8 (str.size - 8 * (j / 8)) = m + 1 from by omega]

set_option maxRecDepth 100000 in
set_option maxHeartbeats 4000000 in
theorem str_ok {hb b g : Nat} {s : TH} {L : Nat → Nat → List Nat} {w : World} {str : ByteArray} {n : Nat} (hI : IsTH w hb b g s) (hs : St s L) (hk : s.k ≤ 64) (hcy : s.cycles + s.k ≤ 1000000) (hn : str.size ≤ 500) (hnn : 1 + (str.size + 7) / 8 = n) (hf : 0 < lget s (tcls n) 0) :
    Calls Try.prog 49 #[.pointer (some ⟨hb, 0, none⟩), .string str] w fun e w' => MadeSaid hb b g s L 2 2 n (strW str) w e w' := by
  have hconv := fun (w : World) => Lib.run_convert_string_bytes (P := Try.prog) w 9 125 5 str Try.underlying9 Try.underlying125 Try.underlying5
  have hnb : n ≤ 64 := by omega
  obtain ⟨s1, L1, e1, st1, k1⟩ := incr_ok s.k hs hcy
  obtain ⟨s2, L2, u, e2, tk⟩ := take_ok st1 (form := 2) (tag := 2) (n := n) (Or.inr rfl) (by omega) (by omega) (by have := k1.free (tcls n) (tcls_lt n); omega)
  have tal := talloc_of e1 e2
  rw [if_pos rfl] at tk
  have ho2 : IsObj s2 L2 u 2 2 n (fun _ => 0) := tk.obj (Or.inr rfl) (by omega) (by omega) st1.rep.now
  obtain ⟨s3, L3, e3, k3⟩ := set_ok tk.st (i := 0) (x := str.size) ho2.isC ho2.alive (by rw [ho2.num]; omega) (by omega) (fun h => by rw [ho2.f] at h; cases h)
  have HI := Box.mk hI
  have HS := Box.mk hs
  have Tal := Box.mk tal
  have St1 := Box.mk (And.intro st1 k1)
  have Tk := Box.mk tk
  have Ho2 := Box.mk ho2
  have E3 := Box.mk e3
  have K3 := Box.mk k3
  have Hb := Box.mk (And.intro hk hcy)
  obtain ⟨len, hlen⟩ : ∃ len : Nat, str.size = len := ⟨_, rfl⟩
  have Hlen := Box.mk hlen
  rw [hlen] at hn hnn E3 K3
  have hni : 1 + ((len : Int) + 7) / 8 = (n : Int) := by omega
  have Hnn := Box.mk hnn
  clear hnn hI hs tal st1 k1 tk ho2 e1 e2 hf hk hcy e3 k3
  go_enter Try.func49, Try.ntmps49
  go_wp2_with fail
  refine (alloc_f (form := 2) (tag := 2) (n := n) HI.out Tal.out HS.out.rep.now Hb.out.1 (by decide) (by decide) (by omega) (by omega)).mono ?_
  rintro e w2 ⟨rfl, hI2, k2⟩
  have H2 := Box.mk hI2
  have KK2 := Box.mk k2
  clear hI2 k2 HI
  go_wp2_with fail
  refine (set_is (x := len) H2.out (Ho2.out.small Tk.out.st).2.1 (Ho2.out.place Tk.out.st) (Ho2.out.rdh Tk.out.st) (i := 0) (by rw [Ho2.out.num]; omega) (by have := (Ho2.out.small Tk.out.st).1; omega) Tk.out.st.rep.now (by omega) E3.out (Or.inr Ho2.out.f)).mono ?_
  rintro e w3 ⟨rfl, hI3, kk3⟩
  have H3 := Box.mk hI3
  have KK3 := Box.mk (KK2.out.trans kk3)
  clear hI3 kk3 H2 KK2
  go_wp2_with fail
  have Hst : Box (St s3 L3) := ⟨K3.out.st⟩
  have Ho3 : Box (∃ fs, IsObj s3 L3 u 2 2 n fs ∧ ∀ i, i < 1 + (if 0 = len then n else 0 / 8) → i < n → fs i = strW str i) := ⟨_, K3.out.obj Ho2.out, fun i hi hi2 => by
    have hz : i = 0 ∨ 0 = len := by
      by_cases e : 0 = len
      · exact Or.inr e
      · rw [if_neg e] at hi; exact Or.inl (by omega)
    have : i = 0 := by
      rcases hz with h | h
      · exact h
      · have := Hnn.out; omega
    rw [if_pos this, strW, if_pos this, Hlen.out]⟩
  have Hok : Box (IsOK s3 L3 u) := ⟨K3.out.oks u Tk.out.ok⟩
  have Hot : Box (Oth s1 s3 u) := ⟨Tk.out.oth.trans K3.out.oth⟩
  have Hfr : Box (∀ c, c < 4 → lget s1 c 0 ≤ lget s3 c 0 + (if c = tcls n then 1 else 0)) := ⟨fun c hc => by have := Tk.out.free c hc; have := K3.out.free c hc; omega⟩
  have Hlt := Box.mk H3.out.lt
  have H4 := Box.mk (H3.out.keeps0 (keeps_bytes w3 5 str))
  have K4 := Box.mk (KK3.out.trans ((keeps_bytes w3 5 str).mono (S' := foot3 hb b g) (fun _ _ h => h.elim)))
  have Hce : Box (∀ j, j < len → (Lib.bytesWorld w3 5 str).cell? ⟨w3.heap.size, j, none⟩ = some (.int .u8 (sby str j : Nat))) := ⟨fun j hj => Lib.bytesWorld_cell w3 5 str j (by rw [Hlen.out]; exact hj)⟩
  go_loopw [8, 42] (fun v i wr => ∃ (j a : Nat) (sj : TH) (Lj : Nat → Nat → List Nat), j ≤ len ∧ i = .int .i64 j ∧ v = .int .u64 a ∧ Box (j < len → a = pkw str (j / 8) (j % 8)) ∧ Box (St sj Lj) ∧ Box (∃ fs, IsObj sj Lj u 2 2 n fs ∧ ∀ i, i < 1 + (if j = len then n else j / 8) → i < n → fs i = strW str i) ∧ Box (IsOK sj Lj u) ∧ Box (Oth s1 sj u) ∧ Box (∀ c, c < 4 → lget s1 c 0 ≤ lget sj c 0 + (if c = tcls n then 1 else 0)) ∧ Box (IsTH wr hb b g sj) ∧ Box (∀ j, j < len → wr.cell? ⟨w3.heap.size, j, none⟩ = some (.int .u8 (sby str j : Nat))) ∧ Box (Keeps (foot3 hb b g) w wr)) (fun _ i _ => len - (intOf i).toNat)
  case atStart => exact ⟨0, 0, s3, L3, Nat.zero_le _, rfl, rfl, ⟨fun _ => rfl⟩, Hst, Ho3, Hok, Hot, Hfr, H4, Hce, K4⟩
  case round =>
    clear Hst Ho3 Hok Hot Hfr H4 Hce K4 H3 KK3
    obtain ⟨j, a, sj, Lj, hj, rfl, rfl, Ha, Hst, Ho, Hok, Hot, Hfr, HI, HW, K⟩ := hrel
    by_cases hjn : j < len
    · have hcell := HW.out j hjn
      have hj0 : (0 : Int) ≤ (j : Int) := by omega
      obtain ⟨c, hc⟩ : ∃ c, sby str j = c := ⟨_, rfl⟩
      rw [hc] at hcell
      have hc2 : c < 256 := by rw [← hc]; exact sby_lt _ _
      have hmj : j % 8 < 8 := Nat.mod_lt _ (by decide)
      have hpa : a = pkw str (j / 8) (j % 8) := Ha.out hjn
      have halt : a < 256 ^ (j % 8) := by rw [hpa]; exact pkw_lt _ _ _
      have hor := pkw_or a c (j % 8) halt hc2 hmj
      obtain ⟨a', ha'⟩ : ∃ a', a + c * 256 ^ (j % 8) = a' := ⟨_, rfl⟩
      rw [ha'] at hor
      have hpk : a' = pkw str (j / 8) (j % 8 + 1) := by
        rw [← ha', hpa, pkw, ← hc, show 8 * (j / 8) + j % 8 = j from by omega]
      have hlt' : a' < 18446744073709551616 := by
        have h1 := pkw_lt str (j / 8) (j % 8 + 1)
        have h2 : 256 ^ (j % 8 + 1) ≤ 256 ^ 8 := Nat.pow_le_pow_right (by decide) (by omega)
        rw [hpk]; omega
      have Hpk := Box.mk (And.intro hpk hlt')
      clear ha' hpk halt hpa hc hc2 hlt'
      by_cases h7 : j % 8 = 7
      · have hb7 : ((j : Int) % 8 == 7) = true := by rw [beq_iff_eq]; omega
        have H7 := Box.mk h7
        clear h7
        obtain ⟨fs, hof, hfs⟩ := Ho.out
        rw [if_neg (by omega)] at hfs
        have hqn : 1 + j / 8 < n := by have := Hnn.out; omega
        obtain ⟨s5, L5, es5, k5, fs5, ho5, hfs5⟩ := str_step Hst.out hof hfs hqn (Hpk.out.1.trans (strW_full str j _ (by rw [Hlen.out]; exact hjn) rfl (by first | exact Or.inl H7.out | (right; rw [Hlen.out]; exact Hl.out)))) Hpk.out.2
        have HT := Box.mk (set_is HI.out (hof.small Hst.out).2.1 (hof.place Hst.out) (hof.rdh Hst.out) (by rw [hof.num]; exact hqn) (by have := (hof.small Hst.out).1; omega) Hst.out.rep.now Hpk.out.2 es5 (Or.inr hof.f))
        rw [show ((1 + j / 8 : Nat) : Int) = 1 + (j : Int) / 8 from by omega] at HT
        have Ho5 : Box (∃ fs, IsObj s5 L5 u 2 2 n fs ∧ ∀ i, i < 1 + (if j + 1 = len then n else (j + 1) / 8) → i < n → fs i = strW str i) := ⟨fs5, ho5, fun i hi hi2 => hfs5 i (by
          have := Hnn.out
          have h7 : j % 8 = 7 ∨ j + 1 = len := by first | exact Or.inl H7.out | exact Or.inr Hl.out
          split at hi <;> omega) hi2⟩
        have Hst5 := Box.mk k5.st
        have Hok5 : Box (IsOK s5 L5 u) := ⟨k5.oks u Hok.out⟩
        have Hot5 := Box.mk (Hot.out.trans k5.oth)
        have Hfr5 : Box (∀ c, c < 4 → lget s1 c 0 ≤ lget s5 c 0 + (if c = tcls n then 1 else 0)) := ⟨fun c hc => by have := Hfr.out c hc; have := k5.free c hc; omega⟩
        have Ha5 : Box (j + 1 < len → 0 = pkw str ((j + 1) / 8) ((j + 1) % 8)) := ⟨fun h => by
          first | (have h7 := H7.out; rw [show (j + 1) % 8 = 0 from by omega]; rfl) | (have := Hl.out; omega)⟩
        clear k5 es5 hof hfs ho5 hfs5 hqn
        go_wp2_with fail
        refine HT.out.mono ?_
        rintro e w5 ⟨rfl, hI5, kk5⟩
        have H5 := Box.mk hI5
        have HW5 : Box (∀ j, j < len → w5.cell? ⟨w3.heap.size, j, none⟩ = some (.int .u8 (sby str j : Nat))) := ⟨fun j hj => kk5.cell (HW.out j hj) (by have := Hlt.out; unfold foot3; simp only; omega)⟩
        have K5 := Box.mk (K.out.trans kk5)
        clear hI5 kk5 HI HW K HT hcell Hst Ho Hok Hot Hfr
        go_wp2_with fail
        go_roundw
        case rel => exact ⟨j + 1, 0, s5, L5, by omega, by go_num, rfl, Ha5, Hst5, Ho5, Hok5, Hot5, Hfr5, H5, HW5, K5⟩
        case measure => simp [intOf]; omega
      · have hb7 : ((j : Int) % 8 == 7) = false := by rw [beq_eq_false_iff_ne]; omega
        have H7 := Box.mk h7
        clear h7
        by_cases hl : j + 1 = len
        · have hbl : ((j : Int) == (len : Int) - 1) = true := by rw [beq_iff_eq]; omega
          have Hl := Box.mk hl
          clear hl
          obtain ⟨fs, hof, hfs⟩ := Ho.out
          rw [if_neg (by omega)] at hfs
          have hqn : 1 + j / 8 < n := by have := Hnn.out; omega
          obtain ⟨s5, L5, es5, k5, fs5, ho5, hfs5⟩ := str_step Hst.out hof hfs hqn (Hpk.out.1.trans (strW_full str j _ (by rw [Hlen.out]; exact hjn) rfl (by first | exact Or.inl H7.out | (right; rw [Hlen.out]; exact Hl.out)))) Hpk.out.2
          have HT := Box.mk (set_is HI.out (hof.small Hst.out).2.1 (hof.place Hst.out) (hof.rdh Hst.out) (by rw [hof.num]; exact hqn) (by have := (hof.small Hst.out).1; omega) Hst.out.rep.now Hpk.out.2 es5 (Or.inr hof.f))
          rw [show ((1 + j / 8 : Nat) : Int) = 1 + (j : Int) / 8 from by omega] at HT
          have Ho5 : Box (∃ fs, IsObj s5 L5 u 2 2 n fs ∧ ∀ i, i < 1 + (if j + 1 = len then n else (j + 1) / 8) → i < n → fs i = strW str i) := ⟨fs5, ho5, fun i hi hi2 => hfs5 i (by
            have := Hnn.out
            have h7 : j % 8 = 7 ∨ j + 1 = len := by first | exact Or.inl H7.out | exact Or.inr Hl.out
            split at hi <;> omega) hi2⟩
          have Hst5 := Box.mk k5.st
          have Hok5 : Box (IsOK s5 L5 u) := ⟨k5.oks u Hok.out⟩
          have Hot5 := Box.mk (Hot.out.trans k5.oth)
          have Hfr5 : Box (∀ c, c < 4 → lget s1 c 0 ≤ lget s5 c 0 + (if c = tcls n then 1 else 0)) := ⟨fun c hc => by have := Hfr.out c hc; have := k5.free c hc; omega⟩
          have Ha5 : Box (j + 1 < len → 0 = pkw str ((j + 1) / 8) ((j + 1) % 8)) := ⟨fun h => by
            first | (have h7 := H7.out; rw [show (j + 1) % 8 = 0 from by omega]; rfl) | (have := Hl.out; omega)⟩
          clear k5 es5 hof hfs ho5 hfs5 hqn
          go_wp2_with fail
          refine HT.out.mono ?_
          rintro e w5 ⟨rfl, hI5, kk5⟩
          have H5 := Box.mk hI5
          have HW5 : Box (∀ j, j < len → w5.cell? ⟨w3.heap.size, j, none⟩ = some (.int .u8 (sby str j : Nat))) := ⟨fun j hj => kk5.cell (HW.out j hj) (by have := Hlt.out; unfold foot3; simp only; omega)⟩
          have K5 := Box.mk (K.out.trans kk5)
          clear hI5 kk5 HI HW K HT hcell Hst Ho Hok Hot Hfr
          go_wp2_with fail
          go_roundw
          case rel => exact ⟨j + 1, 0, s5, L5, by omega, by go_num, rfl, Ha5, Hst5, Ho5, Hok5, Hot5, Hfr5, H5, HW5, K5⟩
          case measure => simp [intOf]; omega
        · have hbl : ((j : Int) == (len : Int) - 1) = false := by rw [beq_eq_false_iff_ne]; omega
          have Hl := Box.mk hl
          clear hl
          have Ha5 : Box (j + 1 < len → a' = pkw str ((j + 1) / 8) ((j + 1) % 8)) := ⟨fun h => by
            have h7 := H7.out
            rw [Hpk.out.1, show (j + 1) % 8 = j % 8 + 1 from by omega, show (j + 1) / 8 = j / 8 from by omega]⟩
          have Ho5 : Box (∃ fs, IsObj sj Lj u 2 2 n fs ∧ ∀ i, i < 1 + (if j + 1 = len then n else (j + 1) / 8) → i < n → fs i = strW str i) := by
            obtain ⟨fs, hof, hfs⟩ := Ho.out
            refine ⟨fs, hof, fun i hi hi2 => hfs i ?_ hi2⟩
            have h7 := H7.out
            have h8 := Hl.out
            rw [if_neg (by omega)] at hi ⊢
            omega
          go_wp2_with fail
          go_roundw
          case rel => exact ⟨j + 1, a', sj, Lj, by omega, by go_num, rfl, Ha5, Hst, Ho5, Hok, Hot, Hfr, HI, HW, K⟩
          case measure => simp [intOf]; omega
    · have hje : ¬ ((j : Int) < (len : Int)) := by omega
      have HJ : Box (j = len) := ⟨by omega⟩
      go_wp2_with fail
      go_ret2
      obtain ⟨fs, hof, hfs⟩ := Ho.out
      refine ⟨⟨sj, Lj, u, rfl, HI.out, ⟨Hst.out, hof.congr (fun i hi => hfs i (by rw [if_pos HJ.out]; omega) hi), Hok.out, ?_, Hot.out.roots.trans St1.out.2.roots, by rw [Hot.out.cyc]; exact St1.out.2.cyc, fun c hc => ?_⟩⟩, K.out⟩
      · exact St1.out.2.evo.trans (fun v hv => rootP_of St1.out.2.count St1.out.2.roots hv) (Hot.out.evo St1.out.1 Tk.out.was)
      · have h1 := Hfr.out c hc
        have h2 := St1.out.2.free c hc
        omega

end Go.Proofs.Ytbjlapfcnldpoaa
