/- fix.Parse (whether it is a number's digits), lex.digits by their contracts. -/
import Derived.Test.YtiimojpaeccajaaGreatDoorDt
import Derived.Test.YtiimojpaeccajaaGreatDoorErr
import Derived.Test.YtiimojpaeccajaaGreatDoorPCodeSafex1
import Derived.Lib.ConvBytes
namespace Go.Proofs.YtiimojpaeccajaaGreatDoor
set_option linter.unusedVariables false
set_option linter.unusedSimpArgs false
open Go.RowKit

/-- The byte at j. -/
def byL (l : List UInt8) (j : Nat) : Nat := (l.getD j 0).toNat
theorem byL_lt (l : List UInt8) (j : Nat) : byL l j < 256 := (l.getD j 0).toNat_lt
def dgN (c : Nat) : Bool := decide (48 ≤ c) && decide (c ≤ 57)
/-- 1 to 30 digits. -/
def digsL (l : List UInt8) : Bool := decide (1 ≤ l.length) && decide (l.length ≤ 30) && l.all fun c => dgN c.toNat
/-- A sign, or none, and 1 to 30 digits. -/
def digsS : List UInt8 → Bool
  | [] => false
  | c :: l => if c = 45 ∨ c = 43 then digsL l else digsL (c :: l)
theorem all_byL (l : List UInt8) (p : UInt8 → Bool) (q : Nat → Bool) (hpq : ∀ c : UInt8, p c = q c.toNat) : l.all p = true ↔ ∀ k, k < l.length → q (byL l k) = true := by
  rw [List.all_eq_true]
  constructor
  · intro h k hk
    have := h l[k] (List.getElem_mem hk)
    rw [hpq] at this
    simpa [byL, List.getD, List.getElem?_eq_getElem hk] using this
  · intro h x hx
    obtain ⟨k, hk, rfl⟩ := List.mem_iff_getElem.1 hx
    have := h k hk
    rw [hpq]
    simpa [byL, List.getD, List.getElem?_eq_getElem hk] using this
theorem ext1 {s : ByteArray} {c : UInt8} {l : List UInt8} (h : s.data.toList = c :: l) : (s.extract 1 s.size).data.toList = l := by
  have hsz : s.size = l.length + 1 := by have := congrArg List.length h; simpa using this
  simp [h, hsz]
structure ParseSaid (s : ByteArray) (w : World) (e : Ending) (w' : World) : Prop where
  yes : digsS s.data.toList = true → ∃ n : Int, e = .returned (.tuple #[.int .i64 n, errV 0]) ∨ e = .returned (.tuple #[.int .i64 n, errV 11])
  no : digsS s.data.toList = false → ∃ n : Int, e = .returned (.tuple #[.int .i64 n, errV 6])
  keeps : Below w.heap.size w w'
theorem below_bytes (w : World) (e : TypeId) (s : ByteArray) : Below w.heap.size w (Lib.bytesWorld w e s) := ⟨rfl, rfl, rfl, by rw [Lib.bytesWorld_size]; omega, fun k hk => Lib.bytesWorld_at_old w e s k hk⟩
theorem fit_total (a : Int) : ∃ n : Int, PCodeSafe.fix_fit.f a = some (n, none) ∨ PCodeSafe.fix_fit.f a = some (n, some 11) := by
  unfold PCodeSafe.fix_fit.f PCodeSafe.fix_whole.f
  split
  · simp only [Option.bind_some]
    split
    · exact ⟨a, .inl rfl⟩
    · exact ⟨0, .inr rfl⟩
  · exact ⟨0, .inr rfl⟩
theorem all_byL_len (l : List UInt8) (n : Nat) (h : l.length = n) : (l.all fun c => dgN c.toNat) = true ↔ ∀ k, k < n → dgN (byL l k) = true := by
  subst h; exact all_byL l _ _ (fun _ => rfl)
theorem below_drawn0 {w w' : World} (h : Go.Proofs.YtiimojpaeccajaaGreatDoorW.PrintWords.Drawn0 w w') : Below w.heap.size w w' := h.below
theorem errW_none' : PCodeSafe.errW none = errV 0 := rfl
theorem errW_11 : PCodeSafe.errW (some 11) = errV 11 := rfl

set_option maxRecDepth 100000 in
theorem parse_empty (s : ByteArray) (w : World) (h : s.size = 0) : Calls Tryz.prog 134 #[.string s] w fun e w' => ParseSaid s w e w' := by
  have hs : s.toList = [] := by rw [ByteArray.toList_eq]; exact List.eq_nil_of_length_eq_zero (by simpa using h)
  have HR : Box (∀ e : Ending, (∃ n : Int, e = .returned (.tuple #[.int .i64 n, .iface 34 (.int .i64 6)])) → ParseSaid s w e w) := ⟨fun e he => ⟨fun h2 => by
    have : s.data.toList = [] := List.eq_nil_of_length_eq_zero (by simpa using h)
    rw [this] at h2; exact absurd h2 (by decide), fun _ => he, Below.refl _ _⟩⟩
  go_enter Tryz.func134, Tryz.ntmps134
  go_wp2_with fail
  go_ret2
  exact HR.out _ ⟨_, rfl⟩

set_option maxRecDepth 100000 in
theorem parse_minus (s : ByteArray) (w : World) (c : UInt8) (dl0 : List UInt8) (hs : s.data.toList = c :: dl0) (hc : c = 45) (hm : s.size ≤ 140737488351232) : Calls Tryz.prog 134 #[.string s] w fun e w' => ParseSaid s w e w' := by
  have hconv := fun (w : World) (z : ByteArray) => Lib.run_convert_string_bytes (P := Tryz.prog) w 9 68 5 z Tryz.underlying9 Tryz.underlying68 Tryz.underlying5
  have hsz : s.size = dl0.length + 1 := by have := congrArg List.length hs; simpa using this
  have hne : ¬ s.toList = [] := by rw [ByteArray.toList_eq, hs]; simp
  have hne2 : s.toList.isEmpty = false := by rw [ByteArray.toList_eq, hs]; rfl
  have h1s : 1 ≤ s.size := by omega
  have hix : ∀ W : World, (Instr.index 9 (.string s) (.int .i64 0)).run Tryz.prog W = .ok (.int .u8 (c.toNat : Int)) W := fun W => by
    rw [run_index_string W 9 s .i64 0 Tryz.underlying9, dif_pos ⟨by omega, by omega⟩]
    have h0 : (s[(0 : Int).toNat]'(by show 0 < s.size; omega)) = c := by
      show s.data[0]'_ = c
      have h1 : s.data.toList[0]? = some c := by rw [hs]; rfl
      rw [Array.getElem?_toList] at h1
      exact (Array.getElem?_eq_some_iff.1 h1).2
    rw [h0]
  obtain ⟨len, dl, hlen, hd, hdg⟩ : ∃ (len : Nat) (dl : List UInt8), (s.extract 1 s.size).size = len ∧ (s.extract 1 s.size).data.toList = dl ∧ digsS s.data.toList = digsL dl := ⟨_, _, rfl, rfl, by rw [hs, digsS, if_pos (by first | exact .inl hc | exact .inr hc)]; congr 1; exact (ext1 hs).symm⟩
  have hdlen : dl.length = len := by rw [← hd, ← hlen]; simp
  have Hd := Box.mk hd
  have Hlen := Box.mk hlen
  have hx1 : len ≤ 140737488351232 := by
    have : (s.extract 1 s.size).size ≤ s.size := (by simp)
    omega
  by_cases hb : 1 ≤ len ∧ len ≤ 30
  · have Hdg : Box (digsS s.data.toList = true ↔ ∀ k, k < len → dgN (byL dl k) = true) := ⟨by
      rw [hdg, digsL, ← all_byL_len dl len hdlen]
      simp [hdlen, hb.1, hb.2]⟩
    obtain ⟨hb1, hb2⟩ := hb
    have hq : (c.toNat : Int) = 45 := by rw [hc]; rfl
    rw [hq] at hix
    clear hdg hd hs hc hdlen hq
    have hext : s.size - 1 = len := by rw [← hlen]; simp
    clear hlen hsz
    go_enter Tryz.func134, Tryz.ntmps134
    have Hce : Box (∀ j, j < len → (Lib.bytesWorld w 5 (s.extract 1 s.size)).cell? ⟨w.heap.size, j, none⟩ = some (.int .u8 (byL dl j : Nat))) := ⟨fun j hj => by
      rw [Lib.bytesWorld_cell w 5 (s.extract 1 s.size) j (by rw [Hlen.out]; exact hj), Hd.out]; rfl⟩
    have HK := Box.mk (below_bytes w 5 (s.extract 1 s.size))
    go_wp2_with fail
    go_loopw [36, 6, 5] (fun i n f wr => ∃ (j : Nat) (z : Int), j ≤ len ∧ i = .int .i64 j ∧ n = .int .i64 z ∧ 0 ≤ z ∧ z ≤ 3000000000000000000 ∧ Box (∃ b, f = .bool b) ∧ Box (∀ k, k < j → dgN (byL dl k) = true) ∧ Box (∀ j, j < len → wr.cell? ⟨w.heap.size, j, none⟩ = some (.int .u8 (byL dl j : Nat))) ∧ Box (Below w.heap.size w wr)) (fun i _ _ _ => len - (intOf i).toNat)
    case atStart => exact ⟨0, 0, Nat.zero_le _, rfl, rfl, by decide, by decide, ⟨_, rfl⟩, ⟨fun k hk => absurd hk (Nat.not_lt_zero _)⟩, Hce, HK⟩
    case round =>
      clear Hce HK
      obtain ⟨j, z, hj, rfl, rfl, hz0, hz1, Hf, Hp, Hc, K⟩ := hrel
      obtain ⟨b, rfl⟩ := Hf.out
      by_cases hjl : j < len
      · have hcell := Hc.out j hjl
        have hj0 : (0 : Int) ≤ (j : Int) := by omega
        have hlt := byL_lt dl j
        obtain ⟨c, hc⟩ : ∃ c, byL dl j = c := ⟨_, rfl⟩
        rw [hc] at hcell hlt
        have Hcc := Box.mk hc
        clear hc
        by_cases hd : 48 ≤ c ∧ c ≤ 57
        · obtain ⟨hd1, hd2⟩ := hd
          have hp2 : Box (∀ k, k < j + 1 → dgN (byL dl k) = true) := ⟨fun k hk => by
            by_cases e : k = j
            · rw [e, Hcc.out]; simp [dgN, hd1, hd2]
            · exact Hp.out k (by omega)⟩
          have hw : IntKind.u8.wrap ((c : Int) - 48) = (c : Int) - 48 := by simp only [IntKind.wrap]; simp [IntKind.bits, IntKind.signed]; omega
          have hi1 : ¬ (c : Int) < 48 := by omega
          have hi2 : ¬ (c : Int) > 57 := by omega
          cases b
          · by_cases hz : z > 288230376151711743
            · go_wp2_with fail
              go_roundw
              case rel => exact ⟨j + 1, z, by omega, by go_num, rfl, hz0, hz1, ⟨_, rfl⟩, hp2, Hc, K⟩
              case measure => simp [intOf]; omega
            · go_wp2_with fail
              go_roundw
              case rel => exact ⟨j + 1, 10 * z + ((c : Int) - 48), by omega, by go_num, by go_num, by omega, by omega, ⟨_, rfl⟩, hp2, Hc, K⟩
              case measure => simp [intOf]; omega
          · go_wp2_with fail
            go_roundw
            case rel => exact ⟨j + 1, z, by omega, by go_num, rfl, hz0, hz1, ⟨_, rfl⟩, hp2, Hc, K⟩
            case measure => simp [intOf]; omega
        · have HR : Box (∀ e : Ending, (∃ n : Int, e = .returned (.tuple #[.int .i64 n, .iface 34 (.int .i64 6)])) → ParseSaid s w e wr) := ⟨fun e he => ⟨fun h => by
            exfalso
            have h2 := (Hdg.out.1 h) j hjl
            rw [Hcc.out] at h2
            simp [dgN] at h2
            omega, fun _ => he, K.out⟩⟩
          have hd' : c < 48 ∨ 57 < c := by omega
          clear hd
          rcases hd' with h | h
          · have hi1 : (c : Int) < 48 := by omega
            go_wp2_with fail
            go_ret2
            exact HR.out _ ⟨_, rfl⟩
          · have hi1 : ¬ (c : Int) < 48 := by omega
            have hi2 : (c : Int) > 57 := by omega
            go_wp2_with fail
            go_ret2
            exact HR.out _ ⟨_, rfl⟩
      · have hjl2 : j = len := by omega
        have hdy : Box (digsS s.data.toList = true) := ⟨Hdg.out.2 (fun k hk => Hp.out k (by omega))⟩
        have HR : Box (∀ (e : Ending) (w' : World), Below wr.heap.size wr w' → (∃ n : Int, e = .returned (.tuple #[.int .i64 n, errV 0]) ∨ e = .returned (.tuple #[.int .i64 n, errV 11])) → ParseSaid s w e w') := ⟨fun e w' k he => ⟨fun _ => he, fun h => (by rw [hdy.out] at h; cases h), K.out.trans (k.mono K.out.size)⟩⟩
        cases b
        · obtain ⟨n, hn⟩ := fit_total (-z)
          obtain ⟨r, hr, hr2⟩ : ∃ r : Option Int, PCodeSafe.fix_fit.f (-z) = some (n, r) ∧ (r = none ∨ r = some 11) := by
            rcases hn with h | h
            · exact ⟨_, h, .inl rfl⟩
            · exact ⟨_, h, .inr rfl⟩
          clear hn
          have HF := Box.mk hr
          clear hr
          go_wp2_with fail
          refine (PCodeSafe.fix_fit.calls (-z) n r _ HF.out).mono ?_
          rintro e w2 ⟨rfl, k2⟩
          have K2 := Box.mk (below_drawn0 k2)
          clear k2
          go_wp2_with fail
          go_ret2
          refine HR.out _ _ K2.out ⟨n, ?_⟩
          rcases hr2 with rfl | rfl
          · exact .inl rfl
          · exact .inr rfl
        · go_wp2_with fail
          go_ret2
          exact HR.out _ _ (Below.refl _ _) ⟨_, .inr rfl⟩
  · have HR : Box (∀ e : Ending, (∃ n : Int, e = .returned (.tuple #[.int .i64 n, .iface 34 (.int .i64 6)])) → ParseSaid s w e w) := ⟨fun e he => ⟨fun h2 => by
      rw [hdg, digsL] at h2
      simp [hdlen] at h2
      omega, fun _ => he, Below.refl _ _⟩⟩
    have hq : (c.toNat : Int) = 45 := by rw [hc]; rfl
    rw [hq] at hix
    have hext : s.size - 1 = len := by rw [← hlen]; simp
    clear hdg hd hs hc hdlen hq hlen hsz
    go_enter Tryz.func134, Tryz.ntmps134
    go_wp2_with fail
    all_goals
      go_ret2
      exact HR.out _ ⟨_, rfl⟩

set_option maxRecDepth 100000 in
theorem parse_plus (s : ByteArray) (w : World) (c : UInt8) (dl0 : List UInt8) (hs : s.data.toList = c :: dl0) (hc : c = 43) (hm : s.size ≤ 140737488351232) : Calls Tryz.prog 134 #[.string s] w fun e w' => ParseSaid s w e w' := by
  have hconv := fun (w : World) (z : ByteArray) => Lib.run_convert_string_bytes (P := Tryz.prog) w 9 68 5 z Tryz.underlying9 Tryz.underlying68 Tryz.underlying5
  have hsz : s.size = dl0.length + 1 := by have := congrArg List.length hs; simpa using this
  have hne : ¬ s.toList = [] := by rw [ByteArray.toList_eq, hs]; simp
  have hne2 : s.toList.isEmpty = false := by rw [ByteArray.toList_eq, hs]; rfl
  have h1s : 1 ≤ s.size := by omega
  have hix : ∀ W : World, (Instr.index 9 (.string s) (.int .i64 0)).run Tryz.prog W = .ok (.int .u8 (c.toNat : Int)) W := fun W => by
    rw [run_index_string W 9 s .i64 0 Tryz.underlying9, dif_pos ⟨by omega, by omega⟩]
    have h0 : (s[(0 : Int).toNat]'(by show 0 < s.size; omega)) = c := by
      show s.data[0]'_ = c
      have h1 : s.data.toList[0]? = some c := by rw [hs]; rfl
      rw [Array.getElem?_toList] at h1
      exact (Array.getElem?_eq_some_iff.1 h1).2
    rw [h0]
  obtain ⟨len, dl, hlen, hd, hdg⟩ : ∃ (len : Nat) (dl : List UInt8), (s.extract 1 s.size).size = len ∧ (s.extract 1 s.size).data.toList = dl ∧ digsS s.data.toList = digsL dl := ⟨_, _, rfl, rfl, by rw [hs, digsS, if_pos (by first | exact .inl hc | exact .inr hc)]; congr 1; exact (ext1 hs).symm⟩
  have hdlen : dl.length = len := by rw [← hd, ← hlen]; simp
  have Hd := Box.mk hd
  have Hlen := Box.mk hlen
  have hx1 : len ≤ 140737488351232 := by
    have : (s.extract 1 s.size).size ≤ s.size := (by simp)
    omega
  by_cases hb : 1 ≤ len ∧ len ≤ 30
  · have Hdg : Box (digsS s.data.toList = true ↔ ∀ k, k < len → dgN (byL dl k) = true) := ⟨by
      rw [hdg, digsL, ← all_byL_len dl len hdlen]
      simp [hdlen, hb.1, hb.2]⟩
    obtain ⟨hb1, hb2⟩ := hb
    have hq : (c.toNat : Int) = 43 := by rw [hc]; rfl
    rw [hq] at hix
    clear hdg hd hs hc hdlen hq
    have hext : s.size - 1 = len := by rw [← hlen]; simp
    clear hlen hsz
    go_enter Tryz.func134, Tryz.ntmps134
    have Hce : Box (∀ j, j < len → (Lib.bytesWorld w 5 (s.extract 1 s.size)).cell? ⟨w.heap.size, j, none⟩ = some (.int .u8 (byL dl j : Nat))) := ⟨fun j hj => by
      rw [Lib.bytesWorld_cell w 5 (s.extract 1 s.size) j (by rw [Hlen.out]; exact hj), Hd.out]; rfl⟩
    have HK := Box.mk (below_bytes w 5 (s.extract 1 s.size))
    go_wp2_with fail
    go_loopw [36, 6, 5] (fun i n f wr => ∃ (j : Nat) (z : Int), j ≤ len ∧ i = .int .i64 j ∧ n = .int .i64 z ∧ 0 ≤ z ∧ z ≤ 3000000000000000000 ∧ Box (∃ b, f = .bool b) ∧ Box (∀ k, k < j → dgN (byL dl k) = true) ∧ Box (∀ j, j < len → wr.cell? ⟨w.heap.size, j, none⟩ = some (.int .u8 (byL dl j : Nat))) ∧ Box (Below w.heap.size w wr)) (fun i _ _ _ => len - (intOf i).toNat)
    case atStart => exact ⟨0, 0, Nat.zero_le _, rfl, rfl, by decide, by decide, ⟨_, rfl⟩, ⟨fun k hk => absurd hk (Nat.not_lt_zero _)⟩, Hce, HK⟩
    case round =>
      clear Hce HK
      obtain ⟨j, z, hj, rfl, rfl, hz0, hz1, Hf, Hp, Hc, K⟩ := hrel
      obtain ⟨b, rfl⟩ := Hf.out
      by_cases hjl : j < len
      · have hcell := Hc.out j hjl
        have hj0 : (0 : Int) ≤ (j : Int) := by omega
        have hlt := byL_lt dl j
        obtain ⟨c, hc⟩ : ∃ c, byL dl j = c := ⟨_, rfl⟩
        rw [hc] at hcell hlt
        have Hcc := Box.mk hc
        clear hc
        by_cases hd : 48 ≤ c ∧ c ≤ 57
        · obtain ⟨hd1, hd2⟩ := hd
          have hp2 : Box (∀ k, k < j + 1 → dgN (byL dl k) = true) := ⟨fun k hk => by
            by_cases e : k = j
            · rw [e, Hcc.out]; simp [dgN, hd1, hd2]
            · exact Hp.out k (by omega)⟩
          have hw : IntKind.u8.wrap ((c : Int) - 48) = (c : Int) - 48 := by simp only [IntKind.wrap]; simp [IntKind.bits, IntKind.signed]; omega
          have hi1 : ¬ (c : Int) < 48 := by omega
          have hi2 : ¬ (c : Int) > 57 := by omega
          cases b
          · by_cases hz : z > 288230376151711743
            · go_wp2_with fail
              go_roundw
              case rel => exact ⟨j + 1, z, by omega, by go_num, rfl, hz0, hz1, ⟨_, rfl⟩, hp2, Hc, K⟩
              case measure => simp [intOf]; omega
            · go_wp2_with fail
              go_roundw
              case rel => exact ⟨j + 1, 10 * z + ((c : Int) - 48), by omega, by go_num, by go_num, by omega, by omega, ⟨_, rfl⟩, hp2, Hc, K⟩
              case measure => simp [intOf]; omega
          · go_wp2_with fail
            go_roundw
            case rel => exact ⟨j + 1, z, by omega, by go_num, rfl, hz0, hz1, ⟨_, rfl⟩, hp2, Hc, K⟩
            case measure => simp [intOf]; omega
        · have HR : Box (∀ e : Ending, (∃ n : Int, e = .returned (.tuple #[.int .i64 n, .iface 34 (.int .i64 6)])) → ParseSaid s w e wr) := ⟨fun e he => ⟨fun h => by
            exfalso
            have h2 := (Hdg.out.1 h) j hjl
            rw [Hcc.out] at h2
            simp [dgN] at h2
            omega, fun _ => he, K.out⟩⟩
          have hd' : c < 48 ∨ 57 < c := by omega
          clear hd
          rcases hd' with h | h
          · have hi1 : (c : Int) < 48 := by omega
            go_wp2_with fail
            go_ret2
            exact HR.out _ ⟨_, rfl⟩
          · have hi1 : ¬ (c : Int) < 48 := by omega
            have hi2 : (c : Int) > 57 := by omega
            go_wp2_with fail
            go_ret2
            exact HR.out _ ⟨_, rfl⟩
      · have hjl2 : j = len := by omega
        have hdy : Box (digsS s.data.toList = true) := ⟨Hdg.out.2 (fun k hk => Hp.out k (by omega))⟩
        have HR : Box (∀ (e : Ending) (w' : World), Below wr.heap.size wr w' → (∃ n : Int, e = .returned (.tuple #[.int .i64 n, errV 0]) ∨ e = .returned (.tuple #[.int .i64 n, errV 11])) → ParseSaid s w e w') := ⟨fun e w' k he => ⟨fun _ => he, fun h => (by rw [hdy.out] at h; cases h), K.out.trans (k.mono K.out.size)⟩⟩
        cases b
        · obtain ⟨n, hn⟩ := fit_total (z)
          obtain ⟨r, hr, hr2⟩ : ∃ r : Option Int, PCodeSafe.fix_fit.f (z) = some (n, r) ∧ (r = none ∨ r = some 11) := by
            rcases hn with h | h
            · exact ⟨_, h, .inl rfl⟩
            · exact ⟨_, h, .inr rfl⟩
          clear hn
          have HF := Box.mk hr
          clear hr
          go_wp2_with fail
          refine (PCodeSafe.fix_fit.calls (z) n r _ HF.out).mono ?_
          rintro e w2 ⟨rfl, k2⟩
          have K2 := Box.mk (below_drawn0 k2)
          clear k2
          go_wp2_with fail
          go_ret2
          refine HR.out _ _ K2.out ⟨n, ?_⟩
          rcases hr2 with rfl | rfl
          · exact .inl rfl
          · exact .inr rfl
        · go_wp2_with fail
          go_ret2
          exact HR.out _ _ (Below.refl _ _) ⟨_, .inr rfl⟩
  · have HR : Box (∀ e : Ending, (∃ n : Int, e = .returned (.tuple #[.int .i64 n, .iface 34 (.int .i64 6)])) → ParseSaid s w e w) := ⟨fun e he => ⟨fun h2 => by
      rw [hdg, digsL] at h2
      simp [hdlen] at h2
      omega, fun _ => he, Below.refl _ _⟩⟩
    have hq : (c.toNat : Int) = 43 := by rw [hc]; rfl
    rw [hq] at hix
    have hext : s.size - 1 = len := by rw [← hlen]; simp
    clear hdg hd hs hc hdlen hq hlen hsz
    go_enter Tryz.func134, Tryz.ntmps134
    go_wp2_with fail
    all_goals
      go_ret2
      exact HR.out _ ⟨_, rfl⟩

set_option maxRecDepth 100000 in
theorem parse_plain (s : ByteArray) (w : World) (c : UInt8) (dl0 : List UInt8) (hs : s.data.toList = c :: dl0) (hc : c ≠ 45 ∧ c ≠ 43) (hm : s.size ≤ 140737488351232) : Calls Tryz.prog 134 #[.string s] w fun e w' => ParseSaid s w e w' := by
  have hconv := fun (w : World) (z : ByteArray) => Lib.run_convert_string_bytes (P := Tryz.prog) w 9 68 5 z Tryz.underlying9 Tryz.underlying68 Tryz.underlying5
  have hsz : s.size = dl0.length + 1 := by have := congrArg List.length hs; simpa using this
  have hne : ¬ s.toList = [] := by rw [ByteArray.toList_eq, hs]; simp
  have hne2 : s.toList.isEmpty = false := by rw [ByteArray.toList_eq, hs]; rfl
  have h1s : 1 ≤ s.size := by omega
  have hix : ∀ W : World, (Instr.index 9 (.string s) (.int .i64 0)).run Tryz.prog W = .ok (.int .u8 (c.toNat : Int)) W := fun W => by
    rw [run_index_string W 9 s .i64 0 Tryz.underlying9, dif_pos ⟨by omega, by omega⟩]
    have h0 : (s[(0 : Int).toNat]'(by show 0 < s.size; omega)) = c := by
      show s.data[0]'_ = c
      have h1 : s.data.toList[0]? = some c := by rw [hs]; rfl
      rw [Array.getElem?_toList] at h1
      exact (Array.getElem?_eq_some_iff.1 h1).2
    rw [h0]
  obtain ⟨len, dl, hlen, hd, hdg⟩ : ∃ (len : Nat) (dl : List UInt8), s.size = len ∧ s.data.toList = dl ∧ digsS s.data.toList = digsL dl := ⟨_, _, rfl, rfl, by rw [hs, digsS, if_neg (by rintro (h | h); exact hc.1 h; exact hc.2 h)]⟩
  have hdlen : dl.length = len := by rw [← hd, ← hlen]; simp
  have Hd := Box.mk hd
  have Hlen := Box.mk hlen
  have hx1 : len ≤ 140737488351232 := by
    have : s.size ≤ s.size := (Nat.le_refl _)
    omega
  by_cases hb : 1 ≤ len ∧ len ≤ 30
  · have Hdg : Box (digsS s.data.toList = true ↔ ∀ k, k < len → dgN (byL dl k) = true) := ⟨by
      rw [hdg, digsL, ← all_byL_len dl len hdlen]
      simp [hdlen, hb.1, hb.2]⟩
    obtain ⟨hb1, hb2⟩ := hb
    obtain ⟨q, hq⟩ : ∃ q : Int, (c.toNat : Int) = q := ⟨_, rfl⟩
    have hq1 : (q == 45) = false := by rw [beq_eq_false_iff_ne]; intro e; apply hc.1; apply UInt8.toNat_inj.1; show c.toNat = 45; omega
    have hq2 : (q == 43) = false := by rw [beq_eq_false_iff_ne]; intro e; apply hc.2; apply UInt8.toNat_inj.1; show c.toNat = 43; omega
    rw [hq] at hix
    clear hdg hd hs hc hdlen hq hsz
    go_enter Tryz.func134, Tryz.ntmps134
    have Hce : Box (∀ j, j < len → (Lib.bytesWorld w 5 s).cell? ⟨w.heap.size, j, none⟩ = some (.int .u8 (byL dl j : Nat))) := ⟨fun j hj => by
      rw [Lib.bytesWorld_cell w 5 s j (by rw [Hlen.out]; exact hj), Hd.out]; rfl⟩
    have HK := Box.mk (below_bytes w 5 s)
    go_wp2_with fail
    go_loopw [36, 6, 5] (fun i n f wr => ∃ (j : Nat) (z : Int), j ≤ len ∧ i = .int .i64 j ∧ n = .int .i64 z ∧ 0 ≤ z ∧ z ≤ 3000000000000000000 ∧ Box (∃ b, f = .bool b) ∧ Box (∀ k, k < j → dgN (byL dl k) = true) ∧ Box (∀ j, j < len → wr.cell? ⟨w.heap.size, j, none⟩ = some (.int .u8 (byL dl j : Nat))) ∧ Box (Below w.heap.size w wr)) (fun i _ _ _ => len - (intOf i).toNat)
    case atStart => exact ⟨0, 0, Nat.zero_le _, rfl, rfl, by decide, by decide, ⟨_, rfl⟩, ⟨fun k hk => absurd hk (Nat.not_lt_zero _)⟩, Hce, HK⟩
    case round =>
      clear Hce HK
      obtain ⟨j, z, hj, rfl, rfl, hz0, hz1, Hf, Hp, Hc, K⟩ := hrel
      obtain ⟨b, rfl⟩ := Hf.out
      by_cases hjl : j < len
      · have hcell := Hc.out j hjl
        have hj0 : (0 : Int) ≤ (j : Int) := by omega
        have hlt := byL_lt dl j
        obtain ⟨c, hc⟩ : ∃ c, byL dl j = c := ⟨_, rfl⟩
        rw [hc] at hcell hlt
        have Hcc := Box.mk hc
        clear hc
        by_cases hd : 48 ≤ c ∧ c ≤ 57
        · obtain ⟨hd1, hd2⟩ := hd
          have hp2 : Box (∀ k, k < j + 1 → dgN (byL dl k) = true) := ⟨fun k hk => by
            by_cases e : k = j
            · rw [e, Hcc.out]; simp [dgN, hd1, hd2]
            · exact Hp.out k (by omega)⟩
          have hw : IntKind.u8.wrap ((c : Int) - 48) = (c : Int) - 48 := by simp only [IntKind.wrap]; simp [IntKind.bits, IntKind.signed]; omega
          have hi1 : ¬ (c : Int) < 48 := by omega
          have hi2 : ¬ (c : Int) > 57 := by omega
          cases b
          · by_cases hz : z > 288230376151711743
            · go_wp2_with fail
              go_roundw
              case rel => exact ⟨j + 1, z, by omega, by go_num, rfl, hz0, hz1, ⟨_, rfl⟩, hp2, Hc, K⟩
              case measure => simp [intOf]; omega
            · go_wp2_with fail
              go_roundw
              case rel => exact ⟨j + 1, 10 * z + ((c : Int) - 48), by omega, by go_num, by go_num, by omega, by omega, ⟨_, rfl⟩, hp2, Hc, K⟩
              case measure => simp [intOf]; omega
          · go_wp2_with fail
            go_roundw
            case rel => exact ⟨j + 1, z, by omega, by go_num, rfl, hz0, hz1, ⟨_, rfl⟩, hp2, Hc, K⟩
            case measure => simp [intOf]; omega
        · have HR : Box (∀ e : Ending, (∃ n : Int, e = .returned (.tuple #[.int .i64 n, .iface 34 (.int .i64 6)])) → ParseSaid s w e wr) := ⟨fun e he => ⟨fun h => by
            exfalso
            have h2 := (Hdg.out.1 h) j hjl
            rw [Hcc.out] at h2
            simp [dgN] at h2
            omega, fun _ => he, K.out⟩⟩
          have hd' : c < 48 ∨ 57 < c := by omega
          clear hd
          rcases hd' with h | h
          · have hi1 : (c : Int) < 48 := by omega
            go_wp2_with fail
            go_ret2
            exact HR.out _ ⟨_, rfl⟩
          · have hi1 : ¬ (c : Int) < 48 := by omega
            have hi2 : (c : Int) > 57 := by omega
            go_wp2_with fail
            go_ret2
            exact HR.out _ ⟨_, rfl⟩
      · have hjl2 : j = len := by omega
        have hdy : Box (digsS s.data.toList = true) := ⟨Hdg.out.2 (fun k hk => Hp.out k (by omega))⟩
        have HR : Box (∀ (e : Ending) (w' : World), Below wr.heap.size wr w' → (∃ n : Int, e = .returned (.tuple #[.int .i64 n, errV 0]) ∨ e = .returned (.tuple #[.int .i64 n, errV 11])) → ParseSaid s w e w') := ⟨fun e w' k he => ⟨fun _ => he, fun h => (by rw [hdy.out] at h; cases h), K.out.trans (k.mono K.out.size)⟩⟩
        cases b
        · obtain ⟨n, hn⟩ := fit_total (z)
          obtain ⟨r, hr, hr2⟩ : ∃ r : Option Int, PCodeSafe.fix_fit.f (z) = some (n, r) ∧ (r = none ∨ r = some 11) := by
            rcases hn with h | h
            · exact ⟨_, h, .inl rfl⟩
            · exact ⟨_, h, .inr rfl⟩
          clear hn
          have HF := Box.mk hr
          clear hr
          go_wp2_with fail
          refine (PCodeSafe.fix_fit.calls (z) n r _ HF.out).mono ?_
          rintro e w2 ⟨rfl, k2⟩
          have K2 := Box.mk (below_drawn0 k2)
          clear k2
          go_wp2_with fail
          go_ret2
          refine HR.out _ _ K2.out ⟨n, ?_⟩
          rcases hr2 with rfl | rfl
          · exact .inl rfl
          · exact .inr rfl
        · go_wp2_with fail
          go_ret2
          exact HR.out _ _ (Below.refl _ _) ⟨_, .inr rfl⟩
  · have HR : Box (∀ e : Ending, (∃ n : Int, e = .returned (.tuple #[.int .i64 n, .iface 34 (.int .i64 6)])) → ParseSaid s w e w) := ⟨fun e he => ⟨fun h2 => by
      rw [hdg, digsL] at h2
      simp [hdlen] at h2
      omega, fun _ => he, Below.refl _ _⟩⟩
    obtain ⟨q, hq⟩ : ∃ q : Int, (c.toNat : Int) = q := ⟨_, rfl⟩
    have hq1 : (q == 45) = false := by rw [beq_eq_false_iff_ne]; intro e; apply hc.1; apply UInt8.toNat_inj.1; show c.toNat = 45; omega
    have hq2 : (q == 43) = false := by rw [beq_eq_false_iff_ne]; intro e; apply hc.2; apply UInt8.toNat_inj.1; show c.toNat = 43; omega
    rw [hq] at hix
    clear hdg hd hs hc hdlen hq hsz
    go_enter Tryz.func134, Tryz.ntmps134
    go_wp2_with fail
    all_goals
      go_ret2
      exact HR.out _ ⟨_, rfl⟩

end Go.Proofs.YtiimojpaeccajaaGreatDoor
