/- lex.digits, lex.Symbol by their contracts. -/
import Derived.Test.YtiimojpaeccajaaGreatDoorLex
import Derived.Test.YtiimojpaeccajaaGreatDoorShelf
namespace Go.Proofs.YtiimojpaeccajaaGreatDoor
set_option linter.unusedVariables false
set_option linter.unusedSimpArgs false
open Go.RowKit

theorem parse_is (s : ByteArray) (w : World) (hm : s.size ≤ 140737488351232) : Calls Tryz.prog 134 #[.string s] w fun e w' => ParseSaid s w e w' := by
  cases hs : s.data.toList with
  | nil => exact parse_empty s w (by have := congrArg List.length hs; simpa using this)
  | cons c l =>
    by_cases h1 : c = 45
    · exact parse_minus s w c l hs h1 hm
    · by_cases h2 : c = 43
      · exact parse_plus s w c l hs h2 hm
      · exact parse_plain s w c l hs ⟨h1, h2⟩ hm

set_option maxRecDepth 100000 in
theorem digits_is (s : ByteArray) (w : World) (hm : s.size ≤ 140737488351232) :
    Calls Tryz.prog 96 #[.string s] w fun e w' => e = .returned (.bool (digsS s.data.toList)) ∧ Below w.heap.size w w' := by
  obtain ⟨d, hd⟩ : ∃ d, digsS s.data.toList = d := ⟨_, rfl⟩
  have Hd := Box.mk hd
  rw [hd]
  clear hd
  go_enter Tryz.func96, Tryz.ntmps96
  go_wp2_with fail
  refine (parse_is s w hm).mono ?_
  rintro e w1 H
  have K := Box.mk H.keeps
  have hn := run_eql_iface_nil_left (P := Tryz.prog) w1 34 (.int .i64 11) Tryz.underlying26
  cases d with
  | true =>
    obtain ⟨n, rfl | rfl⟩ := H.yes Hd.out
    · clear H
      show _
      unfold errV
      simp only [if_true]
      go_wp2_with fail
      go_ret
      exact ⟨rfl, K.out⟩
    · clear H
      unfold errV
      simp only [show ((11 : Int) = 0) = False from by decide, if_false]
      go_wp2_with (go_at_call 18; refine (is_kind _ _ _).mono ?_; rintro e w' ⟨rfl, rfl⟩)
      go_ret
      exact ⟨rfl, K.out⟩
  | false =>
    obtain ⟨n, rfl⟩ := H.no Hd.out
    clear H
    unfold errV
    simp only [show ((6 : Int) = 0) = False from by decide, if_false]
    go_wp2_with (go_at_call 18; refine (is_kind _ _ _).mono ?_; rintro e w' ⟨rfl, rfl⟩)
    go_ret
    exact ⟨rfl, K.out⟩

/-- May the byte stand in a symbol. -/
def syN (c : Nat) : Bool := decide (33 ≤ c) && decide (c ≤ 126) && !(Lib.indexByte [40, 41, 34, 59, 39, 44, 96, 35] (c : Int).toNat.toUInt8 ≥ 0 : Bool)
/-- May it be a symbol's name. -/
def symS (l : List UInt8) : Bool := !l.isEmpty && decide (l.length ≤ 60) && !(l == [46]) && !digsS l && l.all fun c => syN c.toNat
theorem all_syL (l : List UInt8) (n : Nat) (h : l.length = n) : (l.all fun c => syN c.toNat) = true ↔ ∀ k, k < n → syN (byL l k) = true := by
  subst h; exact all_byL l _ _ (fun _ => rfl)

set_option maxRecDepth 100000 in
theorem symbol_is (s : ByteArray) (w : World) :
    Calls Tryz.prog 71 #[.string s] w fun e w' => e = .returned (.bool (symS s.data.toList)) ∧ Below w.heap.size w w' := by
  have hconv := fun (w : World) (z : ByteArray) => Lib.run_convert_string_bytes (P := Tryz.prog) w 9 68 5 z Tryz.underlying9 Tryz.underlying68 Tryz.underlying5
  obtain ⟨len, hlen⟩ : ∃ len, s.size = len := ⟨_, rfl⟩
  obtain ⟨dl, hdl⟩ : ∃ dl, s.data.toList = dl := ⟨_, rfl⟩
  have hdlen : dl.length = len := by rw [← hdl, ← hlen]; simp
  by_cases h0 : len = 0
  · have hs : s.toList = [] := by rw [ByteArray.toList_eq, hdl]; exact List.eq_nil_of_length_eq_zero (by omega)
    have HR : Box (symS s.data.toList = false) := ⟨by rw [hdl, List.eq_nil_of_length_eq_zero (by omega : dl.length = 0)]; rfl⟩
    clear hdl hlen hdlen h0
    go_enter Tryz.func71, Tryz.ntmps71
    go_wp2_with fail
    go_ret
    exact ⟨by rw [HR.out]; rfl, Below.refl _ _⟩
  have hne : ¬ s.toList = [] := by rw [ByteArray.toList_eq, hdl]; intro e; rw [e] at hdlen; simp at hdlen; omega
  have hne3 : s.toList.isEmpty = false := by cases h : s.toList with | nil => exact absurd h hne | cons => rfl
  have hne2 : dl.isEmpty = false := by cases dl with | nil => simp at hdlen; omega | cons => rfl
  by_cases h60' : 60 < len
  · have h60 : ¬ len ≤ 60 := by omega
    have HR : Box (symS s.data.toList = false) := ⟨by rw [hdl, symS, hdlen]; simp [h60]⟩
    clear hdl hdlen hne2
    go_enter Tryz.func71, Tryz.ntmps71
    go_wp2_with fail
    go_ret
    exact ⟨by rw [HR.out]; rfl, Below.refl _ _⟩
  have h60 : len ≤ 60 := by omega
  have hm : s.size ≤ 140737488351232 := by omega
  clear h60'
  by_cases h46 : dl = [46]
  · have HR : Box (symS s.data.toList = false) := ⟨by rw [hdl, h46]; decide⟩
    have hs : s.toList = [46] := by rw [ByteArray.toList_eq, hdl, h46]
    clear hdl hdlen hne2 h46
    go_enter Tryz.func71, Tryz.ntmps71
    go_wp2_with fail
    go_ret
    exact ⟨by rw [HR.out]; rfl, Below.refl _ _⟩
  have hs46 : ¬ s.toList = [46] := by rw [ByteArray.toList_eq, hdl]; exact h46
  have hs47 : (s.toList == [46]) = false := by simpa using hs46
  have hl60 : ¬ (60 < (len : Int)) := by omega
  have Hdl := Box.mk hdl
  have Hlen := Box.mk hlen
  have Hdlen := Box.mk hdlen
  cases hdg : digsS dl with
  | true =>
    have HR : Box (symS s.data.toList = false) := ⟨by rw [hdl, symS, hdg]; simp⟩
    have Hdg : Box (digsS s.data.toList = true) := ⟨by rw [hdl]; exact hdg⟩
    clear hdl hdlen hne2 h46 hdg
    go_enter Tryz.func71, Tryz.ntmps71
    go_wp2_with (go_at_call 96; refine (digits_is _ _ hm).mono ?_; rw [Hdg.out]; rintro e w1 ⟨rfl, k1⟩)
    go_ret
    exact ⟨by rw [HR.out]; rfl, k1⟩
  | false =>
    have Hdg : Box (digsS s.data.toList = false) := ⟨by rw [hdl]; exact hdg⟩
    have HY : Box (symS s.data.toList = true ↔ ∀ k, k < len → syN (byL dl k) = true) := ⟨by
      rw [hdl, symS, hdg, hne2, ← all_syL dl len hdlen, hdlen]
      have : (dl == [46]) = false := by simpa using h46
      simp [h60, this]⟩
    clear hdl hdlen hne2 h46 hdg
    go_enter Tryz.func71, Tryz.ntmps71
    go_wp2_with (go_at_call 96; refine (digits_is _ _ hm).mono ?_; rw [Hdg.out]; rintro e w1 ⟨rfl, k1⟩)
    have K1 := Box.mk k1
    have Hce : Box (∀ j, j < len → (Lib.bytesWorld w1 5 s).cell? ⟨w1.heap.size, j, none⟩ = some (.int .u8 (byL dl j : Nat))) := ⟨fun j hj => by
      rw [Lib.bytesWorld_cell w1 5 s j (by rw [Hlen.out]; exact hj), Hdl.out]; rfl⟩
    have HK := Box.mk (k1.trans ((below_bytes w1 5 s).mono k1.size))
    clear k1
    go_wp2_with fail
    go_loopw [23] (fun i wr => ∃ (j : Nat), j ≤ len ∧ i = .int .i64 j ∧ Box (∀ k, k < j → syN (byL dl k) = true) ∧ Box (∀ j, j < len → wr.cell? ⟨w1.heap.size, j, none⟩ = some (.int .u8 (byL dl j : Nat))) ∧ Box (Below w.heap.size w wr)) (fun i _ => len - (intOf i).toNat)
    case atStart => exact ⟨0, Nat.zero_le _, rfl, ⟨fun k hk => absurd hk (Nat.not_lt_zero _)⟩, Hce, HK⟩
    case round =>
      clear Hce HK K1
      obtain ⟨j, hj, rfl, Hp, Hc, K⟩ := hrel
      by_cases hjl : j < len
      · have hcell := Hc.out j hjl
        have hj0 : (0 : Int) ≤ (j : Int) := by omega
        have hlt := byL_lt dl j
        obtain ⟨c, hc⟩ : ∃ c, byL dl j = c := ⟨_, rfl⟩
        rw [hc] at hcell hlt
        have Hcc := Box.mk hc
        clear hc
        have HN : Box (syN c = false → symS s.data.toList = false) := ⟨fun h => by
          cases h2 : symS s.data.toList with
          | false => rfl
          | true =>
            have h3 := HY.out.1 h2 j hjl
            rw [Hcc.out, h] at h3
            cases h3⟩
        by_cases hd1 : 33 ≤ c
        · by_cases hd2 : c ≤ 126
          · obtain ⟨v, hv⟩ : ∃ v : Int, Lib.indexByte [40, 41, 34, 59, 39, 44, 96, 35] (c : Int).toNat.toUInt8 = v := ⟨_, rfl⟩
            have hix := fun (W : World) => Tryz.strings_IndexByte ⟨#[40, 41, 34, 59, 39, 44, 96, 35]⟩ (c : Int) W
            rw [show ((⟨#[40, 41, 34, 59, 39, 44, 96, 35]⟩ : ByteArray).data.toList) = [40, 41, 34, 59, 39, 44, 96, 35] from rfl, hv] at hix
            have Hix := Box.mk hix
            have hi1 : ¬ (c : Int) < 33 := by omega
            have hi2 : ¬ (c : Int) > 126 := by omega
            by_cases hv0 : v ≥ 0
            · have hcn : Box (symS s.data.toList = false) := ⟨HN.out (by rw [syN, hv]; simp [hd1, hd2, hv0])⟩
              clear hix hv
              go_wp2_with fail
              refine (Hix.out _).mono ?_
              rintro e w' ⟨rfl, rfl⟩
              go_wp2_with fail
              go_ret
              exact ⟨by rw [hcn.out]; rfl, K.out⟩
            · have hp2 : Box (∀ k, k < j + 1 → syN (byL dl k) = true) := ⟨fun k hk => by
                by_cases e : k = j
                · rw [e, Hcc.out, syN, hv]; simp [hd1, hd2]; omega
                · exact Hp.out k (by omega)⟩
              clear hix hv
              go_wp2_with fail
              refine (Hix.out _).mono ?_
              rintro e w' ⟨rfl, rfl⟩
              go_wp2_with fail
              go_roundw
              case rel => exact ⟨j + 1, by omega, by go_num, hp2, Hc, K⟩
              case measure => simp [intOf]; omega
          · have hi1 : ¬ (c : Int) < 33 := by omega
            have hi2 : (c : Int) > 126 := by omega
            have hcn : Box (symS s.data.toList = false) := ⟨HN.out (by simp [syN, hd2])⟩
            go_wp2_with fail
            go_ret
            exact ⟨by rw [hcn.out]; rfl, K.out⟩
        · have hi1 : (c : Int) < 33 := by omega
          have hcn : Box (symS s.data.toList = false) := ⟨HN.out (by simp [syN, hd1])⟩
          go_wp2_with fail
          go_ret
          exact ⟨by rw [hcn.out]; rfl, K.out⟩
      · have hjl2 : j = len := by omega
        have hcy : Box (symS s.data.toList = true) := ⟨HY.out.2 (fun k hk => Hp.out k (by omega))⟩
        go_wp2_with fail
        go_ret
        exact ⟨by rw [hcy.out]; rfl, K.out⟩

end Go.Proofs.YtiimojpaeccajaaGreatDoor
