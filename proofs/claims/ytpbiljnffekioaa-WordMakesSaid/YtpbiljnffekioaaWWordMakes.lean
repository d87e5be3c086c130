/- WordMakes: cells, characters, symbols and the system's procedures are the words that the document says, or refused. -/
import Derived.Test.YtpbiljnffekioaaWord2
import Derived.Deep.RegionWith
namespace Go.Proofs.Ytpbiljnffekioaa
set_option linter.unusedVariables false
set_option linter.unusedSimpArgs false
open Go.RowKit

def MadeTrue (w : World) : Ending → World → Prop := fun e w' => e = .returned (.bool true) ∧ ∃ k, w' = w.drewN k

theorem ok_no (n t m : Int) (q : Nat) (w : World) (h : n < 0 ∨ m < n) (hc : w.cell? ⟨q, 0, none⟩ = some (.int .i64 n)) :
    Calls Try.prog 27 #[.int .u64 0, .iface 34 (.int .i64 2), .int .i64 t, .int .i64 m, .pointer (some ⟨q, 0, none⟩)] w (MadeTrue w) := by
  by_cases h0 : n < 0
  · clear h
    go_enter Try.func27, Try.ntmps27
    go_wp2_with (go_at_call 16; refine (is_kind _ _ _).mono ?_; rintro e w' ⟨rfl, rfl⟩)
    go_ret
    exact ⟨rfl, 0, rfl⟩
  · have h1 : m < n := by omega
    clear h
    go_enter Try.func27, Try.ntmps27
    go_wp2_with (go_at_call 16; refine (is_kind _ _ _).mono ?_; rintro e w' ⟨rfl, rfl⟩)
    go_ret
    exact ⟨rfl, 0, rfl⟩

theorem wkind_put {t n : Int} (h0 : 1 ≤ t) (h7 : t ≤ 6) (hn : 0 ≤ n) (hm : n ≤ wmost t) : wkind (wput t n) = wtag t n := by
  have hb : n < 1152921504606846976 := by unfold wmost at hm; repeat' split at hm
                                          all_goals omega
  unfold wkind
  rw [wput_tag (by omega) (by omega), wput_num (by omega) (by omega) (by omega) hb, if_neg (by omega), if_pos ⟨hn, hm⟩]
theorem wvalue_put {t n : Int} (h0 : 1 ≤ t) (h7 : t ≤ 6) (hn : 0 ≤ n) (hm : n ≤ wmost t) : wvalue (wput t n) = n := by
  have hb : n < 1152921504606846976 := by unfold wmost at hm; repeat' split at hm
                                          all_goals omega
  unfold wvalue
  rw [wkind_put h0 h7 hn hm, if_neg (by unfold wtag; repeat' split
                                        all_goals omega), wput_num (by omega) (by omega) (by omega) hb]

set_option maxHeartbeats 1000000 in
theorem ok_cell (n : Int) (q : Nat) (w : World) (h0 : 0 ≤ n) (h1 : n ≤ 1099511627776) (hc : w.cell? ⟨q, 0, none⟩ = some (.int .i64 n)) :
    Calls Try.prog 27 #[.int .u64 (wput 1 n), .nilIface, .int .i64 1, .int .i64 1099511627776, .pointer (some ⟨q, 0, none⟩)] w (MadeTrue w) := by
  have hw := wput_w (t := 1) (n := n) (by omega) (by omega)
  have hk := fun w => kind_is (wput 1 n) w hw
  have hv := fun w => value_is (wput 1 n) w hw
  rw [show wkind (wput 1 n) = 2 from (wkind_put (by omega) (by omega) h0 (by simpa [wmost] using h1)).trans (by simp [wtag])] at hk
  rw [wvalue_put (by omega) (by omega) h0 (by simpa [wmost] using h1)] at hv
  have HK := Box.mk hk
  have HV := Box.mk hv
  have hix : ∀ w, (Instr.index 39 (.agg #[.int .i64 0, .int .i64 2, .int .i64 3, .int .i64 0, .int .i64 0, .int .i64 8, .int .i64 9]) (.int .i64 1)).run Try.prog w = .ok (.int .i64 2) w := fun _ => by kernel_rfl
  have HM := Box.mk (fun w => rmake_is 1 n w (by omega) (by omega))
  clear hk hv hw
  generalize wput 1 n = x at *
  go_enter Try.func27, Try.ntmps27
  go_wp2_with fail
  go_quiet ((first
    | (go_at_call 9; exact Calls.quiet_of_same (HM.out _))
    | (go_at_call 10; exact Calls.quiet_of_same (HK.out _))
    | (go_at_call 13; exact Calls.quiet_of_same (HV.out _))))
  go_wp2_with fail
  go_ret
  exact ⟨rfl, _, rfl⟩
theorem both_cell (n : Int) : ∃ a e, (∀ w, Calls Try.prog 23 #[.int .i64 n] w fun e' w' => e' = .returned (.tuple #[.int .u64 a, e]) ∧ w' = w) ∧
    ∀ (w : World) (q : Nat), w.cell? ⟨q, 0, none⟩ = some (.int .i64 n) → Calls Try.prog 27 #[.int .u64 a, e, .int .i64 1, .int .i64 1099511627776, .pointer (some ⟨q, 0, none⟩)] w (MadeTrue w) := by
  by_cases h : 0 ≤ n ∧ n ≤ 1099511627776
  · exact ⟨_, _, fun w => cell_yes n w h.1 h.2, fun w q hc => ok_cell n q w h.1 h.2 hc⟩
  · exact ⟨_, _, fun w => cell_no n w (by omega), fun w q hc => ok_no n 1 1099511627776 q w (by omega) hc⟩

set_option maxHeartbeats 1000000 in
theorem ok_char (n : Int) (q : Nat) (w : World) (h0 : 0 ≤ n) (h1 : n ≤ 255) (hc : w.cell? ⟨q, 0, none⟩ = some (.int .i64 n)) :
    Calls Try.prog 27 #[.int .u64 (wput 2 n), .nilIface, .int .i64 2, .int .i64 255, .pointer (some ⟨q, 0, none⟩)] w (MadeTrue w) := by
  have hw := wput_w (t := 2) (n := n) (by omega) (by omega)
  have hk := fun w => kind_is (wput 2 n) w hw
  have hv := fun w => value_is (wput 2 n) w hw
  rw [show wkind (wput 2 n) = 3 from (wkind_put (by omega) (by omega) h0 (by simpa [wmost] using h1)).trans (by simp [wtag])] at hk
  rw [wvalue_put (by omega) (by omega) h0 (by simpa [wmost] using h1)] at hv
  have HK := Box.mk hk
  have HV := Box.mk hv
  have hix : ∀ w, (Instr.index 39 (.agg #[.int .i64 0, .int .i64 2, .int .i64 3, .int .i64 0, .int .i64 0, .int .i64 8, .int .i64 9]) (.int .i64 2)).run Try.prog w = .ok (.int .i64 3) w := fun _ => by kernel_rfl
  have HM := Box.mk (fun w => rmake_is 2 n w (by omega) (by omega))
  clear hk hv hw
  generalize wput 2 n = x at *
  go_enter Try.func27, Try.ntmps27
  go_wp2_with fail
  go_quiet ((first
    | (go_at_call 9; exact Calls.quiet_of_same (HM.out _))
    | (go_at_call 10; exact Calls.quiet_of_same (HK.out _))
    | (go_at_call 13; exact Calls.quiet_of_same (HV.out _))))
  go_wp2_with fail
  go_ret
  exact ⟨rfl, _, rfl⟩
theorem both_char (n : Int) : ∃ a e, (∀ w, Calls Try.prog 24 #[.int .i64 n] w fun e' w' => e' = .returned (.tuple #[.int .u64 a, e]) ∧ w' = w) ∧
    ∀ (w : World) (q : Nat), w.cell? ⟨q, 0, none⟩ = some (.int .i64 n) → Calls Try.prog 27 #[.int .u64 a, e, .int .i64 2, .int .i64 255, .pointer (some ⟨q, 0, none⟩)] w (MadeTrue w) := by
  by_cases h : 0 ≤ n ∧ n ≤ 255
  · exact ⟨_, _, fun w => char_yes n w h.1 h.2, fun w q hc => ok_char n q w h.1 h.2 hc⟩
  · exact ⟨_, _, fun w => char_no n w (by omega), fun w q hc => ok_no n 2 255 q w (by omega) hc⟩

set_option maxHeartbeats 1000000 in
theorem ok_symbol (n : Int) (q : Nat) (w : World) (h0 : 0 ≤ n) (h1 : n ≤ 4095) (hc : w.cell? ⟨q, 0, none⟩ = some (.int .i64 n)) :
    Calls Try.prog 27 #[.int .u64 (wput 5 n), .nilIface, .int .i64 5, .int .i64 4095, .pointer (some ⟨q, 0, none⟩)] w (MadeTrue w) := by
  have hw := wput_w (t := 5) (n := n) (by omega) (by omega)
  have hk := fun w => kind_is (wput 5 n) w hw
  have hv := fun w => value_is (wput 5 n) w hw
  rw [show wkind (wput 5 n) = 8 from (wkind_put (by omega) (by omega) h0 (by simpa [wmost] using h1)).trans (by simp [wtag])] at hk
  rw [wvalue_put (by omega) (by omega) h0 (by simpa [wmost] using h1)] at hv
  have HK := Box.mk hk
  have HV := Box.mk hv
  have hix : ∀ w, (Instr.index 39 (.agg #[.int .i64 0, .int .i64 2, .int .i64 3, .int .i64 0, .int .i64 0, .int .i64 8, .int .i64 9]) (.int .i64 5)).run Try.prog w = .ok (.int .i64 8) w := fun _ => by kernel_rfl
  have HM := Box.mk (fun w => rmake_is 5 n w (by omega) (by omega))
  clear hk hv hw
  generalize wput 5 n = x at *
  go_enter Try.func27, Try.ntmps27
  go_wp2_with fail
  go_quiet ((first
    | (go_at_call 9; exact Calls.quiet_of_same (HM.out _))
    | (go_at_call 10; exact Calls.quiet_of_same (HK.out _))
    | (go_at_call 13; exact Calls.quiet_of_same (HV.out _))))
  go_wp2_with fail
  go_ret
  exact ⟨rfl, _, rfl⟩
theorem both_symbol (n : Int) : ∃ a e, (∀ w, Calls Try.prog 25 #[.int .i64 n] w fun e' w' => e' = .returned (.tuple #[.int .u64 a, e]) ∧ w' = w) ∧
    ∀ (w : World) (q : Nat), w.cell? ⟨q, 0, none⟩ = some (.int .i64 n) → Calls Try.prog 27 #[.int .u64 a, e, .int .i64 5, .int .i64 4095, .pointer (some ⟨q, 0, none⟩)] w (MadeTrue w) := by
  by_cases h : 0 ≤ n ∧ n ≤ 4095
  · exact ⟨_, _, fun w => symbol_yes n w h.1 h.2, fun w q hc => ok_symbol n q w h.1 h.2 hc⟩
  · exact ⟨_, _, fun w => symbol_no n w (by omega), fun w q hc => ok_no n 5 4095 q w (by omega) hc⟩

set_option maxHeartbeats 1000000 in
theorem ok_prim (n : Int) (q : Nat) (w : World) (h0 : 0 ≤ n) (h1 : n ≤ 255) (hc : w.cell? ⟨q, 0, none⟩ = some (.int .i64 n)) :
    Calls Try.prog 27 #[.int .u64 (wput 6 n), .nilIface, .int .i64 6, .int .i64 255, .pointer (some ⟨q, 0, none⟩)] w (MadeTrue w) := by
  have hw := wput_w (t := 6) (n := n) (by omega) (by omega)
  have hk := fun w => kind_is (wput 6 n) w hw
  have hv := fun w => value_is (wput 6 n) w hw
  rw [show wkind (wput 6 n) = 9 from (wkind_put (by omega) (by omega) h0 (by simpa [wmost] using h1)).trans (by simp [wtag])] at hk
  rw [wvalue_put (by omega) (by omega) h0 (by simpa [wmost] using h1)] at hv
  have HK := Box.mk hk
  have HV := Box.mk hv
  have hix : ∀ w, (Instr.index 39 (.agg #[.int .i64 0, .int .i64 2, .int .i64 3, .int .i64 0, .int .i64 0, .int .i64 8, .int .i64 9]) (.int .i64 6)).run Try.prog w = .ok (.int .i64 9) w := fun _ => by kernel_rfl
  have HM := Box.mk (fun w => rmake_is 6 n w (by omega) (by omega))
  clear hk hv hw
  generalize wput 6 n = x at *
  go_enter Try.func27, Try.ntmps27
  go_wp2_with fail
  go_quiet ((first
    | (go_at_call 9; exact Calls.quiet_of_same (HM.out _))
    | (go_at_call 10; exact Calls.quiet_of_same (HK.out _))
    | (go_at_call 13; exact Calls.quiet_of_same (HV.out _))))
  go_wp2_with fail
  go_ret
  exact ⟨rfl, _, rfl⟩
theorem both_prim (n : Int) : ∃ a e, (∀ w, Calls Try.prog 26 #[.int .i64 n] w fun e' w' => e' = .returned (.tuple #[.int .u64 a, e]) ∧ w' = w) ∧
    ∀ (w : World) (q : Nat), w.cell? ⟨q, 0, none⟩ = some (.int .i64 n) → Calls Try.prog 27 #[.int .u64 a, e, .int .i64 6, .int .i64 255, .pointer (some ⟨q, 0, none⟩)] w (MadeTrue w) := by
  by_cases h : 0 ≤ n ∧ n ≤ 255
  · exact ⟨_, _, fun w => prim_yes n w h.1 h.2, fun w q hc => ok_prim n q w h.1 h.2 hc⟩
  · exact ⟨_, _, fun w => prim_no n w (by omega), fun w q hc => ok_no n 6 255 q w (by omega) hc⟩

set_option maxRecDepth 100000 in
set_option maxHeartbeats 1000000 in
theorem WordMakes_walk (n : Int) (w : World) (hn : (Lit.int .i64 n).wf = true) :
    Calls Try.prog 7 #[.int .i64 n] w fun e w' => e = .returned (.bool true) ∧ Below w.heap.size w w' := by
  clear hn
  obtain ⟨a1, e1, c1, d1⟩ := both_cell n
  obtain ⟨a2, e2, c2, d2⟩ := both_char n
  obtain ⟨a3, e3, c3, d3⟩ := both_symbol n
  obtain ⟨a4, e4, c4, d4⟩ := both_prim n
  have C1 := Box.mk c1
  have C2 := Box.mk c2
  have C3 := Box.mk c3
  have C4 := Box.mk c4
  have D1 := Box.mk d1
  have D2 := Box.mk d2
  have D3 := Box.mk d3
  have D4 := Box.mk d4
  clear c1 c2 c3 c4 d1 d2 d3 d4
  have hc := Box.mk (show (w.alloc (.cells #[.int .i64 n] 3)).cell? ⟨w.heap.size, 0, none⟩ = some (.int .i64 n) by simp)
  have hb : Box (Below w.heap.size w (w.alloc (.cells #[.int .i64 n] 3))) := ⟨(Below.refl _ _).alloc (Nat.le_refl _) _⟩
  go_enter Try.func7, Try.ntmps7
  go_wp2_with (first
    | (go_at_call 23; refine (C1.out _).mono ?_; rintro e w' ⟨rfl, rfl⟩)
    | (go_at_call 24; refine (C2.out _).mono ?_; rintro e w' ⟨rfl, rfl⟩)
    | (go_at_call 25; refine (C3.out _).mono ?_; rintro e w' ⟨rfl, rfl⟩)
    | (go_at_call 26; refine (C4.out _).mono ?_; rintro e w' ⟨rfl, rfl⟩)
    | (go_at_call 11; refine (awake01 _).mono ?_; rintro e w' ⟨rfl, rfl⟩))
  refine (D1.out _ _ hc.out).mono ?_
  rintro e w1 ⟨rfl, k1, rfl⟩
  go_wp2_with fail
  refine (D2.out _ _ (by exact hc.out)).mono ?_
  rintro e w1 ⟨rfl, k2, rfl⟩
  go_wp2_with fail
  refine (D3.out _ _ (by exact hc.out)).mono ?_
  rintro e w1 ⟨rfl, k3, rfl⟩
  go_wp2_with fail
  refine (D4.out _ _ (by exact hc.out)).mono ?_
  rintro e w1 ⟨rfl, k4, rfl⟩
  go_wp2_with fail
  go_ret
  exact ⟨rfl, hb.out.os, hb.out.tape, hb.out.output, hb.out.size, hb.out.block⟩

end Go.Proofs.Ytpbiljnffekioaa
