/- The acts' bytes; script.Print, walked. -/
import Derived.Test.YtljmfiegkefpoaaScript9
namespace Go.Proofs.Ytljmfiegkefpoaa
set_option linter.unusedVariables false
set_option linter.unusedSimpArgs false
open Go.RowKit

/-- The bytes of acts; none: they can't be written. -/
def encAll : List ActI → Option ByteArray
  | [] => some ⟨#[]⟩
  | a :: l => match encOf a, encAll l with
    | some b, some c => some (b ++ c)
    | _, _ => none

theorem encAll_none {l : List ActI} {a : ActI} (h : a ∈ l) (ha : encOf a = none) : encAll l = none := by
  induction l with
  | nil => cases h
  | cons x l ih =>
    rcases List.mem_cons.1 h with rfl | h
    · simp [encAll, ha]
    · simp only [encAll, ih h]
      cases encOf x <;> rfl
theorem encAll_snoc {l : List ActI} {a : ActI} {x b : ByteArray} (h : encAll l = some x) (ha : encOf a = some b) : encAll (l ++ [a]) = some (x ++ b) := by
  induction l generalizing x with
  | nil =>
    simp only [encAll, Option.some.injEq] at h
    subst h
    simp only [List.nil_append, encAll, ha, Option.some.injEq]
    apply ByteArray.ext
    simp
  | cons y l ih =>
    simp only [encAll] at h
    cases hy : encOf y with
    | none => simp [hy] at h
    | some c =>
      cases hl : encAll l with
      | none => simp [hy, hl] at h
      | some d =>
        simp only [hy, hl, Option.some.injEq] at h
        subst h
        simp only [List.cons_append, encAll, hy, ih hl, ByteArray.append_assoc]
theorem encOf_size {a : ActI} {b : ByteArray} (h : encOf a = some b) : 1 ≤ b.size ∧ b.size ≤ 257 := by
  obtain ⟨k, n, t⟩ := a
  unfold encOf at h
  simp only at h
  repeat' split at h
  all_goals first
    | (cases h; done)
    | (simp only [Option.some.injEq] at h
       subst h
       first
         | (show 1 ≤ (#[1, UInt8.ofNat t.size] ++ t.data).size ∧ (#[1, UInt8.ofNat t.size] ++ t.data).size ≤ 257
            rw [Array.size_append]
            show 1 ≤ 2 + t.size ∧ 2 + t.size ≤ 257
            omega)
         | (constructor <;> decide)
         | (exact ⟨by show 1 ≤ Array.size _; simp, by show Array.size _ ≤ 257; simp⟩))
theorem strCells_append (a b : ByteArray) : Go.Lib.strCells (a ++ b) = Go.Lib.strCells a ++ Go.Lib.strCells b := by
  simp [Go.Lib.strCells]
theorem take_snoc {l : List ActI} {k : Nat} (h : k < l.length) : l.take (k + 1) = l.take k ++ [l.getD k noAct] := by
  rw [List.take_add_one, List.getElem?_eq_getElem h]
  simp [List.getD, h]
theorem mem_getD {l : List ActI} {k : Nat} (h : k < l.length) : l.getD k noAct ∈ l := by
  simp [List.getD, h]

theorem nil_to_string (w : World) : (Conv.bytesToString (.slice none 0 0)).run Try.prog w = .ok (.string ⟨#[]⟩) w := by
  simp [Conv.bytesToString, loadCells]
  rfl
theorem str_of_row {w : World} {base : Nat} {v : Value} {b : ByteArray} (h : w.ownsRow base 5 1 v b.size (Go.Lib.strCells b)) :
    (convert 79 9 v).run Try.prog w = .ok (.string b) w := by
  rcases h.2 with ⟨rfl, h0⟩ | ⟨g, cap, cur, rfl, hb, hg, hn, hm, hs, ht⟩
  · rw [run_convert_bytes_string w 79 9 5 none 0 0 Try.underlying79 Try.underlying5 Try.underlying9, nil_to_string]
    have : b = ByteArray.empty := by simpa using h0
    rw [this]
    rfl
  · have hl : b.size = b.data.toList.length := by simp
    have h1 := run_convert_bytes_back (P := Try.prog) w 79 9 5 ⟨g, 0, none⟩ cap b.data.toList Try.underlying79 Try.underlying5 Try.underlying9 (fun j hj => h.cells (g := g) rfl j _ (by simp [Go.Lib.strCells] at hj ⊢; simp [hj]))
    rw [← hl] at h1
    simpa using h1

/-- What Print answers. -/
def printS (l : List ActI) : ByteArray := match encAll l with
  | none => ⟨#[]⟩
  | some b => if 16384 < b.size then ⟨#[]⟩ else b
def printE (l : List ActI) : Int := match encAll l with
  | none => 2
  | some b => if 16384 < b.size then 14 else 0
theorem print_none {l : List ActI} (h : encAll l = none) : printS l = ⟨#[]⟩ ∧ printE l = 2 := by simp [printS, printE, h]
theorem print_long {l : List ActI} {b : ByteArray} (h : encAll l = some b) (hb : 16384 < b.size) : printS l = ⟨#[]⟩ ∧ printE l = 14 := by simp [printS, printE, h, hb]
theorem print_some {l : List ActI} {b : ByteArray} (h : encAll l = some b) (hb : ¬ 16384 < b.size) : printS l = b ∧ printE l = 0 := by
  unfold printS printE
  rw [h]
  simp only
  rw [if_neg hb, if_neg hb]
  exact ⟨rfl, rfl⟩

set_option maxRecDepth 100000 in
set_option maxHeartbeats 8000000 in
theorem print_is {l : List ActI} {u : Value} {w : World} (hu : IsActs w u l) (hl : l.length ≤ 8192) (ht : ∀ a ∈ l, a.2.2.size ≤ 9223372036854775807) :
    Calls Try.prog 31 #[u] w fun e w' => e = .returned (.tuple #[.string (printS l), errV (printE l)]) ∧ Keeps (fun _ => False) w w' := by
  obtain ⟨i0, hi0, hz0, hz1, hz2⟩ := info_parts info_u8
  have Hi := Box.mk (And.intro hi0 (And.intro hz0 (And.intro hz1 hz2)))
  clear hi0 hz0 hz1 hz2
  obtain ⟨a, cp, rfl, -⟩ := hu.form
  have HU := Box.mk hu
  have HT := Box.mk ht
  clear hu ht
  obtain ⟨n, hn⟩ : ∃ n, l.length = n := ⟨_, rfl⟩
  have Hn := Box.mk hn
  rw [hn] at hl ⊢
  clear hn
  go_enter Try.func31, Try.ntmps31
  go_wp2_with fail
  have HK := Box.mk (Keeps.refl (fun _ => False) w)
  have Hown : Box (w.ownsRow w.heap.size 5 1 (.slice none 0 0) (⟨#[]⟩ : ByteArray).size (Go.Lib.strCells ⟨#[]⟩)) := ⟨World.ownsRow_nil _ _ _ _⟩
  go_loopw [4, 11] (fun v i wr => ∃ (k : Nat) (out : ByteArray), k ≤ n ∧ i = .int .i64 k ∧ Box (encAll (l.take k) = some out) ∧ out.size ≤ 257 * k ∧ Box (wr.ownsRow w.heap.size 5 1 v out.size (Go.Lib.strCells out)) ∧ Box (Keeps (fun _ => False) w wr)) (fun _ i _ => n - (intOf i).toNat)
  case atStart => exact ⟨0, ⟨#[]⟩, Nat.zero_le _, rfl, ⟨rfl⟩, Nat.zero_le _, Hown, HK⟩
  case round =>
    clear Hown HK
    obtain ⟨k, out, hk, rfl, HE, hos, Hown, K⟩ := hrel
    by_cases hkn : k < n
    · obtain ⟨ub, uo, rfl, hub, u0, u1, u2⟩ := (HU.out.keeps0 K.out).cells _ _ _ rfl k (by rw [Hn.out]; exact hkn)
      have hk0 : (0 : Int) ≤ (k : Int) := by omega
      have hk1 : (k : Int) < (n : Int) := by omega
      have htk := HT.out _ (mem_getD (l := l) (k := k) (by rw [Hn.out]; exact hkn))
      have htake := take_snoc (l := l) (k := k) (by rw [Hn.out]; exact hkn)
      have hmem := mem_getD (l := l) (k := k) (by rw [Hn.out]; exact hkn)
      generalize hx : l.getD k noAct = x at *
      obtain ⟨xk, xn, xt⟩ := x
      have Hm := Box.mk hmem
      have Htk := Box.mk htake
      clear hmem htake hx
      simp only at u0 u1 u2 htk
      go_wp2_with fail
      refine (bytes_is xk xn xt _ htk).mono ?_
      rintro e w1 ⟨⟨v, ok, rfl, hno, hyes⟩, k1⟩
      have hws := K.out.size
      have hs1 := k1.size
      simp at hs1
      have K1 := Box.mk ((K.out.alloc (.cells #[.int .i64 xk, .int .i64 xn, .string xt] 72)).trans k1)
      have Hown1 := Box.mk (k1.own (Hown.out.alloc _) (fun _ _ h => h))
      cases hx : encOf (xk, xn, xt) with
      | none =>
        have HN := Box.mk (encAll_none Hm.out hx)
        rw [hno hx]
        clear hno hyes hx k1 Hown K Hown1
        go_wp2_with fail
        exact bodyPost_ret (v := .tuple #[.string ⟨#[]⟩, .iface 40 (.int .i64 2)]) (by simp [results, Try.results31, go_sem]) rfl ⟨by rw [(print_none HN.out).1, (print_none HN.out).2]; rfl, K1.out⟩
      | some b =>
        obtain ⟨rfl, hb⟩ := hyes b hx
        obtain ⟨hb1, hb2⟩ := encOf_size hx
        have HE2 : Box (encAll (l.take (k + 1)) = some (out ++ b)) := ⟨by rw [Htk.out]; exact encAll_snoc HE.out hx⟩
        obtain ⟨g, cap, rfl⟩ : ∃ g cap, v = .slice (some ⟨g, 0, none⟩) b.size cap := by
          rcases hb.2 with ⟨_, h⟩ | ⟨g, cap, cur, h, _⟩
          · omega
          · exact ⟨_, _, h⟩
        have Hc := Box.mk (hb.cells (g := g) rfl)
        obtain ⟨os, hos2⟩ : ∃ os, out.size = os := ⟨_, rfl⟩
        obtain ⟨m, hm⟩ : ∃ m, b.size = m := ⟨_, rfl⟩
        have Hos := Box.mk hos2
        have Hm2 := Box.mk hm
        have hlb := Go.Lib.strCells_length b
        rw [hm] at hb1 hb2 hlb ⊢
        have Hown2 : Box (w1.ownsRow w.heap.size 5 1 u4 os (Go.Lib.strCells out)) := ⟨by rw [← hos2]; exact Hown1.out⟩
        rw [hos2] at hos
        clear hno hyes hx k1 Hown K Hown1 hb hos2 hm
        go_wp2_with (at_builtin; refine wpList_append_own _ rfl _ _ 79 rfl w.heap.size 5 i0 _ 1 1 Try.underlying79 Hi.out.1 Hi.out.2.1 Hi.out.2.2.1 Hi.out.2.2.2 rfl (by decide) u4 os _ rfl Hown2.out ⟨g, 0, none⟩ m cap (Go.Lib.strCells b) rfl (by rw [hlb, Nat.mul_one]) ?c1 ?c2 ?c3 ?c4 ?c5 ?c6)
        case c1 => exact Hc.out
        case c2 => exact Go.Lib.strCells_oneCell b
        case c3 => unfold maxLen; omega
        case c4 => omega
        case c5 => omega
        case c6 =>
          intro v' w6 hown6 hgrow _
          have hl6 : (out ++ b).size = os + m := by rw [ByteArray.size_append, Hos.out, Hm2.out]
          have Hown6 : Box (w6.ownsRow w.heap.size 5 1 v' (out ++ b).size (Go.Lib.strCells (out ++ b))) := ⟨by rw [hl6, strCells_append]; exact hown6⟩
          have k6 : Keeps (fun z => u4.ownBlock = some z) w1 w6 := (Keeps.refl (fun z => u4.ownBlock = some z) w1).grown hgrow (fun k hk _ => hk)
          have hub : ∀ z, u4.ownBlock = some z → w.heap.size ≤ z := fun z hz => (Hown2.out.lt z hz).1
          have K6 := Box.mk (K1.out.trans' k6 (by intro i hi h; have := hub _ h; omega))
          have hl7 : (out ++ b).size ≤ 257 * (k + 1) := by omega
          have Hl7 := Box.mk hl7
          clear hown6 hgrow k6 hl6 hub Hown2 K1 hlb Hos Hm2 hl7
          go_wp2_with fail
          go_roundw
          case rel => exact ⟨k + 1, out ++ b, by omega, by go_num, HE2, Hl7.out, Hown6, K6⟩
          case measure => simp [intOf]; omega
    · have HA : Box (encAll l = some out) := ⟨by have h := HE.out; rw [List.take_of_length_le (by rw [Hn.out]; omega)] at h; exact h⟩
      obtain ⟨va, vn, vc, rfl⟩ : ∃ va vn vc, u4 = .slice va vn vc := by
        rcases Hown.out.2 with ⟨h, _⟩ | ⟨g', cap, cur, h, _⟩
        · exact ⟨_, _, _, h⟩
        · exact ⟨_, _, _, h⟩
      have hcv := str_of_row Hown.out
      have hvn : vn = out.size := by
        rcases Hown.out.2 with ⟨h, h0⟩ | ⟨g', cap, cur, h, _⟩
        · injection h with h1 h2 h3; omega
        · injection h with h1 h2 h3
      subst hvn
      by_cases hlong : 16384 < out.size
      · have hlong2 : (16384 : Int) < (out.size : Int) := by omega
        go_wp2_with fail
        exact bodyPost_ret (v := .tuple #[.string ⟨#[]⟩, .iface 40 (.int .i64 14)]) (by simp [results, Try.results31, go_sem]) rfl ⟨by rw [(print_long HA.out hlong).1, (print_long HA.out hlong).2]; rfl, K.out⟩
      · have hlong2 : ¬ (16384 : Int) < (out.size : Int) := by omega
        go_wp2_with fail
        exact bodyPost_ret (v := .tuple #[.string out, .nilIface]) (by simp [results, Try.results31, go_sem]) rfl ⟨by rw [(print_some HA.out hlong).1, (print_some HA.out hlong).2]; rfl, K.out⟩

end Go.Proofs.Ytljmfiegkefpoaa
