/- code.Text by its contract. -/
import Derived.Test.YtiimojpaeccajaaGreatDoorTxt2
import Derived.Test.YtiimojpaeccajaaGreatDoorChk
namespace Go.Proofs.YtiimojpaeccajaaGreatDoor
set_option linter.unusedVariables false
set_option linter.unusedSimpArgs false
open Go.RowKit Go.Proofs.YtiimojpaeccajaaGreatDoorW.PrintWords Go.Proofs.YtiimojpaeccajaaGreatDoorW.PrintLast Go.Proofs.YtiimojpaeccajaaGreatDoorW.PrintMore

/-- An instruction's line. -/
def lineB (i : Nat) (x : Ins) (T : ByteArray) : ByteArray := numB i ++ ⟨#[58, 32]⟩ ++ ⟨wordA x.f0.toNat⟩ ++ insT x T ++ ⟨#[10]⟩
/-- The first j lines. -/
def linesL (l : List Ins) (T : Nat → ByteArray) : Nat → List UInt8
  | 0 => []
  | j + 1 => linesL l T j ++ (lineB j (l.getD j insZ) (T j)).data.toList
theorem wordA_size (k : Nat) : (wordA k).size ≤ 7 := by
  unfold wordA
  split <;> decide
theorem insT_size {w : World} {x : Ins} {T : ByteArray} (h : TxOk w x T) : (insT x T).size ≤ 1000001 := by
  have h1 := h.sz
  have e1 : (⟨#[32]⟩ : ByteArray).size = 1 := rfl
  unfold insT
  split
  · split
    · split <;> decide
    · rw [ByteArray.size_append, e1]; omega
  · split
    · simp only [ByteArray.size_append, numB_size, e1]; omega
    · split
      · rw [ByteArray.size_append, e1]; omega
      · split
        · decide
        · rw [ByteArray.size_append, numB_size, e1]; omega
theorem lineB_size {w : World} {i : Nat} {x : Ins} {T : ByteArray} (h : TxOk w x T) (hi : (numL i).length ≤ 1000) : (lineB i x T).size ≤ 1002000 := by
  have h1 := insT_size h
  have h2 := wordA_size x.f0.toNat
  unfold lineB
  simp only [ByteArray.size_append, numB_size]
  have e1 : (⟨#[58, 32]⟩ : ByteArray).size = 2 := rfl
  have e2 : (⟨#[10]⟩ : ByteArray).size = 1 := rfl
  have e3 : (⟨wordA x.f0.toNat⟩ : ByteArray).size = (wordA x.f0.toNat).size := rfl
  rw [e1, e2, e3]
  omega

set_option maxHeartbeats 2000000 in
set_option maxRecDepth 100000 in
theorem Text_is (l : List Ins) (A : Option Addr) (c : Nat) (w : World) (T : Nat → ByteArray) (hC : Kd.C insK w A l.length l) (hc : l.length ≤ c) (hs : ∀ k, k < l.length → dsz (l.getD k insZ).f4 ≤ 4000) (hb : l.length ≤ 9223372036854775807) (hchk : chkB l = true)
    (hT : ∀ k, k < l.length → TxOk w (l.getD k insZ) (T k) ∧ NumOk w k ∧ (numL k).length ≤ 1000) :
    Calls Tryz.prog 15 #[.slice A l.length c] w fun e w' => e = .returned (.tuple #[.string ⟨(linesL l T l.length).toArray⟩, .nilIface]) ∧ Below w.heap.size w w' := by
  have HCk := check_is l A c w hC hc hs hb
  rw [hchk, if_pos rfl] at HCk
  obtain ⟨n, hn⟩ : ∃ n, l.length = n := ⟨_, rfl⟩
  have hlen : 1 ≤ n ∧ n ≤ 8000 := by
    have h2 := hchk
    unfold chkB at h2
    simp [hn] at h2
    omega
  have hall : ∀ k, k < n → insB n (l.getD k insZ) = true := by
    have h2 := hchk
    unfold chkB at h2
    simp only [Bool.and_eq_true] at h2
    have := (all_getDI _ _).1 h2.2
    rw [hn] at this
    exact this
  obtain ⟨hn1, hn2⟩ := hlen
  obtain ⟨lb, lo, hA, hlb, -⟩ := isI_elem hC (i := 0) (by omega)
  subst hA
  have HI : Box (∀ k, k < n → IsI w lb (lo + k * 8) (l.getD k insZ)) := ⟨fun k hk => by
    obtain ⟨b', o', he, _, hI⟩ := isI_elem hC (i := k) (by omega)
    simp only [Option.some.injEq, Addr.mk.injEq, and_true] at he
    obtain ⟨rfl, rfl⟩ := he
    exact hI⟩
  have Hall := Box.mk hall
  have HT := Box.mk hT
  have Hn := Box.mk hn
  have HCk := Box.mk HCk
  rw [hn] at HCk HT hc ⊢
  obtain ⟨res, hres⟩ : ∃ res, (⟨(linesL l T n).toArray⟩ : ByteArray) = res := ⟨_, rfl⟩
  have Hres := Box.mk hres
  rw [hres]
  clear hC hs hchk hall hn hb hT hres
  go_enter Tryz.func15, Tryz.ntmps15
  go_wp2_with fail
  refine HCk.out.mono ?_
  rintro e w1 ⟨rfl, k1⟩
  have K1 := Box.mk k1
  have hI0 : Box (IsB 70 [] w1.heap.size w1.heap.size [] (w1.alloc (.cells #[.pointer none, .slice none 0 0] 70))) :=
    ⟨⟨Nat.le_refl _, .pointer none, .slice none 0 0, .inl rfl, heap_alloc_new _ _, World.ownsRow_nil _ _ _ _⟩⟩
  have hK0 : Box (Below w1.heap.size w1 (w1.alloc (.cells #[.pointer none, .slice none 0 0] 70))) := ⟨(Below.refl _ w1).alloc (Nat.le_refl _) _⟩
  clear k1 HCk
  unfold errV
  simp only [if_true]
  go_wp2_with fail
  go_loopw [14] (fun i wr => ∃ (j : Nat), j ≤ n ∧ i = .int .i64 j ∧ Box (IsB 70 [] w1.heap.size w1.heap.size (linesL l T j) wr) ∧ Box (Below w1.heap.size w1 wr) ∧ Box ((linesL l T j).length ≤ j * 1002000)) (fun i _ => n - (intOf i).toNat)
  case atStart => exact ⟨0, Nat.zero_le _, rfl, hI0, hK0, ⟨by simp [linesL]⟩⟩
  case round =>
    clear hI0 hK0
    obtain ⟨j, hj, rfl, HB, K, HL⟩ := hrel
    by_cases hjn : j < n
    · have hj0 : (0 : Int) ≤ (j : Int) := by omega
      obtain ⟨x, hx⟩ : ∃ x, l.getD j insZ = x := ⟨_, rfl⟩
      have hk : Below w.heap.size w wr := K1.out.trans (Below.mono K.out K1.out.size)
      have hIx := (HI.out j hjn).below hk
      have hBx := Hall.out j hjn
      obtain ⟨hTx, hNj, hLj⟩ := HT.out j hjn
      rw [hx] at hIx hBx hTx
      obtain ⟨op, ho1, ho2, hop⟩ := insB_op hBx
      have c0 := hIx.ex.1
      rw [hop] at c0
      have hline : Box (linesL l T (j + 1) = linesL l T j ++ (lineB j x (T j)).data.toList) := ⟨by rw [← hx]; rfl⟩
      have hls := lineB_size (i := j) hTx hLj
      have hlen : Box ((linesL l T (j + 1)).length ≤ (j + 1) * 1002000) := ⟨by
        rw [hline.out, List.length_append]
        have : (lineB j x (T j)).data.toList.length = (lineB j x (T j)).size := by simp
        have := HL.out
        omega⟩
      have HF := Box.mk (fixText_is j wr.drew ((hNj.below hk).below (show Below wr.heap.size wr wr.drew from Below.drew (Below.refl _ wr))))
      have HTx := Box.mk (fun (W : World) (hW : Below wr.heap.size wr W) => text_is x (T j) W lb (lo + j * 8) (hIx.below hW) ((hTx.below hk).below hW) hBx)
      have HWs := Box.mk (fun (W : World) (hW : Below wr.heap.size wr W) => wstr_is (T := 70) (rest := []) bt_builder (HB.out.below hW) (lineB j x (T j)) (by have := HL.out; omega) (Nat.le_trans K.out.size hW.size))
      have hsz2 := insT_size hTx
      have hsw := wordA_size op
      obtain ⟨it, hit⟩ : ∃ it, insT x (T j) = it := ⟨_, rfl⟩
      have hlb : lineB j x (T j) = numB j ++ ⟨#[58, 32]⟩ ++ ⟨wordA op⟩ ++ it ++ ⟨#[10]⟩ := by unfold lineB; rw [hit, hop]; rfl
      have Hleq : Box (linesL l T (j + 1) = linesL l T j ++ (numB j ++ ⟨#[58, 32]⟩ ++ ⟨wordA op⟩ ++ it ++ ⟨#[10]⟩).data.toList) := ⟨by rw [hline.out, hlb]⟩
      rw [hlb] at HWs
      rw [hit] at HTx hsz2
      have e1 : (⟨#[58, 32]⟩ : ByteArray).size = 2 := rfl
      have e2 : (⟨#[10]⟩ : ByteArray).size = 1 := rfl
      have e3 : (⟨wordA op⟩ : ByteArray).size = (wordA op).size := rfl
      have hcat1 := cat_is (numB j) ⟨#[58, 32]⟩ (by rw [numB_size]; omega) (by decide)
      have hcat2 := cat_is (numB j ++ ⟨#[58, 32]⟩) ⟨wordA op⟩ (by rw [ByteArray.size_append, numB_size, e1]; omega) (by rw [e3]; omega)
      have hcat3 := cat_is (numB j ++ ⟨#[58, 32]⟩ ++ ⟨wordA op⟩) it (by rw [ByteArray.size_append, ByteArray.size_append, numB_size, e1, e3]; omega) (by omega)
      have hcat4 := cat_is (numB j ++ ⟨#[58, 32]⟩ ++ ⟨wordA op⟩ ++ it) ⟨#[10]⟩ (by rw [ByteArray.size_append, ByteArray.size_append, ByteArray.size_append, numB_size, e1, e3]; omega) (by decide)
      obtain ⟨nj, hnj⟩ : ∃ nj, numB (j : Int) = nj := ⟨_, rfl⟩
      obtain ⟨wo, hwo⟩ : ∃ wo, (⟨wordA op⟩ : ByteArray) = wo := ⟨_, rfl⟩
      have HWo := Box.mk (fun W => word_is op ho1 ho2 W)
      unfold numB at hnj hcat1 hcat2 hcat3 hcat4 HWs Hleq
      simp only [hnj, hwo] at HF HWo HWs hcat1 hcat2 hcat3 hcat4 Hleq
      have hjo : lo + j * 8 + 0 = lo + j * 8 := rfl
      clear hline hls hIx hBx hTx hNj hLj hnj hwo hlb hit hop hk hsz2 hsw e1 e2 e3 hjo
      go_wp2_with fail
      go_region_held3 (fun w' => w'.cell? ⟨lb, lo + j * 8, none⟩ = some (.int .i64 (op : Int))) (first | exact c0 | exact cell_below c0 kj | exact cell_below c0 k5 | exact g3 | go_keep) (first | (go_at_call 43; refine HF.out.mono ?_; rintro e w3 ⟨rfl, k3⟩; have kj : Below wr.heap.size wr w3 := Below.trans (Below.drew (Below.refl _ wr)) k3) | (go_at_call 44; refine (HWo.out _).mono ?_; rintro e w3' ⟨rfl, rfl⟩) | (go_at_call 45; refine (HTx.out _ kj).mono ?_; rintro e w4 ⟨rfl, k4⟩; have k5 : Below wr.heap.size wr w4 := kj.trans (k4.mono kj.size)) | (go_at_call 42; refine (HWs.out _ k5).mono ?_; rintro e w6 ⟨rfl, hB6, k6⟩; have k7 : Below w1.heap.size w1 w6 := (K.out.trans (Below.mono k5 K.out.size)).trans k6; have g3 : w6.cell? ⟨lb, lo + j * 8, none⟩ = some (.int .i64 (op : Int)) := cell_lt c0 (Below.trans (Below.mono k5 K.out.size) k6) (by show lb < w1.heap.size; have := K1.out.size; omega)))
      have HB6 : Box (IsB 70 [] w1.heap.size w1.heap.size (linesL l T (j + 1)) w6) := ⟨by rw [Hleq.out]; exact hB6⟩
      have K7 := Box.mk k7
      clear hB6 k7 k6 k5 k4 kj k3 g3 c0 HF HTx HWs HWo hcat1 hcat2 hcat3 hcat4 HB K HL Hleq
      go_wp2_with fail
      go_roundw
      case rel => exact ⟨j + 1, by omega, by go_num, HB6, K7, hlen⟩
      case measure => simp [intOf]; omega
    · have hjn2 : j = n := by omega
      subst hjn2
      have hne : linesL l T j ≠ [] := by
        obtain ⟨m, rfl⟩ : ∃ m, j = m + 1 := ⟨j - 1, by omega⟩
        rw [linesL, lineB]
        simp
      have HS := Box.mk (bstr_is HB.out hne)
      rw [Hres.out] at HS
      clear hne
      go_wp2_with fail
      refine HS.out.mono ?_
      rintro e w3 ⟨rfl, k3⟩
      have K3 := Box.mk (K1.out.trans (Below.mono (K.out.trans k3) K1.out.size))
      clear k3
      go_wp2_with fail
      go_ret2
      exact ⟨rfl, K3.out⟩

end Go.Proofs.YtiimojpaeccajaaGreatDoor
