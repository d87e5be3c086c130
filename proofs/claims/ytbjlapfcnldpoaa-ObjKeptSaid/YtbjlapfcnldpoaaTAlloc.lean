/- The heap's Alloc by its contract. -/
import Derived.Test.YtbjlapfcnldpoaaTNew
namespace Go.Proofs.Ytbjlapfcnldpoaa
set_option linter.unusedVariables false
set_option linter.unusedSimpArgs false
open Go.RowKit

/-- What is behind the increments: a free cell is taken. -/
def ttake (s1 : TH) (form tag n : Nat) : Option (TH × Nat) := do
  req (lget s1 (tcls n) 0 > 0)
  req (lget s1 (tcls n) 0 < 1000000)
  req (lget s1 (tcls n) 1 < 1000000)
  let b ← oBehind s1.W (thead (tcls n) 0)
  let s := lset s1 (tcls n) 0 (lget s1 (tcls n) 0 - 1)
  let s := lset s (tcls n) 1 (lget s (tcls n) 1 + 1)
  let W ← oRemove s.W b
  let W ← oInsert W (thead (tcls n) 1) b
  let W ← wrt W b (hdr form tag s.now n)
  let W ← fillF W b (if form = 2 then 0 else 12) n 0
  return ({ s with W := W }, 8 * b + 1)
theorem talloc_take {s s' : TH} {form tag n x : Nat} (h : talloc s form tag n = some (s', x)) : ∃ s1, tincr s.k s = some s1 ∧ ttake s1 form tag n = some (s', x) := by
  unfold talloc at h
  simp only [Option.bind_eq_bind, Option.bind_eq_some_iff] at h
  obtain ⟨s1, h1, h2⟩ := h
  refine ⟨s1, h1, ?_⟩
  unfold ttake
  simp only [Option.bind_eq_bind, Option.bind_eq_some_iff]
  exact h2
theorem talloc_of {s s1 s' : TH} {form tag n x : Nat} (h1 : tincr s.k s = some s1) (h2 : ttake s1 form tag n = some (s', x)) : talloc s form tag n = some (s', x) := by
  unfold talloc
  unfold ttake at h2
  simp only [Option.bind_eq_bind, Option.bind_eq_some_iff] at h2 ⊢
  exact ⟨s1, h1, h2⟩
/-- The lists' counts when a cell is taken. -/
def took (s1 : TH) (c : Nat) : TH := lset (lset s1 c 0 (lget s1 c 0 - 1)) c 1 (lget s1 c 1 + 1)
theorem lget_lset_ne {s : TH} {c l l' x : Nat} (h : l ≠ l') : lget (lset s c l x) c l' = lget s c l' := by
  unfold lget lset
  simp only
  simp only [List.getD]
  rw [List.getElem?_set_ne (by omega)]
theorem ttake_parts {s1 s' : TH} {form tag n x : Nat} (h : ttake s1 form tag n = some (s', x)) : ∃ q W1 W2 W3 W4, 0 < lget s1 (tcls n) 0 ∧ lget s1 (tcls n) 0 < 1000000 ∧ lget s1 (tcls n) 1 < 1000000 ∧
    oBehind s1.W (thead (tcls n) 0) = some q ∧ oRemove s1.W q = some W1 ∧ oInsert W1 (thead (tcls n) 1) q = some W2 ∧ wrt W2 q (hdr form tag s1.now n) = some W3 ∧ fillF W3 q (if form = 2 then 0 else 12) n 0 = some W4 ∧
    s' = { took s1 (tcls n) with W := W4 } ∧ x = 8 * q + 1 := by
  unfold ttake at h
  simp only [Option.bind_eq_bind, Option.bind_eq_some_iff] at h
  obtain ⟨_, h1, _, h2, _, h3, q, h4, W1, h5, W2, h6, W3, h7, W4, h8, h9⟩ := h
  simp only [Option.pure_def, Option.some.injEq, Prod.mk.injEq] at h9
  obtain ⟨rfl, rfl⟩ := h9
  refine ⟨q, W1, W2, W3, W4, req_parts h1, req_parts h2, req_parts h3, h4, h5, h6, h7, h8, ?_, rfl⟩
  unfold took
  rw [lget_lset_ne (by decide)]
theorem fillF_step {W W' : List Nat} {q x m i : Nat} (h : fillF W q x (m + 1) i = some W') : ∃ W1, wrt W (q + 3 + i) x = some W1 ∧ fillF W1 q x m (i + 1) = some W' := by
  simpa only [fillF, Option.bind_eq_some_iff] using h
theorem tcls_lt (n : Nat) : tcls n < 4 := by unfold tcls; split <;> (try split) <;> (try split) <;> omega

set_option maxRecDepth 100000 in
set_option maxHeartbeats 4000000 in
theorem alloc_f {hb b g form tag n x : Nat} {s s' : TH} {w : World} (hI : IsTH w hb b g s) (hs : talloc s form tag n = some (s', x)) (hnow : s.now ≤ 1) (hkk : s.k ≤ 64) (hf1 : 1 ≤ form) (hf2 : form ≤ 2) (htag : tag ≤ 15) (hn : n ≤ 127) :
    Calls Try.prog 21 #[.pointer (some ⟨hb, 0, none⟩), .int .i64 form, .int .i64 tag, .int .i64 n] w fun e w' => e = .returned (.tuple #[.int .u64 x, .nilIface]) ∧ IsTH w' hb b g s' ∧ Keeps (foot3 hb b g) w w' := by
  obtain ⟨s1, hs1, hs2⟩ := talloc_take hs
  obtain ⟨q, W1, W2, W3, W4, hpos, hbig0, hbig1, hbe, hre, hin, hwr, hfi, rfl, rfl⟩ := ttake_parts hs2
  have hqb := (obehind_parts hbe).2.2
  obtain ⟨hnow1, -⟩ := tincr_same hs1 hnow
  have hc4 := tcls_lt n
  have Hcls := Box.mk (cls_is n · hn)
  obtain ⟨c, hc⟩ : ∃ c, tcls n = c := ⟨_, rfl⟩
  rw [hc] at hpos hbig0 hbig1 hbe hin hc4 Hcls ⊢
  obtain ⟨n0, hn0⟩ : ∃ m, lget s1 c 0 = m := ⟨_, rfl⟩
  obtain ⟨n1, hn1⟩ : ∃ m, lget s1 c 1 = m := ⟨_, rfl⟩
  rw [hn0] at hpos hbig0
  rw [hn1] at hbig1
  obtain ⟨m0, hm0⟩ : ∃ m, n0 - 1 = m := ⟨_, rfl⟩
  have hmi : (n0 : Int) - 1 = (m0 : Int) := by omega
  have hne0 : ((n0 : Int) == 0) = false := by rw [beq_eq_false_iff_ne]; omega
  obtain ⟨nw, hnw⟩ : ∃ x, s1.now = x := ⟨_, rfl⟩
  rw [hnw] at hwr hnow1
  obtain ⟨k, hk⟩ : ∃ x, s.k = x := ⟨_, rfl⟩
  rw [hk] at hs1 hkk
  obtain ⟨p0, hp0⟩ : ∃ p, thead c 0 = p := ⟨_, rfl⟩
  obtain ⟨p1, hp1⟩ : ∃ p, thead c 1 = p := ⟨_, rfl⟩
  have hd0 : ∀ W, Calls Try.prog 70 #[.int .i64 c, .int .i64 0] W fun e w' => e = .returned (.int .i64 p0) ∧ w' = W := fun W => by rw [← hp0]; exact head_is c 0 W (by omega) (by omega)
  have hd1 : ∀ W, Calls Try.prog 70 #[.int .i64 c, .int .i64 1] W fun e w' => e = .returned (.int .i64 p1) ∧ w' = W := fun W => by rw [← hp1]; exact head_is c 1 W (by omega) (by omega)
  rw [hp0] at hbe
  rw [hp1] at hin
  obtain ⟨hx, hhx⟩ : ∃ x, hdr form tag nw n = x := ⟨_, rfl⟩
  have Hword := Box.mk (hword_is form tag nw n · (by omega) (by omega) (by omega) (by omega))
  rw [hhx] at hwr Hword
  obtain ⟨hwl, rfl⟩ := wrt_parts hwr
  have Hd := Box.mk (And.intro hd0 hd1)
  have Hs1 := Box.mk hs1
  have Hbe := Box.mk hbe
  have Hre := Box.mk hre
  have Hin := Box.mk hin
  have Hwl := Box.mk hwl
  have Hfi := Box.mk hfi
  have Hn01 := Box.mk (And.intro hn0 hn1)
  have Hnow := Box.mk hnow
  have Hnw := Box.mk hnw
  have Hk := Box.mk hk
  have Hm0 := Box.mk hm0
  have Hcell : Box (∀ W, Calls Try.prog 75 #[.int .i64 q] W fun e w' => e = .returned (.tuple #[.int .u64 ((8 * q + 1 : Nat) : Int), .nilIface]) ∧ w' = W) := ⟨fun W => by
    have := cell_yes (q : Int) W (by omega) (by omega)
    rw [show wput 1 (q : Int) = ((8 * q + 1 : Nat) : Int) by unfold wput; omega] at this
    exact this⟩
  have hkc := hI.k
  rw [hk] at hkc
  have e3 : ((form : Int) == 3) = false := by rw [beq_eq_false_iff_ne]; omega
  have H := Box.mk hI
  clear hs hs1 hs2 hbe hre hin hwr hwl hfi hn0 hn1 hp0 hp1 hd0 hd1 hhx hnow hnw hk hI hm0
  obtain ⟨fill, hfill⟩ : ∃ x, (if form = 2 then 0 else 12) = x := ⟨_, rfl⟩
  rw [hfill] at Hfi
  have Hfill := Box.mk hfill
  clear hfill
  go_enter Try.func21, Try.ntmps21
  go_wp2_with fail
  refine (Hcls.out _).mono ?_
  rintro e w1 ⟨rfl, k1⟩
  have H1 := Box.mk (H.out.keeps0 k1)
  have K1 := Box.mk (k1.mono (S' := foot3 hb b g) (fun _ _ h => h.elim))
  have hkc1 := H1.out.k
  rw [Hk.out] at hkc1
  clear H k1 hkc
  clear hc
  go_wp2_with fail
  refine (incr_is H1.out Hs1.out Hnow.out (by omega)).mono ?_
  rintro e w2 ⟨rfl, hI2, k2⟩
  have H2 := Box.mk hI2
  have K2 := Box.mk (K1.out.trans k2)
  have hc0 := hI2.lists (i := 4 * c + 0) (by omega)
  rw [show s1.lists.getD (4 * c + 0) 0 = n0 from Hn01.out.1, show 10 + (4 * c + 0) = 10 + c * 4 by omega] at hc0
  have hstore := hI2.store
  have hcI0 : (0 : Int) ≤ (c : Int) := by omega
  have hcI1 : (c : Int) < 4 := by omega
  clear hI2 k2 H1 K1 hkc1 Hs1 Hnow
  go_wp2_with fail
  go_region_held3 (fun w' => w'.cell? ⟨hb, 0, none⟩ = some (.pointer (some ⟨b, 0, none⟩)) ∧ w'.cell? ⟨hb, 10 + c * 4, none⟩ = some (.int .i64 (n0 : Int))) (first | exact ⟨kj.cell hstore (by have := H2.out.ne; unfold foot; simp only; omega), kj.cell hc0 (by have := H2.out.ne; unfold foot; simp only; omega)⟩ | go_keep) (first | (go_at_call 70; refine (Hd.out.1 _).mono ?_; rintro e w3 ⟨rfl, rfl⟩) | (go_at_call 69; refine (obehind_is (w := w2.drew) (H2.out.keeps0 ((Keeps.refl (fun _ => False) w2).drew)).iw Hbe.out).mono ?_; rintro e w3 ⟨rfl, hI3, kj⟩))
  have kj' : Keeps (foot b g) w2 w3 := ⟨kj.os, kj.tape, kj.output, kj.size, kj.block⟩
  have H3 := Box.mk (H2.out.ring kj' hI3)
  have K3 := Box.mk (K2.out.trans (kj'.mono (S' := foot3 hb b g) (fun i _ h => Or.inr h)))
  clear kj kj' hI3 hstore hc0 H2 K2
  have hc0 := H3.out.lists (i := 4 * c + 0) (by omega)
  have hf0 := H3.out.frozen (10 + (4 * c + 0))
  have hput := H3.out.putList (i := 4 * c + 0) (by omega) m0
  simp only at hc0
  rw [show s1.lists.getD (4 * c + 0) 0 = n0 from Hn01.out.1] at hc0
  rw [show 10 + (4 * c + 0) = 10 + c * 4 by omega] at hc0 hf0 hput
  have H4 := Box.mk (hput.keeps0 ((Keeps.refl (fun _ => False) _).drew))
  have K4 := Box.mk (((K3.out.setCell (p := ⟨hb, 10 + c * 4, none⟩) (fun _ => Or.inl rfl) (.int .i64 (m0 : Int)))).drew)
  clear hput H3 K3
  go_wp2_with fail
  go_region
  clear hc0 hf0
  generalize (w3.setCell ⟨hb, 10 + c * 4, none⟩ (.int .i64 (m0 : Int))).drew = w4 at *
  have hc1 := H4.out.lists (i := 4 * c + 1) (by omega)
  have hf1 := H4.out.frozen (10 + (4 * c + 1))
  have hput := H4.out.putList (i := 4 * c + 1) (by omega) (n1 + 1)
  simp only at hc1
  rw [show (s1.lists.set (4 * c + 0) m0).getD (4 * c + 1) 0 = n1 by rw [← Hn01.out.2]; simp only [List.getD]; rw [List.getElem?_set_ne (by omega)]; rfl] at hc1
  rw [show 10 + (4 * c + 1) = 10 + c * 4 + 1 by omega] at hc1 hf1 hput
  rw [show ((n1 + 1 : Nat) : Int) = (n1 : Int) + 1 by omega] at hput
  have H5 := Box.mk (hput.keeps0 ((Keeps.refl (fun _ => False) _).drew))
  have K5 := Box.mk (((K4.out.setCell (p := ⟨hb, 10 + c * 4 + 1, none⟩) (fun _ => Or.inl rfl) (.int .i64 ((n1 : Int) + 1)))).drew)
  clear hput H4 K4
  go_wp2_with fail
  go_region
  clear hc1 hf1
  generalize (w4.setCell ⟨hb, 10 + c * 4 + 1, none⟩ (.int .i64 ((n1 : Int) + 1))).drew = w5 at *
  have H6 : Box (IsTH w5 hb b g (took s1 c)) := ⟨by
    have h := H5.out
    unfold took lset
    rw [Hn01.out.1, Hn01.out.2, Hm0.out]
    exact h⟩
  clear H5
  have hstore := H6.out.store
  go_wp2_with fail
  refine (oremove_is H6.out.iw Hre.out).mono ?_
  rintro e w6 ⟨rfl, hI6, k6⟩
  have H7 := Box.mk (H6.out.ring k6 hI6)
  have K7 := Box.mk (K5.out.trans (k6.mono (S' := foot3 hb b g) (fun i _ h => Or.inr h)))
  clear hI6 k6 H6 K5 hstore
  have hstore := H7.out.store
  go_wp2_with fail
  go_region_held3 (fun w' => w'.cell? ⟨hb, 0, none⟩ = some (.pointer (some ⟨b, 0, none⟩))) (first | exact kj.cell hstore (by have := H7.out.ne; unfold foot; simp only; omega) | go_keep) (first | (go_at_call 70; refine (Hd.out.2 _).mono ?_; rintro e w7 ⟨rfl, rfl⟩) | (go_at_call 72; refine (oinsert_is (w := w6.drew) (H7.out.keeps0 ((Keeps.refl (fun _ => False) w6).drew)).iw Hin.out).mono ?_; rintro e w7 ⟨rfl, hI7, kj⟩))
  have kj' : Keeps (foot b g) w6 w7 := ⟨kj.os, kj.tape, kj.output, kj.size, kj.block⟩
  have H8 := Box.mk (H7.out.ring kj' hI7)
  have K8 := Box.mk (K7.out.trans (kj'.mono (S' := foot3 hb b g) (fun i _ h => Or.inr h)))
  clear kj kj' hI7 hstore H7 K7
  have hstore := H8.out.store
  have hnowc := H8.out.now
  rw [show ({ took s1 c with W := W2 } : TH).now = nw from Hnw.out] at hnowc
  unfold hval at Hword
  go_wp2_with fail
  go_region_held3 (fun w' => w'.cell? ⟨hb, 0, none⟩ = some (.pointer (some ⟨b, 0, none⟩)) ∧ w'.cell? ⟨hb, 39, none⟩ = some (.int .i64 (nw : Int))) (first | exact ⟨k9.cell (k8.cell hstore (fun h => h)) (by have := H8.out.ne; unfold foot; simp only; omega), k9.cell (k8.cell hnowc (fun h => h)) (by have := H8.out.ne; unfold foot; simp only; omega)⟩ | exact ⟨k8.cell hstore (fun h => h), k8.cell hnowc (fun h => h)⟩ | go_keep) (first | (go_at_call 74; refine (Hword.out _).mono ?_; rintro e w8 ⟨rfl, k8⟩) | (go_at_call 73; refine (wset_is _ ((H8.out.keeps0 (show Keeps (fun _ => False) w7 _ from ⟨k8.os, k8.tape, k8.output, k8.size, k8.block⟩)).iw) Hwl.out).mono ?_; rintro e w9 ⟨rfl, hI9, k9⟩))
  have k8' : Keeps (fun _ => False) w7 w8 := ⟨k8.os, k8.tape, k8.output, k8.size, k8.block⟩
  have H9 := Box.mk ((H8.out.keeps0 k8').ring k9 hI9)
  have K9 := Box.mk (K8.out.trans ((k8'.mono (S' := foot3 hb b g) (fun _ _ h => h.elim)).trans (k9.mono (S' := foot3 hb b g) (fun i _ h => Or.inr h))))
  clear hI9 k8' k8 k9 hstore hnowc H8 K8
  go_wp2_with fail
  refine (wvoid_is _).mono ?_
  rintro e w10 ⟨rfl, rfl⟩
  by_cases h2 : form = 2
  · have e2 : ((form : Int) == 2) = true := by rw [beq_iff_eq]; omega
    have HF : Box (fill = 0) := ⟨by rw [← Hfill.out, if_pos h2]⟩
    clear h2
    have HL0 : Box (fillF (W2.set q hx) q 0 n 0 = some W4) := ⟨by have h := Hfi.out; rw [HF.out] at h; exact h⟩
    go_wp2_with fail
    go_loopw [131] (fun i wr => ∃ (j : Nat) (W' : List Nat), j ≤ n ∧ i = .int .i64 j ∧ Box (fillF W' q 0 (n - j) j = some W4) ∧ Box (IsTH wr hb b g { took s1 c with W := W' }) ∧ Box (Keeps (foot3 hb b g) w wr)) (fun i _ => n - (intOf i).toNat)
    case atStart => exact ⟨0, _, Nat.zero_le _, rfl, HL0, H9, K9⟩
    case round =>
      clear H9 K9 HL0
      obtain ⟨j, W', hj, rfl, HL, HS, K⟩ := hrel
      by_cases hjn : j < n
      · obtain ⟨W5, h1, h2⟩ := fillF_step (m := n - j - 1) (by rw [show n - j - 1 + 1 = n - j by omega]; exact HL.out)
        rw [show n - j - 1 = n - (j + 1) by omega] at h2
        obtain ⟨hlt, rfl⟩ := wrt_parts h1
        obtain ⟨z, hz⟩ : ∃ z, q + 3 + j = z := ⟨_, rfl⟩
        have hzi : (q : Int) + 3 + (j : Int) = (z : Int) := by omega
        rw [hz] at hlt h2
        have Hlt := Box.mk hlt
        have HN := Box.mk h2
        have hstore := HS.out.store
        clear h1 hlt h2 hz HL
        go_wp2_with fail
        refine (wset_is 0 HS.out.iw Hlt.out).mono ?_
        rintro e w11 ⟨rfl, hI1, k1⟩
        have HS1 : Box (IsTH w11 hb b g { took s1 c with W := W'.set z 0 }) := ⟨HS.out.ring k1 hI1⟩
        have K1 := Box.mk (K.out.trans (k1.mono (S' := foot3 hb b g) (fun i _ h => Or.inr h)))
        clear hI1 k1 HS K hstore
        go_wp2_with fail
        go_roundw
        case rel => exact ⟨j + 1, _, by omega, by go_num, HN, HS1, K1⟩
        case measure => simp [intOf]; omega
      · have hjn' : j = n := by omega
        subst hjn'
        have e : W' = W4 := by
          have h := HL.out
          simp only [Nat.sub_self, fillF, Option.some.injEq] at h
          exact h
        subst e
        clear HL
        go_wp2_with fail
        refine (Hcell.out _).mono ?_
        rintro e w12 ⟨rfl, rfl⟩
        go_wp2_with fail
        go_ret2
        exact ⟨rfl, HS.out, K.out⟩
  · have e2 : ((form : Int) == 2) = false := by rw [beq_eq_false_iff_ne]; omega
    have HF : Box (fill = 12) := ⟨by rw [← Hfill.out, if_neg h2]⟩
    clear h2
    have HL0 : Box (fillF (W2.set q hx) q 12 n 0 = some W4) := ⟨by have h := Hfi.out; rw [HF.out] at h; exact h⟩
    go_wp2_with fail
    go_loopw [131] (fun i wr => ∃ (j : Nat) (W' : List Nat), j ≤ n ∧ i = .int .i64 j ∧ Box (fillF W' q 12 (n - j) j = some W4) ∧ Box (IsTH wr hb b g { took s1 c with W := W' }) ∧ Box (Keeps (foot3 hb b g) w wr)) (fun i _ => n - (intOf i).toNat)
    case atStart => exact ⟨0, _, Nat.zero_le _, rfl, HL0, H9, K9⟩
    case round =>
      clear H9 K9 HL0
      obtain ⟨j, W', hj, rfl, HL, HS, K⟩ := hrel
      by_cases hjn : j < n
      · obtain ⟨W5, h1, h2⟩ := fillF_step (m := n - j - 1) (by rw [show n - j - 1 + 1 = n - j by omega]; exact HL.out)
        rw [show n - j - 1 = n - (j + 1) by omega] at h2
        obtain ⟨hlt, rfl⟩ := wrt_parts h1
        obtain ⟨z, hz⟩ : ∃ z, q + 3 + j = z := ⟨_, rfl⟩
        have hzi : (q : Int) + 3 + (j : Int) = (z : Int) := by omega
        rw [hz] at hlt h2
        have Hlt := Box.mk hlt
        have HN := Box.mk h2
        have hstore := HS.out.store
        clear h1 hlt h2 hz HL
        go_wp2_with fail
        refine (wset_is 12 HS.out.iw Hlt.out).mono ?_
        rintro e w11 ⟨rfl, hI1, k1⟩
        have HS1 : Box (IsTH w11 hb b g { took s1 c with W := W'.set z 12 }) := ⟨HS.out.ring k1 hI1⟩
        have K1 := Box.mk (K.out.trans (k1.mono (S' := foot3 hb b g) (fun i _ h => Or.inr h)))
        clear hI1 k1 HS K hstore
        go_wp2_with fail
        go_roundw
        case rel => exact ⟨j + 1, _, by omega, by go_num, HN, HS1, K1⟩
        case measure => simp [intOf]; omega
      · have hjn' : j = n := by omega
        subst hjn'
        have e : W' = W4 := by
          have h := HL.out
          simp only [Nat.sub_self, fillF, Option.some.injEq] at h
          exact h
        subst e
        clear HL
        go_wp2_with fail
        refine (Hcell.out _).mono ?_
        rintro e w12 ⟨rfl, rfl⟩
        go_wp2_with fail
        go_ret2
        exact ⟨rfl, HS.out, K.out⟩

end Go.Proofs.Ytbjlapfcnldpoaa
