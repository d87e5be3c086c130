/- Part 4 of 11 of this proof's own texts, joined in build order by a program. -/
import Derived.Test.YtbjlapfcnldpoaaZ3
import Derived.Test.YtbjlapfcnldpoaaProg
import Derived.Test.YtbjlapfcnldpoaaZ1
import Derived.LaidEql
import Derived.Stop.Asserts
import Derived.RowKitTokens
/- The heap's Alloc by its contract. -/
namespace Go.Proofs.Ytbjlapfcnldpoaa
set_option linter.unusedVariables false
set_option linter.unusedSimpArgs false
open Go.RowKit

/-- What is behind the increments: a free cell is taken. -/
def ttake (s1 : TH) (form tag n : Nat) : Option (TH × Nat) := do
  req (lget s1 (tcls n) 0 > 0)
  req (lget s1 (tcls n) 0 < 1000000)
  req (lget s1 (tcls n) 1 < 1000000)
  let b ← oBehind s1.W (thead (tcls n) 0)
  let s := lset s1 (tcls n) 0 (lget s1 (tcls n) 0 - 1)
  let s := lset s (tcls n) 1 (lget s (tcls n) 1 + 1)
  let W ← oRemove s.W b
  let W ← oInsert W (thead (tcls n) 1) b
  let W ← wrt W b (hdr form tag s.now n)
  let W ← fillF W b (if form = 2 then 0 else 12) n 0
  return ({ s with W := W }, 8 * b + 1)
theorem talloc_take {s s' : TH} {form tag n x : Nat} (h : talloc s form tag n = some (s', x)) : ∃ s1, tincr s.k s = some s1 ∧ ttake s1 form tag n = some (s', x) := by
  unfold talloc at h
  simp only [Option.bind_eq_bind, Option.bind_eq_some_iff] at h
  obtain ⟨s1, h1, h2⟩ := h
  refine ⟨s1, h1, ?_⟩
  unfold ttake
  simp only [Option.bind_eq_bind, Option.bind_eq_some_iff]
  exact h2
theorem talloc_of {s s1 s' : TH} {form tag n x : Nat} (h1 : tincr s.k s = some s1) (h2 : ttake s1 form tag n = some (s', x)) : talloc s form tag n = some (s', x) := by
  unfold talloc
  unfold ttake at h2
  simp only [Option.bind_eq_bind, Option.bind_eq_some_iff] at h2 ⊢
  exact ⟨s1, h1, h2⟩
/-- The lists' counts when a cell is taken. -/
def took (s1 : TH) (c : Nat) : TH := lset (lset s1 c 0 (lget s1 c 0 - 1)) c 1 (lget s1 c 1 + 1)
theorem lget_lset_ne {s : TH} {c l l' x : Nat} (h : l ≠ l') : lget (lset s c l x) c l' = lget s c l' := by
  unfold lget lset
  simp only
  simp only [List.getD]
  rw [List.getElem?_set_ne (by omega)]
theorem ttake_parts {s1 s' : TH} {form tag n x : Nat} (h : ttake s1 form tag n = some (s', x)) : ∃ q W1 W2 W3 W4, 0 < lget s1 (tcls n) 0 ∧ lget s1 (tcls n) 0 < 1000000 ∧ lget s1 (tcls n) 1 < 1000000 ∧
    oBehind s1.W (thead (tcls n) 0) = some q ∧ oRemove s1.W q = some W1 ∧ oInsert W1 (thead (tcls n) 1) q = some W2 ∧ wrt W2 q (hdr form tag s1.now n) = some W3 ∧ fillF W3 q (if form = 2 then 0 else 12) n 0 = some W4 ∧
    s' = { took s1 (tcls n) with W := W4 } ∧ x = 8 * q + 1 := by
  unfold ttake at h
  simp only [Option.bind_eq_bind, Option.bind_eq_some_iff] at h
  obtain ⟨_, h1, _, h2, _, h3, q, h4, W1, h5, W2, h6, W3, h7, W4, h8, h9⟩ := h
  simp only [Option.pure_def, Option.some.injEq, Prod.mk.injEq] at h9
  obtain ⟨rfl, rfl⟩ := h9
  refine ⟨q, W1, W2, W3, W4, req_parts h1, req_parts h2, req_parts h3, h4, h5, h6, h7, h8, ?_, rfl⟩
  unfold took
  rw [lget_lset_ne (by decide)]
theorem fillF_step {W W' : List Nat} {q x m i : Nat} (h : fillF W q x (m + 1) i = some W') : ∃ W1, wrt W (q + 3 + i) x = some W1 ∧ fillF W1 q x m (i + 1) = some W' := by
  simpa only [fillF, Option.bind_eq_some_iff] using h
theorem tcls_lt (n : Nat) : tcls n < 4 := by unfold tcls; split <;> (try split) <;> (try split) <;> omega

set_option maxRecDepth 100000 in
set_option maxHeartbeats 4000000 in
theorem alloc_f {hb b g form tag n x : Nat} {s s' : TH} {w : World} (hI : IsTH w hb b g s) (hs : talloc s form tag n = some (s', x)) (hnow : s.now ≤ 1) (hkk : s.k ≤ 64) (hf1 : 1 ≤ form) (hf2 : form ≤ 2) (htag : tag ≤ 15) (hn : n ≤ 127) :
    Calls Try.prog 21 #[.pointer (some ⟨hb, 0, none⟩), .int .i64 form, .int .i64 tag, .int .i64 n] w fun e w' => e = .returned (.tuple #[.int .u64 x, .nilIface]) ∧ IsTH w' hb b g s' ∧ Keeps (foot3 hb b g) w w' := by
  obtain ⟨s1, hs1, hs2⟩ := talloc_take hs
  obtain ⟨q, W1, W2, W3, W4, hpos, hbig0, hbig1, hbe, hre, hin, hwr, hfi, rfl, rfl⟩ := ttake_parts hs2
  have hqb := (obehind_parts hbe).2.2
  obtain ⟨hnow1, -⟩ := tincr_same hs1 hnow
  have hc4 := tcls_lt n
  have Hcls := Box.mk (cls_is n · hn)
  obtain ⟨c, hc⟩ : ∃ c, tcls n = c := ⟨_, rfl⟩
  rw [hc] at hpos hbig0 hbig1 hbe hin hc4 Hcls ⊢
  obtain ⟨n0, hn0⟩ : ∃ m, lget s1 c 0 = m := ⟨_, rfl⟩
  obtain ⟨n1, hn1⟩ : ∃ m, lget s1 c 1 = m := ⟨_, rfl⟩
  rw [hn0] at hpos hbig0
  rw [hn1] at hbig1
  obtain ⟨m0, hm0⟩ : ∃ m, n0 - 1 = m := ⟨_, rfl⟩
  have hmi : (n0 : Int) - 1 = (m0 : Int) := by omega
  have hne0 : ((n0 : Int) == 0) = false := by rw [beq_eq_false_iff_ne]; omega
  obtain ⟨nw, hnw⟩ : ∃ x, s1.now = x := ⟨_, rfl⟩
  rw [hnw] at hwr hnow1
  obtain ⟨k, hk⟩ : ∃ x, s.k = x := ⟨_, rfl⟩
  rw [hk] at hs1 hkk
  obtain ⟨p0, hp0⟩ : ∃ p, thead c 0 = p := ⟨_, rfl⟩
  obtain ⟨p1, hp1⟩ : ∃ p, thead c 1 = p := ⟨_, rfl⟩
  have hd0 : ∀ W, Calls Try.prog 70 #[.int .i64 c, .int .i64 0] W fun e w' => e = .returned (.int .i64 p0) ∧ w' = W := fun W => by rw [← hp0]; exact head_is c 0 W (by omega) (by omega)
  have hd1 : ∀ W, Calls Try.prog 70 #[.int .i64 c, .int .i64 1] W fun e w' => e = .returned (.int .i64 p1) ∧ w' = W := fun W => by rw [← hp1]; exact head_is c 1 W (by omega) (by omega)
  rw [hp0] at hbe
  rw [hp1] at hin
  obtain ⟨hx, hhx⟩ : ∃ x, hdr form tag nw n = x := ⟨_, rfl⟩
  have Hword := Box.mk (hword_is form tag nw n · (by omega) (by omega) (by omega) (by omega))
  rw [hhx] at hwr Hword
  obtain ⟨hwl, rfl⟩ := wrt_parts hwr
  have Hd := Box.mk (And.intro hd0 hd1)
  have Hs1 := Box.mk hs1
  have Hbe := Box.mk hbe
  have Hre := Box.mk hre
  have Hin := Box.mk hin
  have Hwl := Box.mk hwl
  have Hfi := Box.mk hfi
  have Hn01 := Box.mk (And.intro hn0 hn1)
  have Hnow := Box.mk hnow
  have Hnw := Box.mk hnw
  have Hk := Box.mk hk
  have Hm0 := Box.mk hm0
  have Hcell : Box (∀ W, Calls Try.prog 75 #[.int .i64 q] W fun e w' => e = .returned (.tuple #[.int .u64 ((8 * q + 1 : Nat) : Int), .nilIface]) ∧ w' = W) := ⟨fun W => by
    have := cell_yes (q : Int) W (by omega) (by omega)
    rw [show wput 1 (q : Int) = ((8 * q + 1 : Nat) : Int) by unfold wput; omega] at this
    exact this⟩
  have hkc := hI.k
  rw [hk] at hkc
  have e3 : ((form : Int) == 3) = false := by rw [beq_eq_false_iff_ne]; omega
  have H := Box.mk hI
  clear hs hs1 hs2 hbe hre hin hwr hwl hfi hn0 hn1 hp0 hp1 hd0 hd1 hhx hnow hnw hk hI hm0
  obtain ⟨fill, hfill⟩ : ∃ x, (if form = 2 then 0 else 12) = x := ⟨_, rfl⟩
  rw [hfill] at Hfi
  have Hfill := Box.mk hfill
  clear hfill
  go_enter Try.func21, Try.ntmps21
  go_wp2_with fail
  refine (Hcls.out _).mono ?_
  rintro e w1 ⟨rfl, k1⟩
  have H1 := Box.mk (H.out.keeps0 k1)
  have K1 := Box.mk (k1.mono (S' := foot3 hb b g) (fun _ _ h => h.elim))
  have hkc1 := H1.out.k
  rw [Hk.out] at hkc1
  clear H k1 hkc
  clear hc
  go_wp2_with fail
  refine (incr_is H1.out Hs1.out Hnow.out (by omega)).mono ?_
  rintro e w2 ⟨rfl, hI2, k2⟩
  have H2 := Box.mk hI2
  have K2 := Box.mk (K1.out.trans k2)
  have hc0 := hI2.lists (i := 4 * c + 0) (by omega)
  rw [show s1.lists.getD (4 * c + 0) 0 = n0 from Hn01.out.1, show 10 + (4 * c + 0) = 10 + c * 4 by omega] at hc0
  have hstore := hI2.store
  have hcI0 : (0 : Int) ≤ (c : Int) := by omega
  have hcI1 : (c : Int) < 4 := by omega
  clear hI2 k2 H1 K1 hkc1 Hs1 Hnow
  go_wp2_with fail
  go_region_held3 (fun w' => w'.cell? ⟨hb, 0, none⟩ = some (.pointer (some ⟨b, 0, none⟩)) ∧ w'.cell? ⟨hb, 10 + c * 4, none⟩ = some (.int .i64 (n0 : Int))) (first | exact ⟨kj.cell hstore (by have := H2.out.ne; unfold foot; simp only; omega), kj.cell hc0 (by have := H2.out.ne; unfold foot; simp only; omega)⟩ | go_keep) (first | (go_at_call 70; refine (Hd.out.1 _).mono ?_; rintro e w3 ⟨rfl, rfl⟩) | (go_at_call 69; refine (obehind_is (w := w2.drew) (H2.out.keeps0 ((Keeps.refl (fun _ => False) w2).drew)).iw Hbe.out).mono ?_; rintro e w3 ⟨rfl, hI3, kj⟩))
  have kj' : Keeps (foot b g) w2 w3 := ⟨kj.os, kj.tape, kj.output, kj.size, kj.block⟩
  have H3 := Box.mk (H2.out.ring kj' hI3)
  have K3 := Box.mk (K2.out.trans (kj'.mono (S' := foot3 hb b g) (fun i _ h => Or.inr h)))
  clear kj kj' hI3 hstore hc0 H2 K2
  have hc0 := H3.out.lists (i := 4 * c + 0) (by omega)
  have hf0 := H3.out.frozen (10 + (4 * c + 0))
  have hput := H3.out.putList (i := 4 * c + 0) (by omega) m0
  simp only at hc0
  rw [show s1.lists.getD (4 * c + 0) 0 = n0 from Hn01.out.1] at hc0
  rw [show 10 + (4 * c + 0) = 10 + c * 4 by omega] at hc0 hf0 hput
  have H4 := Box.mk (hput.keeps0 ((Keeps.refl (fun _ => False) _).drew))
  have K4 := Box.mk (((K3.out.setCell (p := ⟨hb, 10 + c * 4, none⟩) (fun _ => Or.inl rfl) (.int .i64 (m0 : Int)))).drew)
  clear hput H3 K3
  go_wp2_with fail
  go_region
  clear hc0 hf0
  generalize (w3.setCell ⟨hb, 10 + c * 4, none⟩ (.int .i64 (m0 : Int))).drew = w4 at *
  have hc1 := H4.out.lists (i := 4 * c + 1) (by omega)
  have hf1 := H4.out.frozen (10 + (4 * c + 1))
  have hput := H4.out.putList (i := 4 * c + 1) (by omega) (n1 + 1)
  simp only at hc1
  rw [show (s1.lists.set (4 * c + 0) m0).getD (4 * c + 1) 0 = n1 by rw [← Hn01.out.2]; simp only [List.getD]; rw [List.getElem?_set_ne (by omega)]; rfl] at hc1
  rw [show 10 + (4 * c + 1) = 10 + c * 4 + 1 by omega] at hc1 hf1 hput
  rw [show ((n1 + 1 : Nat) : Int) = (n1 : Int) + 1 by omega] at hput
  have H5 := Box.mk (hput.keeps0 ((Keeps.refl (fun _ => False) _).drew))
  have K5 := Box.mk (((K4.out.setCell (p := ⟨hb, 10 + c * 4 + 1, none⟩) (fun _ => Or.inl rfl) (.int .i64 ((n1 : Int) + 1)))).drew)
  clear hput H4 K4
  go_wp2_with fail
  go_region
  clear hc1 hf1
  generalize (w4.setCell ⟨hb, 10 + c * 4 + 1, none⟩ (.int .i64 ((n1 : Int) + 1))).drew = w5 at *
  have H6 : Box (IsTH w5 hb b g (took s1 c)) := ⟨by
    have h := H5.out
    unfold took lset
    rw [Hn01.out.1, Hn01.out.2, Hm0.out]
    exact h⟩
  clear H5
  have hstore := H6.out.store
  go_wp2_with fail
  refine (oremove_is H6.out.iw Hre.out).mono ?_
  rintro e w6 ⟨rfl, hI6, k6⟩
  have H7 := Box.mk (H6.out.ring k6 hI6)
  have K7 := Box.mk (K5.out.trans (k6.mono (S' := foot3 hb b g) (fun i _ h => Or.inr h)))
  clear hI6 k6 H6 K5 hstore
  have hstore := H7.out.store
  go_wp2_with fail
  go_region_held3 (fun w' => w'.cell? ⟨hb, 0, none⟩ = some (.pointer (some ⟨b, 0, none⟩))) (first | exact kj.cell hstore (by have := H7.out.ne; unfold foot; simp only; omega) | go_keep) (first | (go_at_call 70; refine (Hd.out.2 _).mono ?_; rintro e w7 ⟨rfl, rfl⟩) | (go_at_call 72; refine (oinsert_is (w := w6.drew) (H7.out.keeps0 ((Keeps.refl (fun _ => False) w6).drew)).iw Hin.out).mono ?_; rintro e w7 ⟨rfl, hI7, kj⟩))
  have kj' : Keeps (foot b g) w6 w7 := ⟨kj.os, kj.tape, kj.output, kj.size, kj.block⟩
  have H8 := Box.mk (H7.out.ring kj' hI7)
  have K8 := Box.mk (K7.out.trans (kj'.mono (S' := foot3 hb b g) (fun i _ h => Or.inr h)))
  clear kj kj' hI7 hstore H7 K7
  have hstore := H8.out.store
  have hnowc := H8.out.now
  rw [show ({ took s1 c with W := W2 } : TH).now = nw from Hnw.out] at hnowc
  unfold hval at Hword
  go_wp2_with fail
  go_region_held3 (fun w' => w'.cell? ⟨hb, 0, none⟩ = some (.pointer (some ⟨b, 0, none⟩)) ∧ w'.cell? ⟨hb, 39, none⟩ = some (.int .i64 (nw : Int))) (first | exact ⟨k9.cell (k8.cell hstore (fun h => h)) (by have := H8.out.ne; unfold foot; simp only; omega), k9.cell (k8.cell hnowc (fun h => h)) (by have := H8.out.ne; unfold foot; simp only; omega)⟩ | exact ⟨k8.cell hstore (fun h => h), k8.cell hnowc (fun h => h)⟩ | go_keep) (first | (go_at_call 74; refine (Hword.out _).mono ?_; rintro e w8 ⟨rfl, k8⟩) | (go_at_call 73; refine (wset_is _ ((H8.out.keeps0 (show Keeps (fun _ => False) w7 _ from ⟨k8.os, k8.tape, k8.output, k8.size, k8.block⟩)).iw) Hwl.out).mono ?_; rintro e w9 ⟨rfl, hI9, k9⟩))
  have k8' : Keeps (fun _ => False) w7 w8 := ⟨k8.os, k8.tape, k8.output, k8.size, k8.block⟩
  have H9 := Box.mk ((H8.out.keeps0 k8').ring k9 hI9)
  have K9 := Box.mk (K8.out.trans ((k8'.mono (S' := foot3 hb b g) (fun _ _ h => h.elim)).trans (k9.mono (S' := foot3 hb b g) (fun i _ h => Or.inr h))))
  clear hI9 k8' k8 k9 hstore hnowc H8 K8
  go_wp2_with fail
  refine (wvoid_is _).mono ?_
  rintro e w10 ⟨rfl, rfl⟩
  by_cases h2 : form = 2
  · have e2 : ((form : Int) == 2) = true := by rw [beq_iff_eq]; omega
    have HF : Box (fill = 0) := ⟨by rw [← Hfill.out, if_pos h2]⟩
    clear h2
    have HL0 : Box (fillF (W2.set q hx) q 0 n 0 = some W4) := ⟨by have h := Hfi.out; rw [HF.out] at h; exact h⟩
    go_wp2_with fail
    go_loopw [131] (fun i wr => ∃ (j : Nat) (W' : List Nat), j ≤ n ∧ i = .int .i64 j ∧ Box (fillF W' q 0 (n - j) j = some W4) ∧ Box (IsTH wr hb b g { took s1 c with W := W' }) ∧ Box (Keeps (foot3 hb b g) w wr)) (fun i _ => n - (intOf i).toNat)
    case atStart => exact ⟨0, _, Nat.zero_le _, rfl, HL0, H9, K9⟩
    case round =>
      clear H9 K9 HL0
      obtain ⟨j, W', hj, rfl, HL, HS, K⟩ := hrel
      by_cases hjn : j < n
      · obtain ⟨W5, h1, h2⟩ := fillF_step (m := n - j - 1) (by rw [show n - j - 1 + 1 = n - j by omega]; exact HL.out)
        rw [show n - j - 1 = n - (j + 1) by omega] at h2
        obtain ⟨hlt, rfl⟩ := wrt_parts h1
        obtain ⟨z, hz⟩ : ∃ z, q + 3 + j = z := ⟨_, rfl⟩
        have hzi : (q : Int) + 3 + (j : Int) = (z : Int) := by omega
        rw [hz] at hlt h2
        have Hlt := Box.mk hlt
        have HN := Box.mk h2
        have hstore := HS.out.store
        clear h1 hlt h2 hz HL
        go_wp2_with fail
        refine (wset_is 0 HS.out.iw Hlt.out).mono ?_
        rintro e w11 ⟨rfl, hI1, k1⟩
        have HS1 : Box (IsTH w11 hb b g { took s1 c with W := W'.set z 0 }) := ⟨HS.out.ring k1 hI1⟩
        have K1 := Box.mk (K.out.trans (k1.mono (S' := foot3 hb b g) (fun i _ h => Or.inr h)))
        clear hI1 k1 HS K hstore
        go_wp2_with fail
        go_roundw
        case rel => exact ⟨j + 1, _, by omega, by go_num, HN, HS1, K1⟩
        case measure => simp [intOf]; omega
      · have hjn' : j = n := by omega
        subst hjn'
        have e : W' = W4 := by
          have h := HL.out
          simp only [Nat.sub_self, fillF, Option.some.injEq] at h
          exact h
        subst e
        clear HL
        go_wp2_with fail
        refine (Hcell.out _).mono ?_
        rintro e w12 ⟨rfl, rfl⟩
        go_wp2_with fail
        go_ret2
        exact ⟨rfl, HS.out, K.out⟩
  · have e2 : ((form : Int) == 2) = false := by rw [beq_eq_false_iff_ne]; omega
    have HF : Box (fill = 12) := ⟨by rw [← Hfill.out, if_neg h2]⟩
    clear h2
    have HL0 : Box (fillF (W2.set q hx) q 12 n 0 = some W4) := ⟨by have h := Hfi.out; rw [HF.out] at h; exact h⟩
    go_wp2_with fail
    go_loopw [131] (fun i wr => ∃ (j : Nat) (W' : List Nat), j ≤ n ∧ i = .int .i64 j ∧ Box (fillF W' q 12 (n - j) j = some W4) ∧ Box (IsTH wr hb b g { took s1 c with W := W' }) ∧ Box (Keeps (foot3 hb b g) w wr)) (fun i _ => n - (intOf i).toNat)
    case atStart => exact ⟨0, _, Nat.zero_le _, rfl, HL0, H9, K9⟩
    case round =>
      clear H9 K9 HL0
      obtain ⟨j, W', hj, rfl, HL, HS, K⟩ := hrel
      by_cases hjn : j < n
      · obtain ⟨W5, h1, h2⟩ := fillF_step (m := n - j - 1) (by rw [show n - j - 1 + 1 = n - j by omega]; exact HL.out)
        rw [show n - j - 1 = n - (j + 1) by omega] at h2
        obtain ⟨hlt, rfl⟩ := wrt_parts h1
        obtain ⟨z, hz⟩ : ∃ z, q + 3 + j = z := ⟨_, rfl⟩
        have hzi : (q : Int) + 3 + (j : Int) = (z : Int) := by omega
        rw [hz] at hlt h2
        have Hlt := Box.mk hlt
        have HN := Box.mk h2
        have hstore := HS.out.store
        clear h1 hlt h2 hz HL
        go_wp2_with fail
        refine (wset_is 12 HS.out.iw Hlt.out).mono ?_
        rintro e w11 ⟨rfl, hI1, k1⟩
        have HS1 : Box (IsTH w11 hb b g { took s1 c with W := W'.set z 12 }) := ⟨HS.out.ring k1 hI1⟩
        have K1 := Box.mk (K.out.trans (k1.mono (S' := foot3 hb b g) (fun i _ h => Or.inr h)))
        clear hI1 k1 HS K hstore
        go_wp2_with fail
        go_roundw
        case rel => exact ⟨j + 1, _, by omega, by go_num, HN, HS1, K1⟩
        case measure => simp [intOf]; omega
      · have hjn' : j = n := by omega
        subst hjn'
        have e : W' = W4 := by
          have h := HL.out
          simp only [Nat.sub_self, fillF, Option.some.injEq] at h
          exact h
        subst e
        clear HL
        go_wp2_with fail
        refine (Hcell.out _).mono ?_
        rintro e w12 ⟨rfl, rfl⟩
        go_wp2_with fail
        go_ret2
        exact ⟨rfl, HS.out, K.out⟩

end Go.Proofs.Ytbjlapfcnldpoaa

/- errors.Is between errors that are numbers of one type (api.Kind), by contracts. -/
namespace Go.Proofs.Ytbjlapfcnldpoaa
set_option linter.unusedVariables false
set_option linter.unusedSimpArgs false
open Go.RowKit Go.Extern.Stop Go.Stop Go.Extern

section
variable {P : Program} (w : World)
theorem run_equalIn_iface_int (d : Nat) {ti tn : TypeId} {ms : Array (String × TypeId)} {i : TypeInfo} {k : IntKind} (a b : Int)
    (hi : P.underlying ti = some (.interface ms)) (hn : P.underlying tn = some (.int k)) (hinfo : P.info? tn = some i) (hcomp : i.comparable = true) :
    (Op.equalIn (d + 2) ti (.iface tn (.int k a)) (.iface tn (.int k b))).run P w = .ok (a == b) w := by
  simp [Op.equalIn, run_underlying hi, run_underlying hn, typeInfo, hinfo, hcomp]
/-- '==' between two errors of one whole-number type. -/
theorem run_eql_iface_int {ti tn : TypeId} {ms : Array (String × TypeId)} {i : TypeInfo} {k : IntKind} (a b : Int)
    (hi : P.underlying ti = some (.interface ms)) (hn : P.underlying tn = some (.int k)) (hinfo : P.info? tn = some i) (hcomp : i.comparable = true) :
    (binOp .eql ti (.iface tn (.int k a)) (.iface tn (.int k b))).run P w = .ok (.bool (a == b)) w := by
  simp only [binOp]
  simp [Op.equal, Op.maxDepth, run_equalIn_iface_int w 9998 a b hi hn hinfo hcomp]
end

theorem isTypeOf (v : Value) (w : World) : (Extern.ReflectliteType.typeOf #[.iface 97 v]).run Try.prog w = .ok (.iface 141 (.agg #[.pointer (some ⟨0, 97, none⟩)])) w := by kernel_rfl
theorem isComparable (w : World) : ((Extern.ReflectliteType.method fun t => do Extern.Rtype.noPackHeld "Comparable" t; (fun a => Value.bool a.comparable) <$> typeInfo t) #[.agg #[.pointer (some ⟨0, 97, none⟩)]]).run Try.prog w = .ok (.bool true) w := by kernel_rfl
theorem isMethodComparable (v : Value) (w : World) : (Go.method 286 141 v "Comparable").run Try.prog w = .ok (122, v) w := by kernel_rfl
theorem isComp : (Try.prog.info? 97).map (·.comparable) = some true := by kernel_rfl
theorem noIsE (v : Value) (xT : TypeId) (w : World) : (Instr.typeAssert (.iface 97 v) xT 143 true).run Try.prog w = .ok (.tuple #[.nilIface, .bool false]) w := run_typeAssert_lacksB Try.underlying143 (by kernel_rfl) (by kernel_rfl) v xT w
theorem noUnwrapE (v : Value) (xT : TypeId) (w : World) : (Instr.typeAssert (.iface 97 v) xT 146 true).run Try.prog w = .ok (.tuple #[.nilIface, .bool false]) w := run_typeAssert_lacksB Try.underlying146 (by kernel_rfl) (by kernel_rfl) v xT w
theorem noUnwrapsE (v : Value) (xT : TypeId) (w : World) : (Instr.typeAssert (.iface 97 v) xT 148 true).run Try.prog w = .ok (.tuple #[.nilIface, .bool false]) w := run_typeAssert_lacksB Try.underlying148 (by kernel_rfl) (by kernel_rfl) v xT w

/-- errors.Is(nil, x). -/
theorem is_nil (b : Int) (w : World) :
    Calls Try.prog 59 #[.nilIface, .iface 97 (.int .i64 b)] w fun e w' => e = .returned (.bool false) ∧ w' = w := by
  have hn := run_eql_iface_nil_left (P := Try.prog) w 97 (.int .i64 b) Try.underlying25
  go_enter Try.func59, Try.ntmps59
  go_wp2
  go_ret
  exact ⟨rfl, rfl⟩

/-- errors.Is(a, b) of two Kinds. -/
theorem is_kind (a b : Int) (w : World) :
    Calls Try.prog 59 #[.iface 97 (.int .i64 a), .iface 97 (.int .i64 b)] w fun e w' => e = .returned (.bool (a == b)) ∧ w' = w := by
  obtain ⟨i, hi, hcmp⟩ := Option.map_eq_some_iff.1 isComp
  have h8 := @run_callFunc_extern Try.prog 91 _ Extern.ReflectliteType.typeOf Try.func91 (by kernel_rfl) (by kernel_rfl) (by kernel_rfl) (by kernel_rfl)
  have h32 := @run_callFunc_extern Try.prog 122 _ (Extern.ReflectliteType.method fun t => do Extern.Rtype.noPackHeld "Comparable" t; pure (.bool (← typeInfo t).comparable)) Try.func122 (by kernel_rfl) (by kernel_rfl) (by kernel_rfl) (by kernel_rfl)
  have tT := isTypeOf
  have cT := isComparable
  have mR := isMethodComparable
  have nE := noIsE
  have uE := noUnwrapE
  have vE := noUnwrapsE
  have heq := run_eql_iface_int (P := Try.prog) w a b Try.underlying25 Try.underlying97 hi hcmp
  by_cases hab : a = b
  · subst hab
    simp only [beq_self_eq_true] at heq ⊢
    go_enter Try.func59, Try.ntmps59
    go_wp2
    refine wp_loop_rounds 1 ?_
    rw [rounds_succ]
    go_wp2
    go_ret
    exact ⟨rfl, rfl⟩
  · have hf : (a == b) = false := by simpa using hab
    rw [hf] at heq ⊢
    clear hab hf
    go_enter Try.func59, Try.ntmps59
    go_wp2
    refine wp_loop_rounds 1 ?_
    rw [rounds_succ]
    go_wp2
    go_ret
    exact ⟨rfl, rfl⟩

end Go.Proofs.Ytbjlapfcnldpoaa

/- Law 5's kind and awake. -/
namespace Go.Proofs.Ytbjlapfcnldpoaa
set_option linter.unusedVariables false
set_option linter.unusedSimpArgs false
open Go.RowKit

/-- law 5's kind, of the errors that it asks for. -/
theorem kind05 (a : Int) (h : a = 0 ∨ a = 1 ∨ a = 2 ∨ a = 3 ∨ a = 4) (w : World) :
    Calls Try.prog 37 #[errV a] w fun e w' => e = .returned (.int .i64 a) ∧ Keeps (fun _ => False) w w' := by
  rcases h with rfl | rfl | rfl | rfl | rfl
  · show Calls Try.prog 37 #[.nilIface] w _
    go_enter Try.func37, Try.ntmps37
    go_wp2
    go_ret
    exact ⟨rfl, Keeps.refl _ _⟩
  · show Calls Try.prog 37 #[.iface 97 (.int .i64 1)] w _
    go_enter Try.func37, Try.ntmps37
    go_wp2_with fail
    refine wp_loop_rounds 1 ?_
    rw [rounds_succ]
    go_wp2_with (go_at_call 59; refine (is_kind _ _ _).mono ?_; rintro e w' ⟨rfl, rfl⟩)
    go_ret
    exact ⟨rfl, (Keeps.refl _ _).alloc _⟩
  · show Calls Try.prog 37 #[.iface 97 (.int .i64 2)] w _
    go_enter Try.func37, Try.ntmps37
    go_wp2_with fail
    refine wp_loop_rounds 2 ?_
    rw [rounds_succ]
    go_wp2_with (go_at_call 59; refine (is_kind _ _ _).mono ?_; rintro e w' ⟨rfl, rfl⟩)
    rw [rounds_succ]
    go_wp2_with (go_at_call 59; refine (is_kind _ _ _).mono ?_; rintro e w' ⟨rfl, rfl⟩)
    go_ret
    exact ⟨rfl, (Keeps.refl _ _).alloc _⟩
  · show Calls Try.prog 37 #[.iface 97 (.int .i64 3)] w _
    go_enter Try.func37, Try.ntmps37
    go_wp2_with fail
    refine wp_loop_rounds 3 ?_
    rw [rounds_succ]
    go_wp2_with (go_at_call 59; refine (is_kind _ _ _).mono ?_; rintro e w' ⟨rfl, rfl⟩)
    rw [rounds_succ]
    go_wp2_with (go_at_call 59; refine (is_kind _ _ _).mono ?_; rintro e w' ⟨rfl, rfl⟩)
    rw [rounds_succ]
    go_wp2_with (go_at_call 59; refine (is_kind _ _ _).mono ?_; rintro e w' ⟨rfl, rfl⟩)
    go_ret
    exact ⟨rfl, (Keeps.refl _ _).alloc _⟩
  · show Calls Try.prog 37 #[.iface 97 (.int .i64 4)] w _
    go_enter Try.func37, Try.ntmps37
    go_wp2_with fail
    refine wp_loop_rounds 4 ?_
    rw [rounds_succ]
    go_wp2_with (go_at_call 59; refine (is_kind _ _ _).mono ?_; rintro e w' ⟨rfl, rfl⟩)
    rw [rounds_succ]
    go_wp2_with (go_at_call 59; refine (is_kind _ _ _).mono ?_; rintro e w' ⟨rfl, rfl⟩)
    rw [rounds_succ]
    go_wp2_with (go_at_call 59; refine (is_kind _ _ _).mono ?_; rintro e w' ⟨rfl, rfl⟩)
    rw [rounds_succ]
    go_wp2_with (go_at_call 59; refine (is_kind _ _ _).mono ?_; rintro e w' ⟨rfl, rfl⟩)
    go_ret
    exact ⟨rfl, (Keeps.refl _ _).alloc _⟩
theorem kind05_nil (w : World) : Calls Try.prog 37 #[.nilIface] w fun e w' => e = .returned (.int .i64 0) ∧ Keeps (fun _ => False) w w' := kind05 0 (by omega) w
theorem kind05_err (a : Int) (h : a = 1 ∨ a = 2 ∨ a = 3 ∨ a = 4) (w : World) : Calls Try.prog 37 #[.iface 97 (.int .i64 a)] w fun e w' => e = .returned (.int .i64 a) ∧ Keeps (fun _ => False) w w' := by
  have := kind05 a (by omega) w
  unfold errV at this
  rwa [if_neg (by omega)] at this

/-- The state behind k rounds of awake. -/
def awkN : Nat → Option TH
  | 0 => tlay (pre 4 0 0 0 1)
  | k + 1 => (awkN k).bind fun s => (talloc s 1 5 2).bind fun r => if tvalue r.1 r.2 = true ∧ r.2 < 18446744073709551616 then some (setRoot r.1 k r.2) else none
structure AwkEnd (s4 s5 s6 : TH) (x q c h : Nat) : Prop where
  a : awkN 4 = some s4
  v : tvalue s4 12 = true
  i : tincr 40 (setRoot s4 3 12) = some s5
  al : talloc s5 1 5 2 = some (s6, x)
  xb : x < 18446744073709551616
  p : tplace s6 x = some (q, c)
  r : rdh s6.W q = some h
  h1 : hform h = 1
  h2 : htag h = 5
  h3 : hn h = 2
  n : tplace s5 20 = none
def awkAll : Option (TH × TH × TH × Nat × Nat × Nat × Nat) := do
  let s4 ← awkN 4
  let s5 ← tincr 40 (setRoot s4 3 12)
  let r ← talloc s5 1 5 2
  let p ← tplace r.1 r.2
  let h ← rdh r.1.W p.1
  if tvalue s4 12 && decide (r.2 < 18446744073709551616) && hform h == 1 && htag h == 5 && hn h == 2 && (tplace s5 20).isNone then some (s4, s5, r.1, r.2, p.1, p.2, h) else none
theorem awkAll_some : awkAll.isSome = true := by kernel_rfl
theorem awk0_free : ((awkN 0).map fun s => lget s 0 0) = some 4 := by kernel_rfl
theorem awk_end : ∃ s4 s5 s6 x q c h, AwkEnd s4 s5 s6 x q c h := by
  have h := awkAll_some
  obtain ⟨⟨s4, s5, s6, x, q, c, hd⟩, hs⟩ := Option.isSome_iff_exists.1 h
  unfold awkAll at hs
  simp only [Option.bind_eq_bind, Option.bind_eq_some_iff] at hs
  obtain ⟨t4, h1, t5, h2, r, h3, p, h4, hh, h5, h6⟩ := hs
  split at h6
  · rename_i hc
    simp only [Bool.and_eq_true, decide_eq_true_eq, beq_iff_eq, Option.isNone_iff_eq_none] at hc
    obtain ⟨⟨⟨⟨⟨c1, c2⟩, c3⟩, c4⟩, c5⟩, c6⟩ := hc
    simp only [Option.some.injEq, Prod.mk.injEq] at h6
    obtain ⟨rfl, rfl, rfl, rfl, rfl, rfl, rfl⟩ := h6
    exact ⟨t4, t5, r.1, r.2, p.1, p.2, hh, h1, c1, h2, h3, c2, h4, h5, c3, c4, c5, c6⟩
  · cases h6
theorem awkN_step {s4 : TH} (h : awkN 4 = some s4) {k : Nat} (hk : k < 4) {s : TH} (hs : awkN k = some s) : ∃ s1 x, talloc s 1 5 2 = some (s1, x) ∧ tvalue s1 x = true ∧ x < 18446744073709551616 ∧ awkN (k + 1) = some (setRoot s1 k x) := by
  have hall : ∀ j, j ≤ 4 → (awkN j).isSome = true := by
    have h4 : (awkN 4).isSome = true := by rw [h]; rfl
    have down : ∀ j, (awkN (j + 1)).isSome = true → (awkN j).isSome = true := by
      intro j hj
      cases hn : awkN j with
      | none => simp [awkN, hn] at hj
      | some x => rfl
    intro j hj
    have h3 := down 3 h4
    have h2 := down 2 h3
    have h1 := down 1 h2
    have h0 := down 0 h1
    match j, hj with
    | 0, _ => exact h0
    | 1, _ => exact h1
    | 2, _ => exact h2
    | 3, _ => exact h3
    | 4, _ => exact h4
  have h1 := hall (k + 1) (by omega)
  obtain ⟨t, ht⟩ := Option.isSome_iff_exists.1 h1
  have ht0 := ht
  simp only [awkN, hs, Option.bind_some, Option.bind_eq_some_iff] at ht
  obtain ⟨r, h2, h3⟩ := ht
  split at h3
  · rename_i hc
    injection h3 with h3
    exact ⟨r.1, r.2, h2, hc.1, hc.2, by rw [ht0, ← h3]⟩
  · cases h3

theorem ttake_same {s s' : TH} {form tag n x : Nat} (h : ttake s form tag n = some (s', x)) : s'.now = s.now ∧ s'.roots = s.roots ∧ s'.start = s.start ∧ s'.count = s.count ∧ s'.k = s.k := by
  obtain ⟨q, W1, W2, W3, W4, -, -, -, -, -, -, -, -, rfl, rfl⟩ := ttake_parts h
  exact ⟨rfl, rfl, rfl, rfl, rfl⟩
theorem talloc_same {s s' : TH} {form tag n x : Nat} (h : talloc s form tag n = some (s', x)) (hn : s.now ≤ 1) : s'.now ≤ 1 ∧ s'.roots = s.roots ∧ s'.start = s.start ∧ s'.count = s.count ∧ s'.k = s.k := by
  obtain ⟨s1, h1, h2⟩ := talloc_take h
  obtain ⟨a1, a2, a3, a4, a5⟩ := tincr_same h1 hn
  obtain ⟨b1, b2, b3, b4, b5⟩ := ttake_same h2
  exact ⟨by rw [b1]; exact a1, by rw [b2, a2], by rw [b3, a3], by rw [b4, a4], by rw [b5, a5]⟩
theorem tlay_same {s s' : TH} (h : tlay s = some s') : s'.now = s.now ∧ s'.roots = s.roots ∧ s'.start = s.start ∧ s'.count = s.count ∧ s'.k = s.k ∧ s'.marking = s.marking ∧ s'.wait = s.wait ∧ s'.cycles = s.cycles ∧ s'.tries = s.tries := by
  have key : ∀ n (s s' : TH), layN n s = some s' → s'.now = s.now ∧ s'.roots = s.roots ∧ s'.start = s.start ∧ s'.count = s.count ∧ s'.k = s.k ∧ s'.marking = s.marking ∧ s'.wait = s.wait ∧ s'.cycles = s.cycles ∧ s'.tries = s.tries := by
    intro n
    induction n with
    | zero => intro s s' h; simp only [layN, Option.some.injEq] at h; rw [h]; exact ⟨rfl, rfl, rfl, rfl, rfl, rfl, rfl, rfl, rfl⟩
    | succ n ih =>
      intro s s' h
      simp only [layN, Option.bind_eq_some_iff] at h
      obtain ⟨t, h1, h2⟩ := h
      obtain ⟨W, -, rfl⟩ := lay1_parts h2
      obtain ⟨a1, a2, a3, a4, a5, a6, a7, a8, a9⟩ := ih _ _ h1
      exact ⟨a1, a2, a3, a4, a5, a6, a7, a8, a9⟩
  unfold tlay at h
  simp only [Option.bind_eq_some_iff] at h
  obtain ⟨W, -, h1⟩ := h
  have h2 := key 4 _ _ h1
  exact h2

set_option maxRecDepth 100000 in
set_option maxHeartbeats 4000000 in
theorem awake05 (w : World) : Calls Try.prog 15 #[] w fun e w' => e = .returned (.bool true) ∧ Keeps (fun _ => False) w w' := by
  obtain ⟨s4, s5, s6, x, q, c, h, hE⟩ := awk_end
  have HE := Box.mk hE
  clear hE
  have h0 : ∃ s0, awkN 0 = some s0 := by
    cases hn : awkN 0 with
    | none => have := awk0_free; rw [hn] at this; cases this
    | some s0 => exact ⟨s0, rfl⟩
  obtain ⟨s0, h0⟩ := h0
  have hf0 : lget s0 0 0 = 4 := by have := awk0_free; rw [h0] at this; simpa using this
  have H0 := Box.mk h0
  have HF0 := Box.mk hf0
  have HS0 := Box.mk (tlay_same (show tlay (pre 4 0 0 0 1) = some s0 from h0))
  clear h0 hf0
  go_enter Try.func15, Try.ntmps15
  go_wp2_with fail
  refine (tnew_is (c0 := 4) (c1 := 0) (c2 := 0) (c3 := 0) (k := 1) (s := s0) (by omega) (by omega) (by omega) (by omega) (by omega) (by omega) H0.out).mono ?_
  rintro e w1 ⟨hb, b, g, rfl, hI1, k1, hb1, hb2, hb3⟩
  have HB := Box.mk (And.intro hb1 (And.intro hb2 hb3))
  have H1 := Box.mk hI1
  have K1 := Box.mk k1
  clear hI1 k1 hb1 hb2 hb3
  go_wp2_with fail
  refine (free_is (c := 0) H1.out (by omega)).mono ?_
  rw [HF0.out]
  rintro e w2 ⟨rfl, rfl⟩
  go_wp2_with fail
  go_loopw [32] (fun i wr => ∃ (k : Nat) (sk : TH), k ≤ 4 ∧ i = .int .i64 k ∧ Box (awkN k = some sk) ∧ Box (sk.now ≤ 1) ∧ Box (sk.k = 1) ∧ Box (IsTH wr hb b g sk) ∧ Box (Keeps (fun _ => False) w wr)) (fun i _ => 4 - (intOf i).toNat)
  case atStart => exact ⟨0, s0, Nat.zero_le _, rfl, H0, ⟨by rw [HS0.out.1]; decide⟩, ⟨by rw [HS0.out.2.2.2.2.1]; rfl⟩, H1, K1⟩
  case round =>
    clear H1 K1 H0 HF0 HS0
    obtain ⟨k, sk, hk, rfl, HN, HW, HK, HS, K⟩ := hrel
    by_cases hk4 : k < 4
    · obtain ⟨s1, y, hal, hv, hyb, hN'⟩ := awkN_step HE.out.a hk4 HN.out
      have Hal := Box.mk hal
      have Hv := Box.mk (And.intro hv hyb)
      have HN' := Box.mk hN'
      have hsm := talloc_same hal HW.out
      have HW' : Box ((setRoot s1 k y).now ≤ 1) := ⟨hsm.1⟩
      have HK' : Box ((setRoot s1 k y).k = 1) := ⟨by show s1.k = 1; rw [hsm.2.2.2.2]; exact HK.out⟩
      clear hal hv hyb hN' hsm HN
      go_wp2_with fail
      refine (alloc_f (form := 1) (tag := 5) (n := 2) HS.out Hal.out HW.out (by rw [HK.out]; decide) (by decide) (by decide) (by decide) (by decide)).mono ?_
      rintro e w3 ⟨rfl, hI3, k3⟩
      have H3 := Box.mk hI3
      have K3 : Box (Keeps (fun _ => False) w w3) := ⟨K.out.trans' k3 (fun z hz h => by have := HB.out; unfold foot3 at h; omega)⟩
      clear hI3 k3 HS K
      have hmin : (if (k : Int) < 3 then (k : Int) else 3) = (k : Int) := by split <;> omega
      go_wp2_with fail
      refine (setroot_is H3.out (show k < 12 by omega) Hv.out.2 Hv.out.1).mono ?_
      rintro e w4 ⟨rfl, hI4, k4⟩
      have H4 := Box.mk hI4
      have K4 : Box (Keeps (fun _ => False) w w4) := ⟨K3.out.trans' k4 (fun z hz h => by have := HB.out; unfold foot3 at h; omega)⟩
      clear hI4 k4 H3 K3 hmin
      go_wp2_with fail
      go_roundw
      case rel => exact ⟨k + 1, _, by omega, by go_num, HN', HW', HK', H4, K4⟩
      case measure => simp [intOf]; omega
    · have H4 : Box (k = 4) := ⟨by omega⟩
      have hk5 : ¬ ((k : Int) < 4) := by omega
      clear hk4
      have e4 : sk = s4 := by
        have h := HN.out
        rw [H4.out, HE.out.a] at h
        injection h with h
        exact h.symm
      subst e4
      clear HN
      go_wp2_with fail
      refine (wvoid_is _).mono ?_
      rintro e w3 ⟨rfl, rfl⟩
      go_wp2_with fail
      refine (setroot_is (i := 3) (x := 12) HS.out (by decide) (by decide) HE.out.v).mono ?_
      rintro e w4 ⟨rfl, hI4, k4⟩
      have H4 := Box.mk hI4
      have K4 : Box (Keeps (fun _ => False) w w4) := ⟨K.out.trans' k4 (fun z hz h => by have := HB.out; unfold foot3 at h; omega)⟩
      have HW4 : Box ((setRoot sk 3 12).now ≤ 1) := ⟨HW.out⟩
      clear hI4 k4 HS K
      go_wp2_with fail
      refine (incr_is (n := 40) H4.out HE.out.i HW4.out (by decide)).mono ?_
      rintro e w5 ⟨rfl, hI5, k5⟩
      have H5 := Box.mk hI5
      have K5 : Box (Keeps (fun _ => False) w w5) := ⟨K4.out.trans' k5 (fun z hz h => by have := HB.out; unfold foot3 at h; omega)⟩
      have hsm := tincr_same HE.out.i HW4.out
      have HW5 : Box (s5.now ≤ 1) := ⟨hsm.1⟩
      have HK5 : Box (s5.k = 1) := ⟨by rw [hsm.2.2.2.2]; exact HK.out⟩
      clear hI5 k5 H4 K4 hsm HW4 HW HK
      go_wp2_with fail
      refine (wundef_is _).mono ?_
      rintro e w6 ⟨rfl, rfl⟩
      go_wp2_with fail
      refine (shape_no (x := 20) H5.out (by decide) HE.out.n).mono ?_
      rintro e w7 ⟨rfl, k7⟩
      have H7 := Box.mk (H5.out.keeps0 k7)
      have K7 := Box.mk (K5.out.trans k7)
      clear k7 H5 K5
      go_wp2_with fail
      refine (alloc_f (form := 1) (tag := 5) (n := 2) H7.out HE.out.al HW5.out (by rw [HK5.out]; decide) (by decide) (by decide) (by decide) (by decide)).mono ?_
      rintro e w8 ⟨rfl, hI8, k8⟩
      have H8 := Box.mk hI8
      have K8 : Box (Keeps (fun _ => False) w w8) := ⟨K7.out.trans' k8 (fun z hz h => by have := HB.out; unfold foot3 at h; omega)⟩
      clear hI8 k8 H7 K7
      go_wp2_with fail
      refine (shape_is H8.out HE.out.xb HE.out.p HE.out.r).mono ?_
      rw [HE.out.h1, HE.out.h2, HE.out.h3]
      rintro e w9 ⟨rfl, hI9, k9⟩
      have K9 : Box (Keeps (fun _ => False) w w9) := ⟨K8.out.trans' k9 (fun z hz h => by have := HB.out; unfold foot3 at h; omega)⟩
      clear hI9 k9 H8 K8
      go_wp2_with fail
      refine (is_kind _ _ _).mono ?_
      rintro e w10 ⟨rfl, rfl⟩
      go_wp2_with fail
      refine (cls_is 4 _ (by decide)).mono ?_
      rintro e w11 ⟨rfl, k11⟩
      have K11 := Box.mk (K9.out.trans k11)
      clear k11 K9
      go_wp2_with fail
      refine (cls_no 128 _ (by omega)).mono ?_
      rintro e w12 ⟨rfl, rfl⟩
      go_wp2_with fail
      go_ret
      exact ⟨rfl, K11.out⟩

end Go.Proofs.Ytbjlapfcnldpoaa

/- The collector does the same whatever the registers hold, if they hold no cells. No program in sight. -/
namespace Go.Proofs.Ytbjlapfcnldpoaa
set_option linter.unusedVariables false
set_option linter.unusedSimpArgs false
open Go.RowKit

/-- No cell among them. -/
def NC (l : List Nat) : Prop := ∀ x ∈ l, tcell x = false ∧ x < 18446744073709551616
def wro (l : List Nat) (s : TH) : TH := { s with roots := l }

theorem bm {α β γ : Type} {o : Option α} {f : α → Option β} {g : α → Option γ} {k : β → γ} (h : ∀ a, g a = (f a).map k) : o.bind g = (o.bind f).map k := by
  cases o with
  | none => rfl
  | some a => exact h a
theorem tplace_wr (l : List Nat) (s : TH) (x : Nat) : tplace (wro l s) x = tplace s x := rfl
theorem tplace_nc {s : TH} {x : Nat} (h : tcell x = false) : tplace s x = none := by unfold tplace; rw [h]; rfl
theorem tshade_nc {s : TH} {x : Nat} (h : tcell x = false) (hx : x < 18446744073709551616) : tshade s x = some s := by
  unfold tshade
  rw [if_neg (by omega), tplace_nc h]
theorem tmove_wr (l : List Nat) (s : TH) (b c t m k : Nat) : tmove (wro l s) b c t m k = (tmove s b c t m k).map (wro l) := by
  unfold tmove
  simp only [Option.bind_eq_bind, Option.pure_def]
  exact bm fun _ => bm fun _ => bm fun _ => bm fun _ => bm fun _ => rfl
theorem tshade_wr (l : List Nat) (s : TH) (x : Nat) : tshade (wro l s) x = (tshade s x).map (wro l) := by
  unfold tshade
  split
  · rfl
  · rw [tplace_wr]
    cases hp : tplace s x with
    | none => rfl
    | some p =>
      obtain ⟨b, c⟩ := p
      simp only [Option.bind_eq_bind, Option.pure_def]
      refine bm fun h => ?_
      show (if hmark h ≠ 1 - s.now then _ else _) = Option.map (wro l) (if hmark h ≠ 1 - s.now then _ else _)
      split
      · rfl
      · exact bm fun _ => bm fun _ => tmove_wr l (lset s c 2 (lget s c 2 - 1)) b c (thead c 3) 2 3
theorem shadeAll_nc : ∀ {l : List Nat} {s : TH}, NC l → shadeAll l s = some s := by
  intro l
  induction l with
  | nil => intro s _; rfl
  | cons x l ih =>
    intro s h
    have hx := h x List.mem_cons_self
    simp only [shadeAll]
    rw [tshade_nc hx.1 hx.2]
    exact ih (fun y hy => h y (List.mem_cons_of_mem _ hy))
theorem tflip1_wr (l : List Nat) (s : TH) (c : Nat) : tflip1 (wro l s) c = (tflip1 s c).map (wro l) := by
  unfold tflip1
  simp only [Option.bind_eq_bind, Option.pure_def]
  exact bm fun _ => rfl
theorem tflipN_wr (l : List Nat) (s : TH) (n : Nat) : tflipN n (wro l s) = (tflipN n s).map (wro l) := by
  induction n with
  | zero => rfl
  | succ n ih =>
    simp only [tflipN]
    rw [ih]
    cases tflipN n s with
    | none => rfl
    | some t => exact tflip1_wr l t n
theorem tflip_def (s : TH) : tflip s = (tflipN 4 { s with now := 1 - s.now }).bind fun s4 => shadeAll s4.roots { s4 with marking := true, tries := 0 } := by
  unfold tflip
  simp only [tflipN, Option.bind_eq_bind, Option.bind_some, Option.bind_assoc]
theorem tflip_wr {l : List Nat} {s : TH} (hl : NC l) (hs : NC s.roots) : tflip (wro l s) = (tflip s).map (wro l) := by
  rw [tflip_def, tflip_def]
  have h := tflipN_wr l { s with now := 1 - s.now } 4
  have e : ({ wro l s with now := 1 - (wro l s).now } : TH) = wro l { s with now := 1 - s.now } := rfl
  rw [e, h]
  cases hN : tflipN 4 { s with now := 1 - s.now } with
  | none => rfl
  | some t =>
    have ht := (tflipN_same hN).2.1
    simp only [Option.map_some, Option.bind_some]
    have h1 : (wro l t).roots = l := rfl
    rw [h1, shadeAll_nc hl]
    have h2 : t.roots = s.roots := ht
    rw [h2, shadeAll_nc hs]
    rfl
theorem shadeFields_wr (l : List Nat) (b : Nat) : ∀ (m i : Nat) (s : TH), shadeFields (wro l s) b m i = (shadeFields s b m i).map (wro l) := by
  intro m
  induction m with
  | zero => intro i s; rfl
  | succ m ih =>
    intro i s
    simp only [shadeFields, Option.bind_eq_bind]
    refine bm fun w => ?_
    show (tshade (wro l s) w).bind _ = Option.map (wro l) ((tshade s w).bind _)
    rw [tshade_wr]
    cases tshade s w with
    | none => rfl
    | some t => exact ih (i + 1) t
theorem tscanAt_wr (l : List Nat) (s : TH) (c : Nat) : tscanAt (wro l s) c = (tscanAt s c).map (wro l) := by
  unfold tscanAt
  simp only [Option.bind_eq_bind, Option.pure_def]
  refine bm fun b => bm fun h => bm fun _ => ?_
  show (if hform h = 3 then _ else _) = Option.map (wro l) (if hform h = 3 then _ else _)
  split
  · refine bm fun last => bm fun _ => ?_
    exact tmove_wr l { taken s c (lget s c 3 - 1) with wait := s.wait + 1 } b c last s.now 1
  · show (if hform h = 1 then _ else _) = Option.map (wro l) (if hform h = 1 then _ else _)
    split
    · have h1 := shadeFields_wr l b (hn h) 0 (taken s c (lget s c 3 - 1))
      show (shadeFields (wro l (taken s c (lget s c 3 - 1))) b (hn h) 0).bind _ = Option.map (wro l) ((shadeFields (taken s c (lget s c 3 - 1)) b (hn h) 0).bind _)
      rw [h1]
      cases shadeFields (taken s c (lget s c 3 - 1)) b (hn h) 0 with
      | none => rfl
      | some t => exact tmove_wr l t b c (thead c 1) t.now 1
    · show (if hform h = 2 then _ else _) = Option.map (wro l) (if hform h = 2 then _ else _)
      split
      · exact tmove_wr l (taken s c (lget s c 3 - 1)) b c (thead c 1) s.now 1
      · rfl
theorem tscan_wr (l : List Nat) (s : TH) : tscan (wro l s) = (tscan s).map (Option.map (wro l)) := by
  have key : ∀ c, Option.map some (tscanAt (wro l s) c) = Option.map (Option.map (wro l)) (Option.map some (tscanAt s c)) := by
    intro c
    rw [tscanAt_wr]
    cases tscanAt s c <;> rfl
  unfold tscan
  show (if lget s 0 3 ≠ 0 then _ else _) = Option.map (Option.map (wro l)) (if lget s 0 3 ≠ 0 then _ else _)
  split
  · exact key 0
  · show (if lget s 1 3 ≠ 0 then _ else _) = Option.map (Option.map (wro l)) (if lget s 1 3 ≠ 0 then _ else _)
    split
    · exact key 1
    · show (if lget s 2 3 ≠ 0 then _ else _) = Option.map (Option.map (wro l)) (if lget s 2 3 ≠ 0 then _ else _)
      split
      · exact key 2
      · show (if lget s 3 3 ≠ 0 then _ else _) = Option.map (Option.map (wro l)) (if lget s 3 3 ≠ 0 then _ else _)
        split
        · exact key 3
        · rfl
theorem tlook_wr (l : List Nat) (s : TH) : tlook (wro l s) = (tlook s).map (Option.map (wro l)) := by
  unfold tlook
  show (if s.wait = 0 then _ else _) = Option.map _ (if s.wait = 0 then _ else _)
  split <;> rfl
theorem tend1_wr (l : List Nat) (s : TH) (c : Nat) : tend1 (wro l s) c = (tend1 s c).map (wro l) := by
  unfold tend1
  simp only [Option.bind_eq_bind, Option.pure_def]
  exact bm fun _ => bm fun _ => rfl
theorem tend_wr (l : List Nat) (s : TH) : tend (wro l s) = (tend s).map (wro l) := by
  unfold tend
  simp only [Option.bind_eq_bind, Option.pure_def]
  have key : ∀ c (t : TH) (f : TH → Option TH), (∀ t, f (wro l t) = (f t).map (wro l)) → (tend1 (wro l t) c).bind f = ((tend1 t c).bind f).map (wro l) := by
    intro c t f hf
    rw [tend1_wr]
    cases tend1 t c with
    | none => rfl
    | some a => exact hf a
  refine key _ _ _ fun t => key _ _ _ fun t => key _ _ _ fun t => key _ _ _ fun t => ?_
  exact bm fun _ => rfl
theorem tstep_wr {l : List Nat} {s : TH} (hl : NC l) (hs : NC s.roots) : tstep (wro l s) = (tstep s).map (wro l) := by
  unfold tstep
  show (if s.marking = true then _ else _) = Option.map (wro l) (if s.marking = true then _ else _)
  split
  · show (tscan (wro l s)).bind _ = Option.map (wro l) ((tscan s).bind _)
    rw [tscan_wr]
    cases tscan s with
    | none => rfl
    | some r =>
      cases r with
      | some t => rfl
      | none =>
        show (tlook (wro l s)).bind _ = Option.map (wro l) ((tlook s).bind _)
        rw [tlook_wr]
        cases tlook s with
        | none => rfl
        | some r =>
          cases r with
          | some t => rfl
          | none => exact tend_wr l s
  · exact tflip_wr hl hs
theorem tincr_wro {l : List Nat} (hl : NC l) : ∀ {n : Nat} {s : TH}, NC s.roots → s.now ≤ 1 → tincr n (wro l s) = (tincr n s).map (wro l) := by
  intro n
  induction n with
  | zero => intro s _ _; rfl
  | succ n ih =>
    intro s hs hw
    simp only [tincr]
    rw [tstep_wr hl hs]
    cases ht : tstep s with
    | none => rfl
    | some t =>
      obtain ⟨a1, a2, -⟩ := tstep_same ht hw
      exact ih (by rw [a2]; exact hs) a1
theorem tincr_less {n m : Nat} {s : TH} (h : (tincr n s).isSome = true) (hm : m ≤ n) : (tincr m s).isSome = true := by
  induction m generalizing n s with
  | zero => rfl
  | succ m ih =>
    obtain ⟨n, rfl⟩ : ∃ j, n = j + 1 := ⟨n - 1, by omega⟩
    simp only [tincr] at h ⊢
    cases ht : tstep s with
    | none => rw [ht] at h; cases h
    | some t => rw [ht] at h; exact ih h (by omega)

theorem incr49 : ((awkN 0).bind (tincr 49)).isSome = true := by kernel_rfl

end Go.Proofs.Ytbjlapfcnldpoaa

/- Rings of links between places that lie three words apart. No program in sight. -/
namespace Go.Proofs.Ytbjlapfcnldpoaa
set_option linter.unusedVariables false
set_option linter.unusedSimpArgs false
open Go.RowKit

/-- Places that lie three words apart. -/
class Sep (P : Nat → Prop) : Prop where
  sep : ∀ {u v : Nat}, P u → P v → u = v ∨ u + 3 ≤ v ∨ v + 3 ≤ u
variable {P : Nat → Prop}

theorem wat_set (W : List Nat) (p x q : Nat) (hp : p < W.length) : wat (W.set p x) q = if q = p then x else wat W q := by
  unfold wat
  simp only [List.getD_eq_getElem?_getD]
  by_cases h : q = p
  · subst h
    rw [List.getElem?_set_self hp, if_pos rfl]
    rfl
  · rw [List.getElem?_set_ne (by omega), if_neg h]

theorem ne_mem {a b : Nat} {L : List Nat} (ha : a ∈ L) (hb : b ∉ L) : a ≠ b := by
  intro e
  subst e
  exact hb ha

/-- u is a place of a member: three words. -/
def Node (P : Nat → Prop) (W : List Nat) (u : Nat) : Prop := P u ∧ u + 2 < W.length

theorem ins_B [Sep P] {W : List Nat} {p q x u : Nat} (hp : Node P W p) (hq : Node P W q) (hx : Node P W x) (hu : P u) :
    wat (setAll W [(q, 1, p), (q, 2, x), (p, 2, q), (x, 1, q)]) (u + 2) = if u = p then q else if u = q then x else wat W (u + 2) := by
  obtain ⟨hp1, hp2⟩ := hp
  obtain ⟨hq1, hq2⟩ := hq
  obtain ⟨hx1, hx2⟩ := hx
  have sp := Sep.sep hu hp1
  have sq := Sep.sep hu hq1
  have sx := Sep.sep hu hx1
  simp only [setAll, List.foldl_cons, List.foldl_nil]
  rw [wat_set _ _ _ _ (by simp; omega), wat_set _ _ _ _ (by simp; omega), wat_set _ _ _ _ (by simp; omega), wat_set _ _ _ _ (by omega)]
  rw [if_neg (show ¬ u + 2 = x + 1 by omega), if_neg (show ¬ u + 2 = q + 1 by omega)]
  have e1 : (u + 2 = p + 2) = (u = p) := by apply propext; omega
  have e2 : (u + 2 = q + 2) = (u = q) := by apply propext; omega
  simp only [e1, e2]
theorem ins_A [Sep P] {W : List Nat} {p q x u : Nat} (hp : Node P W p) (hq : Node P W q) (hx : Node P W x) (hu : P u) :
    wat (setAll W [(q, 1, p), (q, 2, x), (p, 2, q), (x, 1, q)]) (u + 1) = if u = x then q else if u = q then p else wat W (u + 1) := by
  obtain ⟨hp1, hp2⟩ := hp
  obtain ⟨hq1, hq2⟩ := hq
  obtain ⟨hx1, hx2⟩ := hx
  have sp := Sep.sep hu hp1
  have sq := Sep.sep hu hq1
  have sx := Sep.sep hu hx1
  simp only [setAll, List.foldl_cons, List.foldl_nil]
  rw [wat_set _ _ _ _ (by simp; omega), wat_set _ _ _ _ (by simp; omega), wat_set _ _ _ _ (by simp; omega), wat_set _ _ _ _ (by omega)]
  rw [if_neg (show ¬ u + 1 = p + 2 by omega), if_neg (show ¬ u + 1 = q + 2 by omega)]
  have e1 : (u + 1 = x + 1) = (u = x) := by apply propext; omega
  have e2 : (u + 1 = q + 1) = (u = q) := by apply propext; omega
  simp only [e1, e2]
theorem rem_B [Sep P] {W : List Nat} {q a x u : Nat} (ha : Node P W a) (hq : Node P W q) (hx : Node P W x) (hu : P u) :
    wat (setAll W [(a, 2, x), (x, 1, a), (q, 1, q), (q, 2, q)]) (u + 2) = if u = q then q else if u = a then x else wat W (u + 2) := by
  obtain ⟨ha1, ha2⟩ := ha
  obtain ⟨hq1, hq2⟩ := hq
  obtain ⟨hx1, hx2⟩ := hx
  have sa := Sep.sep hu ha1
  have sq := Sep.sep hu hq1
  have sx := Sep.sep hu hx1
  simp only [setAll, List.foldl_cons, List.foldl_nil]
  rw [wat_set _ _ _ _ (by simp; omega), wat_set _ _ _ _ (by simp; omega), wat_set _ _ _ _ (by simp; omega), wat_set _ _ _ _ (by omega)]
  rw [if_neg (show ¬ u + 2 = x + 1 by omega), if_neg (show ¬ u + 2 = q + 1 by omega)]
  have e1 : (u + 2 = a + 2) = (u = a) := by apply propext; omega
  have e2 : (u + 2 = q + 2) = (u = q) := by apply propext; omega
  simp only [e1, e2]
theorem rem_A [Sep P] {W : List Nat} {q a x u : Nat} (ha : Node P W a) (hq : Node P W q) (hx : Node P W x) (hu : P u) :
    wat (setAll W [(a, 2, x), (x, 1, a), (q, 1, q), (q, 2, q)]) (u + 1) = if u = q then q else if u = x then a else wat W (u + 1) := by
  obtain ⟨ha1, ha2⟩ := ha
  obtain ⟨hq1, hq2⟩ := hq
  obtain ⟨hx1, hx2⟩ := hx
  have sa := Sep.sep hu ha1
  have sq := Sep.sep hu hq1
  have sx := Sep.sep hu hx1
  simp only [setAll, List.foldl_cons, List.foldl_nil]
  rw [wat_set _ _ _ _ (by simp; omega), wat_set _ _ _ _ (by simp; omega), wat_set _ _ _ _ (by simp; omega), wat_set _ _ _ _ (by omega)]
  rw [if_neg (show ¬ u + 1 = a + 2 by omega), if_neg (show ¬ u + 1 = q + 2 by omega)]
  have e1 : (u + 1 = x + 1) = (u = x) := by apply propext; omega
  have e2 : (u + 1 = q + 1) = (u = q) := by apply propext; omega
  simp only [e1, e2]
theorem join_B [Sep P] {W : List Nat} {p q f l z u : Nat} (hp : Node P W p) (hq : Node P W q) (hf : Node P W f) (hl : Node P W l) (hz : Node P W z) (hu : P u) :
    wat (setAll W [(z, 2, f), (f, 1, z), (l, 2, p), (p, 1, l), (q, 1, q), (q, 2, q)]) (u + 2) = if u = q then q else if u = l then p else if u = z then f else wat W (u + 2) := by
  obtain ⟨hp1, hp2⟩ := hp
  obtain ⟨hq1, hq2⟩ := hq
  obtain ⟨hf1, hf2⟩ := hf
  obtain ⟨hl1, hl2⟩ := hl
  obtain ⟨hz1, hz2⟩ := hz
  have sp := Sep.sep hu hp1
  have sq := Sep.sep hu hq1
  have sf := Sep.sep hu hf1
  have sl := Sep.sep hu hl1
  have sz := Sep.sep hu hz1
  simp only [setAll, List.foldl_cons, List.foldl_nil]
  rw [wat_set _ _ _ _ (by simp; omega), wat_set _ _ _ _ (by simp; omega), wat_set _ _ _ _ (by simp; omega), wat_set _ _ _ _ (by simp; omega), wat_set _ _ _ _ (by simp; omega), wat_set _ _ _ _ (by omega)]
  rw [if_neg (show ¬ u + 2 = p + 1 by omega), if_neg (show ¬ u + 2 = q + 1 by omega), if_neg (show ¬ u + 2 = f + 1 by omega)]
  have e1 : (u + 2 = l + 2) = (u = l) := by apply propext; omega
  have e2 : (u + 2 = q + 2) = (u = q) := by apply propext; omega
  have e3 : (u + 2 = z + 2) = (u = z) := by apply propext; omega
  simp only [e1, e2, e3]
theorem join_A [Sep P] {W : List Nat} {p q f l z u : Nat} (hp : Node P W p) (hq : Node P W q) (hf : Node P W f) (hl : Node P W l) (hz : Node P W z) (hu : P u) :
    wat (setAll W [(z, 2, f), (f, 1, z), (l, 2, p), (p, 1, l), (q, 1, q), (q, 2, q)]) (u + 1) = if u = q then q else if u = p then l else if u = f then z else wat W (u + 1) := by
  obtain ⟨hp1, hp2⟩ := hp
  obtain ⟨hq1, hq2⟩ := hq
  obtain ⟨hf1, hf2⟩ := hf
  obtain ⟨hl1, hl2⟩ := hl
  obtain ⟨hz1, hz2⟩ := hz
  have sp := Sep.sep hu hp1
  have sq := Sep.sep hu hq1
  have sf := Sep.sep hu hf1
  have sl := Sep.sep hu hl1
  have sz := Sep.sep hu hz1
  simp only [setAll, List.foldl_cons, List.foldl_nil]
  rw [wat_set _ _ _ _ (by simp; omega), wat_set _ _ _ _ (by simp; omega), wat_set _ _ _ _ (by simp; omega), wat_set _ _ _ _ (by simp; omega), wat_set _ _ _ _ (by simp; omega), wat_set _ _ _ _ (by omega)]
  rw [if_neg (show ¬ u + 1 = q + 2 by omega), if_neg (show ¬ u + 1 = l + 2 by omega), if_neg (show ¬ u + 1 = z + 2 by omega)]
  have e1 : (u + 1 = p + 1) = (u = p) := by apply propext; omega
  have e2 : (u + 1 = q + 1) = (u = q) := by apply propext; omega
  have e3 : (u + 1 = f + 1) = (u = f) := by apply propext; omega
  simp only [e1, e2, e3]
theorem init_B [Sep P] {W : List Nat} {p u : Nat} (hp : Node P W p) (hu : P u) : wat (setAll W [(p, 1, p), (p, 2, p)]) (u + 2) = if u = p then p else wat W (u + 2) := by
  obtain ⟨hp1, hp2⟩ := hp
  have sp := Sep.sep hu hp1
  simp only [setAll, List.foldl_cons, List.foldl_nil]
  rw [wat_set _ _ _ _ (by simp; omega), wat_set _ _ _ _ (by omega)]
  rw [if_neg (show ¬ u + 2 = p + 1 by omega)]
  have e1 : (u + 2 = p + 2) = (u = p) := by apply propext; omega
  simp only [e1]
theorem init_A [Sep P] {W : List Nat} {p u : Nat} (hp : Node P W p) (hu : P u) : wat (setAll W [(p, 1, p), (p, 2, p)]) (u + 1) = if u = p then p else wat W (u + 1) := by
  obtain ⟨hp1, hp2⟩ := hp
  have sp := Sep.sep hu hp1
  simp only [setAll, List.foldl_cons, List.foldl_nil]
  rw [wat_set _ _ _ _ (by simp; omega), wat_set _ _ _ _ (by omega)]
  rw [if_neg (show ¬ u + 1 = p + 2 by omega)]
  have e1 : (u + 1 = p + 1) = (u = p) := by apply propext; omega
  simp only [e1]

/-- y stands behind x. -/
def Link (W : List Nat) (x y : Nat) : Prop := wat W (x + 2) = y ∧ wat W (y + 1) = x
/-- L stand behind x, one behind the other. -/
def Path (W : List Nat) : Nat → List Nat → Prop
  | _, [] => True
  | x, y :: L => Link W x y ∧ Path W y L
/-- The last of x :: L. -/
def lastOf : Nat → List Nat → Nat
  | x, [] => x
  | _, y :: L => lastOf y L
/-- L stand in the ring behind h. -/
structure Ring (P : Nat → Prop) (W : List Nat) (h : Nat) (L : List Nat) : Prop where
  path : Path W h L
  back : Link W (lastOf h L) h
  nodup : (h :: L).Nodup
  node : ∀ u ∈ h :: L, Node P W u

theorem lastOf_mem (x : Nat) (L : List Nat) : lastOf x L ∈ x :: L := by
  induction L generalizing x with
  | nil => simp [lastOf]
  | cons y L ih => simp only [lastOf]; exact List.mem_cons_of_mem _ (ih y)
theorem lastOf_append (x y : Nat) (L M : List Nat) : lastOf x (L ++ y :: M) = lastOf y M := by
  induction L generalizing x with
  | nil => rfl
  | cons z L ih => exact ih z
theorem Path_append (W : List Nat) (x y : Nat) (L M : List Nat) : Path W x (L ++ y :: M) ↔ Path W x L ∧ Link W (lastOf x L) y ∧ Path W y M := by
  induction L generalizing x with
  | nil => simp [Path, lastOf]
  | cons z L ih => simp only [List.cons_append, Path, lastOf, ih z, and_assoc]
/-- Words that a path reads. -/
theorem Path.frame {W W' : List Nat} {x : Nat} {L : List Nat} (h : Path W x L) (hn : (x :: L).Nodup) (hB : ∀ u ∈ x :: L, u ≠ lastOf x L → wat W' (u + 2) = wat W (u + 2)) (hA : ∀ u ∈ L, wat W' (u + 1) = wat W (u + 1)) : Path W' x L := by
  induction L generalizing x with
  | nil => trivial
  | cons y L ih =>
    obtain ⟨h1, h2⟩ := h
    have hxl : x ≠ lastOf x (y :: L) := by
      have := lastOf_mem y L
      intro e
      rw [show lastOf x (y :: L) = lastOf y L from rfl] at e
      rw [← e] at this
      exact (List.nodup_cons.1 hn).1 this
    refine ⟨⟨by rw [hB x (by simp) hxl]; exact h1.1, by rw [hA y (by simp)]; exact h1.2⟩, ih h2 (List.nodup_cons.1 hn).2 (fun u hu hul => hB u (List.mem_cons_of_mem _ hu) hul) (fun u hu => hA u (List.mem_cons_of_mem _ hu))⟩

theorem Ring.frame {W W' : List Nat} {h : Nat} {L : List Nat} (hr : Ring P W h L) (hl : W'.length = W.length) (hB : ∀ u ∈ h :: L, wat W' (u + 2) = wat W (u + 2)) (hA : ∀ u ∈ h :: L, wat W' (u + 1) = wat W (u + 1)) : Ring P W' h L := by
  refine ⟨hr.path.frame hr.nodup (fun u hu _ => hB u hu) (fun u hu => hA u (List.mem_cons_of_mem _ hu)), ⟨?_, ?_⟩, hr.nodup, fun u hu => ?_⟩
  · rw [hB _ (lastOf_mem h L)]; exact hr.back.1
  · rw [hA h (by simp)]; exact hr.back.2
  · have := hr.node u hu
    exact ⟨this.1, by rw [hl]; exact this.2⟩

/-- The one behind x, of x :: L, in the ring of h. -/
theorem ring_links {W : List Nat} {h : Nat} {L : List Nat} (hr : Ring P W h L) (k : Nat) (hk : k ≤ L.length) :
    Link W ((h :: L).getD k 0) (L.getD k h) := by
  have key : ∀ (x : Nat) (L : List Nat), Path W x L → Link W (lastOf x L) h → ∀ k, k ≤ L.length → Link W ((x :: L).getD k 0) (L.getD k h) := by
    intro x L
    induction L generalizing x with
    | nil =>
      intro _ hb k hk
      obtain rfl : k = 0 := by simpa using hk
      simpa [lastOf] using hb
    | cons y L ih =>
      intro hp hb k hk
      cases k with
      | zero => simpa using hp.1
      | succ k => simpa using ih y hp.2 hb k (by simpa using hk)
  exact key h L hr.path hr.back k hk
theorem ring_next {W : List Nat} {h k : Nat} {L : List Nat} (hr : Ring P W h L) (hk : k ∈ h :: L) : wat W (k + 2) ∈ h :: L := by
  obtain ⟨i, hi, rfl⟩ := List.getElem_of_mem hk
  have hl := ring_links hr i (by simpa using Nat.le_of_lt_succ hi)
  rw [show (h :: L).getD i 0 = (h :: L)[i] by rw [List.getD_eq_getElem?_getD, List.getElem?_eq_getElem hi]; rfl] at hl
  rw [hl.1]
  by_cases h2 : i < L.length
  · rw [show L.getD i h = L[i] by simp [List.getD, h2]]; exact List.mem_cons_of_mem _ (List.getElem_mem h2)
  · rw [show L.getD i h = h by simp [List.getD, List.getElem?_eq_none (by omega : L.length ≤ i)]]; simp
theorem ring_prev {W : List Nat} {h : Nat} {L : List Nat} (hr : Ring P W h L) : wat W (h + 1) = lastOf h L := hr.back.2

/-- q is put behind the head p. -/
theorem ring_insert [Sep P] {W : List Nat} {p q : Nat} {L : List Nat} (hr : Ring P W p L) (hq : Node P W q) (hn : q ∉ p :: L) :
    Ring P (setAll W [(q, 1, p), (q, 2, wat W (p + 2)), (p, 2, q), (wat W (p + 2), 1, q)]) p (q :: L) := by
  obtain ⟨x, hx⟩ : ∃ x, wat W (p + 2) = x := ⟨_, rfl⟩
  have hxm : x ∈ p :: L := by rw [← hx]; exact ring_next hr (by simp)
  rw [hx]
  have np := hr.node p (by simp)
  have nx := hr.node x hxm
  have hqx : q ≠ x := fun e => hn (e ▸ hxm)
  have hqp : q ≠ p := fun e => hn (by simp [e])
  have B := fun u (hu : P u) => ins_B np hq nx hu
  have A := fun u (hu : P u) => ins_A np hq nx hu
  have hnd : (p :: q :: L).Nodup := by
    have h1 := List.nodup_cons.1 hr.nodup
    simp only [List.nodup_cons, List.mem_cons, not_or] at hn ⊢
    exact ⟨⟨fun e => hqp e.symm, h1.1⟩, hn.2, h1.2⟩
  have hnode : ∀ u ∈ p :: q :: L, Node P (setAll W [(q, 1, p), (q, 2, x), (p, 2, q), (x, 1, q)]) u := by
    intro u hu
    have : Node P W u := by
      simp only [List.mem_cons] at hu
      rcases hu with rfl | rfl | hu
      · exact np
      · exact hq
      · exact hr.node u (by simp [hu])
    exact ⟨this.1, by rw [setAll_length]; exact this.2⟩
  have l1 : Link (setAll W [(q, 1, p), (q, 2, x), (p, 2, q), (x, 1, q)]) p q := by
    refine ⟨?_, ?_⟩
    · rw [B p np.1, if_pos rfl]
    · rw [A q hq.1, if_neg hqx, if_pos rfl]
  have l2 : Link (setAll W [(q, 1, p), (q, 2, x), (p, 2, q), (x, 1, q)]) q x := by
    refine ⟨?_, ?_⟩
    · rw [B q hq.1, if_neg hqp, if_pos rfl]
    · rw [A x nx.1, if_pos rfl]
  cases L with
  | nil =>
    have : x = p := by simpa using hxm
    subst this
    exact ⟨⟨l1, trivial⟩, l2, hnd, hnode⟩
  | cons y M =>
    have hxy : x = y := by rw [← hx]; exact hr.path.1.1
    subst hxy
    have hnm : (x :: M).Nodup := (List.nodup_cons.1 hr.nodup).2
    have hpm : p ∉ x :: M := (List.nodup_cons.1 hr.nodup).1
    refine ⟨⟨l1, l2, hr.path.2.frame hnm (fun u hu _ => ?_) (fun u hu => ?_)⟩, ⟨?_, ?_⟩, hnd, hnode⟩
    · have := hr.node u (List.mem_cons_of_mem _ hu)
      rw [B u this.1, if_neg (ne_mem hu hpm), if_neg (fun e => hn (by rw [← e]; exact List.mem_cons_of_mem _ hu))]
    · have := hr.node u (List.mem_cons_of_mem _ (List.mem_cons_of_mem _ hu))
      rw [A u this.1, if_neg (ne_mem hu (List.nodup_cons.1 hnm).1), if_neg (fun e => hn (by rw [← e]; simp [hu]))]
    · have hlm := lastOf_mem x M
      have hll : lastOf p (q :: x :: M) = lastOf x M := rfl
      rw [hll]
      have := hr.node (lastOf x M) (List.mem_cons_of_mem _ hlm)
      rw [B _ this.1, if_neg (ne_mem hlm hpm), if_neg (fun e => hn (by rw [← e]; exact List.mem_cons_of_mem _ hlm))]
      exact hr.back.1
    · have hll : lastOf p (q :: x :: M) = lastOf p (x :: M) := rfl
      rw [hll, A p np.1, if_neg (fun e => hpm (by simp [e])), if_neg (fun e => hqp e.symm)]
      exact hr.back.2
/-- What is done to one ring is nothing to another one. -/
theorem insert_other [Sep P] {W : List Nat} {p q h : Nat} {L M : List Nat} (hr : Ring P W p L) (hq : Node P W q) (ho : Ring P W h M) (hd : ∀ u ∈ h :: M, u ∉ p :: L ∧ u ≠ q) :
    Ring P (setAll W [(q, 1, p), (q, 2, wat W (p + 2)), (p, 2, q), (wat W (p + 2), 1, q)]) h M := by
  have hxm : wat W (p + 2) ∈ p :: L := ring_next hr (by simp)
  have np := hr.node p (by simp)
  have nx := hr.node _ hxm
  refine ho.frame (setAll_length _ _) (fun u hu => ?_) (fun u hu => ?_)
  · obtain ⟨h1, h2⟩ := hd u hu
    rw [ins_B np hq nx (ho.node u hu).1, if_neg (fun e => h1 (by simp [e])), if_neg h2]
  · obtain ⟨h1, h2⟩ := hd u hu
    rw [ins_A np hq nx (ho.node u hu).1, if_neg (fun e => h1 (by rw [e]; exact hxm)), if_neg h2]

def Lone (W : List Nat) (u : Nat) : Prop := wat W (u + 1) = u ∧ wat W (u + 2) = u
theorem lone_ring {W : List Nat} {u : Nat} (h : Lone W u) (hn : Node P W u) : Ring P W u [] :=
  ⟨trivial, ⟨h.2, h.1⟩, by simp, fun x hx => by simp at hx; subst hx; exact hn⟩
theorem ring_lone {W : List Nat} {u : Nat} (h : Ring P W u []) : Lone W u := ⟨h.back.2, h.back.1⟩

theorem ring_mod {W : List Nat} {h : Nat} {L : List Nat} (hr : Ring P W h L) {u : Nat} (hu : u ∈ h :: L) : P u := (hr.node u hu).1

/-- The ring of q, that has members, is put into p's, behind p's last. -/
theorem ring_join [Sep P] {W : List Nat} {p q f : Nat} {L M : List Nat} (hp : Ring P W p L) (hq : Ring P W q (f :: M)) (hd : ∀ u ∈ p :: L, u ∉ q :: f :: M) :
    Ring P (setAll W [(lastOf p L, 2, f), (f, 1, lastOf p L), (lastOf f M, 2, p), (p, 1, lastOf f M), (q, 1, q), (q, 2, q)]) p (L ++ f :: M) ∧
    Lone (setAll W [(lastOf p L, 2, f), (f, 1, lastOf p L), (lastOf f M, 2, p), (p, 1, lastOf f M), (q, 1, q), (q, 2, q)]) q := by
  have hzm := lastOf_mem p L
  have hlm0 := lastOf_mem f M
  have hlm : lastOf f M ∈ q :: f :: M := List.mem_cons_of_mem _ hlm0
  obtain ⟨z, hz⟩ : ∃ z, lastOf p L = z := ⟨_, rfl⟩
  obtain ⟨l, hl⟩ : ∃ l, lastOf f M = l := ⟨_, rfl⟩
  rw [hz] at hzm
  rw [hl] at hlm hlm0
  rw [hz, hl]
  have np := hp.node p (by simp)
  have nz := hp.node z hzm
  have nq := hq.node q (by simp)
  have nf := hq.node f (by simp)
  have nl := hq.node l hlm
  have B := fun u (hu : P u) => join_B np nq nf nl nz hu
  have A := fun u (hu : P u) => join_A np nq nf nl nz hu
  have hpq : p ≠ q := fun e => hd p (by simp) (by simp [e])
  have hpf : p ≠ f := fun e => hd p (by simp) (by simp [e])
  have hzq : z ≠ q := fun e => hd z hzm (by simp [e])
  have hzf : z ≠ f := fun e => hd z hzm (by simp [e])
  have hzl : z ≠ l := fun e => hd z hzm (by rw [e]; exact hlm)
  have hqn := List.nodup_cons.1 hq.nodup
  have hfn := List.nodup_cons.1 hqn.2
  have hqf : q ≠ f := fun e => hqn.1 (by simp [e])
  have hql : q ≠ l := fun e => hqn.1 (by rw [e]; exact hlm0)
  have hpn := List.nodup_cons.1 hp.nodup
  refine ⟨⟨?_, ?_, ?_, ?_⟩, ?_⟩
  · rw [Path_append, hz]
    refine ⟨hp.path.frame hp.nodup (fun u hu hne => ?_) (fun u hu => ?_), ⟨?_, ?_⟩, hq.path.2.frame hqn.2 (fun u hu hne => ?_) (fun u hu => ?_)⟩
    · rw [hz] at hne
      have h1 : u ≠ q := fun e => hd u hu (by simp [e])
      have h2 : u ≠ l := fun e => hd u hu (by rw [e]; exact hlm)
      rw [B u (ring_mod hp hu), if_neg h1, if_neg h2, if_neg hne]
    · have hu' : u ∈ p :: L := List.mem_cons_of_mem _ hu
      have h1 : u ≠ q := fun e => hd u hu' (by simp [e])
      have h2 : u ≠ f := fun e => hd u hu' (by simp [e])
      rw [A u (ring_mod hp hu'), if_neg h1, if_neg (ne_mem hu hpn.1), if_neg h2]
    · rw [B z nz.1, if_neg hzq, if_neg hzl, if_pos rfl]
    · rw [A f nf.1, if_neg (Ne.symm hqf), if_neg (Ne.symm hpf), if_pos rfl]
    · rw [hl] at hne
      have hu' : u ∈ q :: f :: M := List.mem_cons_of_mem _ hu
      have h1 : u ≠ z := fun e => hd z hzm (by rw [← e]; exact hu')
      rw [B u (ring_mod hq hu'), if_neg (ne_mem hu hqn.1), if_neg hne, if_neg h1]
    · have hu1 : u ∈ f :: M := List.mem_cons_of_mem _ hu
      have hu' : u ∈ q :: f :: M := List.mem_cons_of_mem _ hu1
      have h1 : u ≠ p := fun e => hd p (by simp) (by rw [← e]; exact hu')
      rw [A u (ring_mod hq hu'), if_neg (ne_mem hu1 hqn.1), if_neg h1, if_neg (ne_mem hu hfn.1)]
  · rw [lastOf_append, hl]
    refine ⟨?_, ?_⟩
    · rw [B l nl.1, if_neg (Ne.symm hql), if_pos rfl]
    · rw [A p np.1, if_neg hpq, if_pos rfl]
  · rw [List.nodup_cons, List.nodup_append]
    refine ⟨?_, hpn.2, hqn.2, ?_⟩
    · intro h
      rcases List.mem_append.1 h with h | h
      · exact hpn.1 h
      · exact hd p (by simp) (List.mem_cons_of_mem _ h)
    · intro a ha b hb e
      subst e
      exact hd a (List.mem_cons_of_mem _ ha) (List.mem_cons_of_mem _ hb)
  · intro u hu
    have : Node P W u := by
      rcases List.mem_cons.1 hu with rfl | hu
      · exact np
      · rcases List.mem_append.1 hu with h | h
        · exact hp.node u (List.mem_cons_of_mem _ h)
        · exact hq.node u (List.mem_cons_of_mem _ h)
    exact ⟨this.1, by rw [setAll_length]; exact this.2⟩
  · refine ⟨?_, ?_⟩
    · rw [A q nq.1, if_pos rfl]
    · rw [B q nq.1, if_pos rfl]
theorem join_other [Sep P] {W : List Nat} {p q f h : Nat} {L M N : List Nat} (hp : Ring P W p L) (hq : Ring P W q (f :: M)) (ho : Ring P W h N) (hd : ∀ u ∈ h :: N, u ∉ p :: L ∧ u ∉ q :: f :: M) :
    Ring P (setAll W [(lastOf p L, 2, f), (f, 1, lastOf p L), (lastOf f M, 2, p), (p, 1, lastOf f M), (q, 1, q), (q, 2, q)]) h N := by
  have hzm := lastOf_mem p L
  have hlm : lastOf f M ∈ q :: f :: M := List.mem_cons_of_mem _ (lastOf_mem f M)
  have np := hp.node p (by simp)
  have nz := hp.node _ hzm
  have nq := hq.node q (by simp)
  have nf := hq.node f (by simp)
  have nl := hq.node _ hlm
  refine ho.frame (setAll_length _ _) (fun u hu => ?_) (fun u hu => ?_)
  · obtain ⟨h1, h2⟩ := hd u hu
    rw [join_B np nq nf nl nz (ring_mod ho hu), if_neg (fun e => h2 (by simp [e])), if_neg (fun e => h2 (by rw [e]; exact hlm)), if_neg (fun e => h1 (by rw [e]; exact hzm))]
  · obtain ⟨h1, h2⟩ := hd u hu
    rw [join_A np nq nf nl nz (ring_mod ho hu), if_neg (fun e => h2 (by simp [e])), if_neg (fun e => h1 (by simp [e])), if_neg (fun e => h2 (by simp [e]))]

/-- Who stands ahead of q and behind it. -/
def headOr (h : Nat) : List Nat → Nat
  | [] => h
  | x :: _ => x
theorem ring_around {W : List Nat} {h q : Nat} {L M : List Nat} (hr : Ring P W h (L ++ q :: M)) : wat W (q + 1) = lastOf h L ∧ wat W (q + 2) = headOr h M := by
  obtain ⟨h1, h2, h3⟩ := (Path_append W h q L M).1 hr.path
  refine ⟨h2.2, ?_⟩
  cases M with
  | nil =>
    have := hr.back.1
    rw [lastOf_append] at this
    exact this
  | cons x M => exact h3.1.1

/-- q is taken out of its ring. -/
theorem ring_remove [Sep P] {W : List Nat} {h q : Nat} {L M : List Nat} (hr : Ring P W h (L ++ q :: M)) :
    Ring P (setAll W [(lastOf h L, 2, headOr h M), (headOr h M, 1, lastOf h L), (q, 1, q), (q, 2, q)]) h (L ++ M) ∧
    Lone (setAll W [(lastOf h L, 2, headOr h M), (headOr h M, 1, lastOf h L), (q, 1, q), (q, 2, q)]) q := by
  obtain ⟨h1, h2, h3⟩ := (Path_append W h q L M).1 hr.path
  have hnd := List.nodup_cons.1 hr.nodup
  have hnd2 := List.nodup_append.1 hnd.2
  have hqM := List.nodup_cons.1 hnd2.2.1
  have ham := lastOf_mem h L
  obtain ⟨a, ha⟩ : ∃ a, lastOf h L = a := ⟨_, rfl⟩
  rw [ha] at ham ⊢
  have haW : a ∈ h :: (L ++ q :: M) := by
    rcases List.mem_cons.1 ham with h | h
    · simp [h]
    · exact List.mem_cons_of_mem _ (List.mem_append_left _ h)
  have hqW : q ∈ h :: (L ++ q :: M) := by simp
  have hxm : headOr h M ∈ h :: M := by cases M <;> simp [headOr]
  have hxW : headOr h M ∈ h :: (L ++ q :: M) := by
    rcases List.mem_cons.1 hxm with h | h
    · simp [h]
    · exact List.mem_cons_of_mem _ (List.mem_append_right _ (List.mem_cons_of_mem _ h))
  have nh := hr.node h (by simp)
  have na := hr.node a haW
  have nq := hr.node q hqW
  have nx := hr.node _ hxW
  have hhq : h ≠ q := fun e => hnd.1 (by simp [e])
  have hLq : ∀ u ∈ L, u ≠ q := fun u hu => hnd2.2.2 u hu q (by simp)
  have hLM : ∀ u ∈ L, ∀ v ∈ M, u ≠ v := fun u hu v hv => hnd2.2.2 u hu v (List.mem_cons_of_mem _ hv)
  have hhL : h ∉ L := fun e => hnd.1 (List.mem_append_left _ e)
  have hhM : h ∉ M := fun e => hnd.1 (List.mem_append_right _ (List.mem_cons_of_mem _ e))
  have haq : a ≠ q := by
    rcases List.mem_cons.1 ham with h | h
    · rw [h]; exact hhq
    · exact hLq a h
  have B := fun u (hu : P u) => rem_B na nq nx hu
  have A := fun u (hu : P u) => rem_A na nq nx hu
  have hnodL : (h :: L).Nodup := List.nodup_cons.2 ⟨hhL, hnd2.1⟩
  have nodes : ∀ u, u ∈ h :: (L ++ M) → Node P W u := by
    intro u hu
    apply hr.node
    simp only [List.mem_cons, List.mem_append] at hu ⊢
    rcases hu with h | h | h
    · exact Or.inl h
    · exact Or.inr (Or.inl h)
    · exact Or.inr (Or.inr (Or.inr h))
  have hnodA : (h :: (L ++ M)).Nodup := by
    rw [List.nodup_cons, List.nodup_append]
    refine ⟨fun e => ?_, hnd2.1, hqM.2, fun u hu v hv => hLM u hu v hv⟩
    rcases List.mem_append.1 e with e | e
    · exact hhL e
    · exact hhM e
  have hlone : Lone (setAll W [(a, 2, headOr h M), (headOr h M, 1, a), (q, 1, q), (q, 2, q)]) q := by
    refine ⟨?_, ?_⟩
    · rw [A q nq.1, if_pos rfl]
    · rw [B q nq.1, if_pos rfl]
  have hpL : Path (setAll W [(a, 2, headOr h M), (headOr h M, 1, a), (q, 1, q), (q, 2, q)]) h L := by
    refine h1.frame hnodL (fun u hu hne => ?_) (fun u hu => ?_)
    · rw [ha] at hne
      have hm : P u := (nodes u (by rcases List.mem_cons.1 hu with e | e; simp [e]; simp [e])).1
      have huq : u ≠ q := by
        rcases List.mem_cons.1 hu with e | e
        · rw [e]; exact hhq
        · exact hLq u e
      rw [B u hm, if_neg huq, if_neg hne]
    · have hm : P u := (nodes u (by simp [hu])).1
      have hux : u ≠ headOr h M := by
        intro e
        rcases List.mem_cons.1 hxm with e2 | e2
        · exact hhL (by rw [← e2, ← e]; exact hu)
        · exact hLM u hu _ e2 e
      rw [A u hm, if_neg (hLq u hu), if_neg hux]
  refine ⟨?_, hlone⟩
  cases M with
  | nil =>
    simp only [headOr, List.append_nil] at *
    have A := fun u (hu : P u) => rem_A na nq nx hu
    have B := fun u (hu : P u) => rem_B na nq nx hu
    refine ⟨hpL, ?_, hnodL, fun u hu => ?_⟩
    · rw [ha]
      refine ⟨?_, ?_⟩
      · rw [B a na.1, if_neg haq, if_pos rfl]
      · rw [A h nh.1, if_neg hhq]; simp
    · have := nodes u hu
      exact ⟨this.1, by rw [setAll_length]; exact this.2⟩
  | cons x M =>
    simp only [headOr] at *
    have A := fun u (hu : P u) => rem_A na nq nx hu
    have B := fun u (hu : P u) => rem_B na nq nx hu
    have hqx : x ≠ q := fun e => hqM.1 (by simp [e])
    have hax : a ≠ x := by
      rcases List.mem_cons.1 ham with e | e
      · rw [e]; exact fun e2 => hhM (by simp [e2])
      · exact hLM a e x (by simp)
    have hxn := List.nodup_cons.1 hqM.2
    refine ⟨?_, ?_, hnodA, fun u hu => ?_⟩
    · rw [Path_append, ha]
      refine ⟨hpL, ⟨?_, ?_⟩, h3.2.frame hqM.2 (fun u hu hne => ?_) (fun u hu => ?_)⟩
      · rw [B a na.1, if_neg haq, if_pos rfl]
      · rw [A x nx.1, if_neg hqx]; simp
      · have hm : P u := (nodes u (List.mem_cons_of_mem _ (List.mem_append_right _ hu))).1
        have hua : u ≠ a := by
          rcases List.mem_cons.1 ham with e | e
          · rw [e]; exact ne_mem hu hhM
          · exact fun e2 => hLM a e u hu e2.symm
        rw [B u hm, if_neg (ne_mem hu hqM.1), if_neg hua]
      · have hu' : u ∈ x :: M := List.mem_cons_of_mem _ hu
        have hm : P u := (nodes u (List.mem_cons_of_mem _ (List.mem_append_right _ hu'))).1
        rw [A u hm, if_neg (ne_mem hu' hqM.1), if_neg (ne_mem hu hxn.1)]
    · have hb := hr.back
      rw [lastOf_append] at hb
      rw [lastOf_append]
      have hb1 : lastOf q (x :: M) = lastOf x M := rfl
      rw [hb1] at hb
      have hll := lastOf_mem x M
      have hm : P (lastOf x M) := (nodes _ (List.mem_cons_of_mem _ (List.mem_append_right _ hll))).1
      have hla : lastOf x M ≠ a := by
        rcases List.mem_cons.1 ham with e | e
        · rw [e]; exact ne_mem hll hhM
        · exact fun e2 => hLM a e _ hll e2.symm
      refine ⟨?_, ?_⟩
      · rw [B _ hm, if_neg (ne_mem hll hqM.1), if_neg hla]; exact hb.1
      · rw [A h nh.1, if_neg hhq, if_neg (fun e => hhM (by simp [e]))]; exact hb.2
    · have := nodes u hu
      exact ⟨this.1, by rw [setAll_length]; exact this.2⟩
theorem remove_other [Sep P] {W : List Nat} {h q g : Nat} {L M N : List Nat} (hr : Ring P W h (L ++ q :: M)) (ho : Ring P W g N) (hd : ∀ u ∈ g :: N, u ∉ h :: (L ++ q :: M)) :
    Ring P (setAll W [(lastOf h L, 2, headOr h M), (headOr h M, 1, lastOf h L), (q, 1, q), (q, 2, q)]) g N := by
  have ham : lastOf h L ∈ h :: (L ++ q :: M) := by
    rcases List.mem_cons.1 (lastOf_mem h L) with h | h
    · rw [h]; simp
    · exact List.mem_cons_of_mem _ (List.mem_append_left _ h)
  have hxm : headOr h M ∈ h :: (L ++ q :: M) := by
    cases M with
    | nil => simp [headOr]
    | cons x M => simp [headOr]
  have hqm : q ∈ h :: (L ++ q :: M) := by simp
  refine ho.frame (setAll_length _ _) (fun u hu => ?_) (fun u hu => ?_)
  · rw [rem_B (hr.node _ ham) (hr.node _ hqm) (hr.node _ hxm) (ring_mod ho hu), if_neg (fun e => hd u hu (by rw [e]; exact hqm)), if_neg (fun e => hd u hu (by rw [e]; exact ham))]
  · rw [rem_A (hr.node _ ham) (hr.node _ hqm) (hr.node _ hxm) (ring_mod ho hu), if_neg (fun e => hd u hu (by rw [e]; exact hqm)), if_neg (fun e => hd u hu (by rw [e]; exact hxm))]


theorem ring_rotate {W : List Nat} {h k : Nat} {L M : List Nat} (hr : Ring P W h (L ++ k :: M)) : Ring P W k (M ++ h :: L) := by
  obtain ⟨h1, h2, h3⟩ := (Path_append W h k L M).1 hr.path
  have hb := hr.back
  rw [lastOf_append] at hb
  have hperm : (k :: (M ++ h :: L)).Perm (h :: (L ++ k :: M)) := by
    have e1 : (k :: (M ++ h :: L)) = (k :: M) ++ (h :: L) := by simp
    have e2 : (h :: (L ++ k :: M)) = (h :: L) ++ (k :: M) := by simp
    rw [e1, e2]
    exact List.perm_append_comm
  refine ⟨(Path_append W k h M L).2 ⟨h3, hb, h1⟩, ?_, hperm.nodup_iff.2 hr.nodup, fun u hu => hr.node u (hperm.mem_iff.1 hu)⟩
  rw [lastOf_append]
  exact h2
/-- q is put behind k, anywhere in h's ring. -/
theorem ring_insert_at [Sep P] {W : List Nat} {h k q : Nat} {L M : List Nat} (hr : Ring P W h (L ++ k :: M)) (hq : Node P W q) (hn : q ∉ h :: (L ++ k :: M)) :
    Ring P (setAll W [(q, 1, k), (q, 2, wat W (k + 2)), (k, 2, q), (wat W (k + 2), 1, q)]) h (L ++ k :: q :: M) := by
  have h1 := ring_rotate hr
  have hn' : q ∉ k :: (M ++ h :: L) := by
    intro e
    apply hn
    simp only [List.mem_cons, List.mem_append] at e ⊢
    rcases e with e | e | e | e
    · exact Or.inr (Or.inr (Or.inl e))
    · exact Or.inr (Or.inr (Or.inr e))
    · exact Or.inl e
    · exact Or.inr (Or.inl e)
  have h2 := ring_insert h1 hq hn'
  have h3 : Ring P (setAll W [(q, 1, k), (q, 2, wat W (k + 2)), (k, 2, q), (wat W (k + 2), 1, q)]) k ((q :: M) ++ h :: L) := h2
  exact ring_rotate h3
theorem lastOf_snoc {h : Nat} {L : List Nat} (hL : L ≠ []) : ∃ A, L = A ++ [lastOf h L] := by
  induction L generalizing h with
  | nil => exact absurd rfl hL
  | cons x L ih =>
    by_cases e : L = []
    · subst e; exact ⟨[], rfl⟩
    · obtain ⟨A, hA⟩ := ih (h := x) e
      exact ⟨x :: A, by show x :: L = x :: A ++ [lastOf x L]; rw [List.cons_append, ← hA]⟩
/-- q is put at the end. -/
theorem ring_insert_last [Sep P] {W : List Nat} {h q : Nat} {L : List Nat} (hr : Ring P W h L) (hq : Node P W q) (hn : q ∉ h :: L) :
    Ring P (setAll W [(q, 1, lastOf h L), (q, 2, wat W (lastOf h L + 2)), (lastOf h L, 2, q), (wat W (lastOf h L + 2), 1, q)]) h (L ++ [q]) := by
  by_cases e : L = []
  · subst e
    exact ring_insert hr hq hn
  · obtain ⟨A, hA⟩ := lastOf_snoc (h := h) e
    obtain ⟨k, hk⟩ : ∃ k, lastOf h L = k := ⟨_, rfl⟩
    rw [hk] at hA ⊢
    rw [hA] at hr hn ⊢
    have := ring_insert_at hr hq hn
    simpa using this
/-- What is put into one ring is nothing to another one. -/
theorem insert_other_at [Sep P] {W : List Nat} {p k q h : Nat} {L M : List Nat} (hr : Ring P W p L) (hk : k ∈ p :: L) (hq : Node P W q) (ho : Ring P W h M) (hd : ∀ u ∈ h :: M, u ∉ p :: L ∧ u ≠ q) :
    Ring P (setAll W [(q, 1, k), (q, 2, wat W (k + 2)), (k, 2, q), (wat W (k + 2), 1, q)]) h M := by
  have hxm : wat W (k + 2) ∈ p :: L := ring_next hr hk
  have np := hr.node k hk
  have nx := hr.node _ hxm
  refine ho.frame (setAll_length _ _) (fun u hu => ?_) (fun u hu => ?_)
  · obtain ⟨h1, h2⟩ := hd u hu
    rw [ins_B np hq nx (ho.node u hu).1, if_neg (fun e => h1 (by rw [e]; exact hk)), if_neg h2]
  · obtain ⟨h1, h2⟩ := hd u hu
    rw [ins_A np hq nx (ho.node u hu).1, if_neg (fun e => h1 (by rw [e]; exact hxm)), if_neg h2]
/-- Words that are no links stay. -/
theorem wat_setAll {W : List Nat} {l : List Tie} {p : Nat} (h : ∀ t ∈ l, t.1 + t.2.1 ≠ p) : wat (setAll W l) p = wat W p := by
  unfold setAll
  induction l generalizing W with
  | nil => rfl
  | cons t l ih =>
    rw [List.foldl_cons, ih (fun t' ht' => h t' (List.mem_cons_of_mem _ ht'))]
    unfold wat
    simp only [List.getD]
    rw [List.getElem?_set_ne (h t List.mem_cons_self)]

end Go.Proofs.Ytbjlapfcnldpoaa

/- The heap's words as lists of cells: where cells lie, what moving one does. No program in sight. -/
namespace Go.Proofs.Ytbjlapfcnldpoaa
set_option linter.unusedVariables false
set_option linter.unusedSimpArgs false
open Go.RowKit

/-- Where a size's cells begin. -/
def stt (cs : List Nat) (c : Nat) : Nat := (starts cs).getD c 0
theorem stt0 (cs : List Nat) : stt cs 0 = 51 := rfl
theorem stt_step (cs : List Nat) {c : Nat} (hc : c < 4) : stt cs (c + 1) = stt cs c + cs.getD c 0 * (3 + szs c) := by
  have : c = 0 ∨ c = 1 ∨ c = 2 ∨ c = 3 := by omega
  rcases this with rfl | rfl | rfl | rfl <;> simp [stt, starts, szs]
theorem stt_mono (cs : List Nat) {c c' : Nat} (h : c ≤ c') (hc : c' ≤ 4) : stt cs c ≤ stt cs c' := by
  induction c' with
  | zero => have : c = 0 := by omega
            subst this; exact Nat.le_refl _
  | succ k ih =>
    by_cases e : c = k + 1
    · subst e; exact Nat.le_refl _
    · have h1 := ih (by omega) (by omega)
      rw [stt_step cs (by omega)]
      omega
theorem stt_ge (cs : List Nat) {c : Nat} (hc : c ≤ 4) : 51 ≤ stt cs c := stt_mono cs (Nat.zero_le c) hc

/-- u is the place of a cell of size c. -/
def IsC (cs : List Nat) (c u : Nat) : Prop := c < 4 ∧ ∃ i, i < cs.getD c 0 ∧ u = stt cs c + i * (3 + szs c)
/-- A list's head, or a cell. -/
def Base (cs : List Nat) (u : Nat) : Prop := (u < 51 ∧ u % 3 = 0) ∨ ∃ c, IsC cs c u
theorem IsC.bd {cs : List Nat} {c u : Nat} (h : IsC cs c u) : stt cs c ≤ u ∧ u + 3 + szs c ≤ stt cs (c + 1) := by
  obtain ⟨hc, i, hi, rfl⟩ := h
  refine ⟨Nat.le_add_right _ _, ?_⟩
  rw [stt_step cs hc]
  have := Nat.mul_le_mul_right (3 + szs c) (show i + 1 ≤ cs.getD c 0 by omega)
  rw [Nat.add_mul] at this
  omega
theorem IsC.ge {cs : List Nat} {c u : Nat} (h : IsC cs c u) : 51 ≤ u := Nat.le_trans (stt_ge cs (Nat.le_of_lt h.1)) h.bd.1
theorem IsC.lt {cs : List Nat} {c u : Nat} (h : IsC cs c u) : u + 3 + szs c ≤ stt cs 4 := Nat.le_trans h.bd.2 (stt_mono cs (by have := h.1; omega) (by omega))
theorem IsC.apart {cs : List Nat} {c c' u v : Nat} (h : IsC cs c u) (h' : IsC cs c' v) : (u = v ∧ c = c') ∨ u + 3 + szs c ≤ v ∨ v + 3 + szs c' ≤ u := by
  have b := h.bd
  have b' := h'.bd
  have hc := h.1
  have hc' := h'.1
  rcases Nat.lt_trichotomy c c' with hlt | he | hlt
  · have := stt_mono cs (show c + 1 ≤ c' by omega) (by omega); omega
  · subst he
    obtain ⟨-, i, hi, rfl⟩ := h
    obtain ⟨-, j, hj, rfl⟩ := h'
    rcases Nat.lt_trichotomy i j with hij | hij | hij
    · have := Nat.mul_le_mul_right (3 + szs c) (show i + 1 ≤ j by omega)
      rw [Nat.add_mul] at this
      omega
    · subst hij; exact Or.inl ⟨rfl, rfl⟩
    · have := Nat.mul_le_mul_right (3 + szs c) (show j + 1 ≤ i by omega)
      rw [Nat.add_mul] at this
      omega
  · have := stt_mono cs (show c' + 1 ≤ c by omega) (by omega); omega
theorem IsC.one {cs : List Nat} {c c' u : Nat} (h : IsC cs c u) (h' : IsC cs c' u) : c = c' := by
  rcases h.apart h' with ⟨-, e⟩ | e | e
  · exact e
  · omega
  · omega
theorem cell_apart {cs : List Nat} {c u v : Nat} (h : IsC cs c u) (h' : Base cs v) : u = v ∨ u + 3 + szs c ≤ v ∨ v + 3 ≤ u := by
  rcases h' with ⟨h1, h2⟩ | ⟨c', h'⟩
  · have := h.ge; omega
  · rcases h.apart h' with ⟨e, -⟩ | e | e
    · exact Or.inl e
    · exact Or.inr (Or.inl e)
    · exact Or.inr (Or.inr (by omega))
instance sepBase (cs : List Nat) : Sep (Base cs) where
  sep := by
    intro u v hu hv
    rcases hu with hu | ⟨c, hu⟩
    · rcases hv with hv | ⟨c', hv⟩
      · omega
      · have := hv.ge; omega
    · have := cell_apart hu hv
      omega
theorem head_base (cs : List Nat) {c l : Nat} (hc : c < 4) (hl : l < 4) : Base cs (thead c l) := Or.inl ⟨by unfold thead; omega, by unfold thead; omega⟩
theorem thead_lt {c l : Nat} (hc : c < 4) (hl : l < 4) : thead c l + 3 ≤ 48 := by unfold thead; omega
theorem thead_inj {c l c' l' : Nat} (hl : l < 4) (hl' : l' < 4) (h : thead c l = thead c' l') : c = c' ∧ l = l' := by unfold thead at h; omega
/-- A field's word is no link. -/
theorem field_ne {cs : List Nat} {c u v i j : Nat} (h : IsC cs c u) (hi : i < szs c) (hv : Base cs v) (hj : j ≤ 2) : v + j ≠ u + 3 + i := by
  have := cell_apart h hv
  omega
theorem header_ne {cs : List Nat} {c u v j : Nat} (h : IsC cs c u) (hv : Base cs v) (h1 : 1 ≤ j) (hj : j ≤ 2) : v + j ≠ u := by
  have := cell_apart h hv
  omega

theorem hform_hdr {f t m n : Nat} (hf : f < 4) (ht : t < 16) (hm : m < 4) (hn' : n < 256) : hform (hdr f t m n) = f := by unfold hform hdr; omega
theorem htag_hdr {f t m n : Nat} (hf : f < 4) (ht : t < 16) (hm : m < 4) (hn' : n < 256) : htag (hdr f t m n) = t := by unfold htag hdr; omega
theorem hmark_hdr {f t m n : Nat} (hf : f < 4) (ht : t < 16) (hm : m < 4) (hn' : n < 256) : hmark (hdr f t m n) = m := by unfold hmark hdr; omega
theorem hn_hdr {f t m n : Nat} (hf : f < 4) (ht : t < 16) (hm : m < 4) (hn' : n < 256) : hn (hdr f t m n) = n := by unfold hn hdr; omega
theorem hdr_lt {f t m n : Nat} (hf : f < 4) (ht : t < 16) (hm : m < 4) (hn' : n < 256) : hdr f t m n < 65536 := by unfold hdr; omega
theorem hform_lt (h : Nat) : hform h < 4 := by unfold hform; omega
theorem htag_lt (h : Nat) : htag h < 16 := by unfold htag; omega
theorem hmark_lt (h : Nat) : hmark h < 4 := by unfold hmark; omega
theorem hn_lt (h : Nat) : hn h < 256 := by unfold hn; omega

/-- The words W hold the lists L as rings; headers are headers. -/
structure RL (cs : List Nat) (W : List Nat) (L : Nat → Nat → List Nat) : Prop where
  wl : W.length = stt cs 4
  ring : ∀ c l, c < 4 → l < 4 → Ring (Base cs) W (thead c l) (L c l)
  mem : ∀ c l u, c < 4 → l < 4 → u ∈ L c l → IsC cs c u
  disj : ∀ c l l' u, c < 4 → l < 4 → l' < 4 → u ∈ L c l → u ∈ L c l' → l = l'
  hdr : ∀ c u, IsC cs c u → wat W u < 65536
/-- Headers but u's, and all fields, are the same. -/
structure Fr (cs : List Nat) (W W' : List Nat) (X : Nat → Prop) : Prop where
  hdr : ∀ c v, IsC cs c v → ¬ X v → wat W' v = wat W v
  fld : ∀ c v i, IsC cs c v → i < szs c → wat W' (v + 3 + i) = wat W (v + 3 + i)
theorem Fr.refl (cs W : List Nat) (X : Nat → Prop) : Fr cs W W X := ⟨fun _ _ _ _ => rfl, fun _ _ _ _ _ => rfl⟩
theorem Fr.trans {cs A B C : List Nat} {X : Nat → Prop} (h : Fr cs A B X) (k : Fr cs B C X) : Fr cs A C X :=
  ⟨fun c v hv hx => (k.hdr c v hv hx).trans (h.hdr c v hv hx), fun c v i hv hi => (k.fld c v i hv hi).trans (h.fld c v i hv hi)⟩
theorem Fr.mono {cs A B : List Nat} {X Y : Nat → Prop} (h : Fr cs A B X) (hxy : ∀ v, X v → Y v) : Fr cs A B Y :=
  ⟨fun c v hv hx => h.hdr c v hv (fun e => hx (hxy v e)), h.fld⟩
theorem fr_setAll {cs W : List Nat} {l : List Tie} (h : ∀ t ∈ l, Base cs t.1 ∧ 1 ≤ t.2.1 ∧ t.2.1 ≤ 2) (X : Nat → Prop) : Fr cs W (setAll W l) X :=
  ⟨fun c v hv _ => wat_setAll (fun t ht => header_ne hv (h t ht).1 (h t ht).2.1 (h t ht).2.2), fun c v i hv hi => wat_setAll (fun t ht => field_ne hv hi (h t ht).1 (h t ht).2.2)⟩
theorem fr_header {cs W : List Nat} {c u x : Nat} (hu : IsC cs c u) (hw : u < W.length) : Fr cs W (W.set u x) (fun v => v = u) :=
  ⟨fun c' v hv hx => by rw [wat_set _ _ _ _ hw, if_neg hx], fun c' v i hv hi => by
    rw [wat_set _ _ _ _ hw, if_neg (fun e => field_ne hv hi (Or.inr ⟨c, hu⟩) (Nat.zero_le 2) (by omega))]⟩

def mv (L : Nat → Nat → List Nat) (c l l' u : Nat) : Nat → Nat → List Nat :=
  fun c2 l2 => if c2 = c then (if l2 = l then (L c l).erase u else if l2 = l' then u :: L c l' else L c l2) else L c2 l2
theorem split_mem {L : List Nat} {u : Nat} (h : u ∈ L) (hn : L.Nodup) : ∃ A B, L = A ++ u :: B ∧ L.erase u = A ++ B := by
  obtain ⟨A, B, e⟩ := List.append_of_mem h
  refine ⟨A, B, e, ?_⟩
  subst e
  have hA : u ∉ A := fun hm => (List.nodup_append.1 hn).2.2 u hm u (by simp) rfl
  rw [List.erase_append_right _ hA]
  simp

section
variable {cs W : List Nat} {L : Nat → Nat → List Nat}
theorem RL.node (h : RL cs W L) {u : Nat} (hu : Base cs u) : Node (Base cs) W u := by
  refine ⟨hu, ?_⟩
  rw [h.wl]
  rcases hu with hu | ⟨c, hu⟩
  · have := stt_ge cs (Nat.le_refl 4); omega
  · have := hu.lt; omega
theorem RL.mem_base (h : RL cs W L) {c l : Nat} (hc : c < 4) (hl : l < 4) {u : Nat} (hu : u ∈ thead c l :: L c l) : Base cs u := ((h.ring c l hc hl).node u hu).1
theorem RL.apart (h : RL cs W L) {c l c' l' : Nat} (hc : c < 4) (hl : l < 4) (hc' : c' < 4) (hl' : l' < 4) (hne : ¬ (c = c' ∧ l = l')) : ∀ u ∈ thead c l :: L c l, u ∉ thead c' l' :: L c' l' := by
  intro u hu hu'
  rcases List.mem_cons.1 hu with e | e <;> rcases List.mem_cons.1 hu' with e' | e'
  · exact hne (thead_inj hl hl' (e.symm.trans e'))
  · have := (h.mem c' l' u hc' hl' e').ge
    have := thead_lt hc hl
    omega
  · have := (h.mem c l u hc hl e).ge
    have := thead_lt hc' hl'
    omega
  · have a := h.mem c l u hc hl e
    have b := h.mem c' l' u hc' hl' e'
    have e2 := a.one b
    subst e2
    exact hne ⟨rfl, h.disj c l l' u hc hl hl' e e'⟩
theorem RL.nodup (h : RL cs W L) {c l : Nat} (hc : c < 4) (hl : l < 4) : (L c l).Nodup := (List.nodup_cons.1 (h.ring c l hc hl).nodup).2
theorem RL.header (h : RL cs W L) {c u x : Nat} (hu : IsC cs c u) (hx : x < 65536) : RL cs (W.set u x) L := by
  have hw : u < W.length := by have := (h.node (Or.inr ⟨c, hu⟩)).2; omega
  refine ⟨by simpa using h.wl, fun c' l hc' hl => ?_, h.mem, h.disj, fun c' v hv => ?_⟩
  · refine (h.ring c' l hc' hl).frame (by simp) (fun v hv => ?_) (fun v hv => ?_)
    · rw [wat_set _ _ _ _ hw, if_neg (header_ne hu (h.mem_base hc' hl hv) (by omega) (by omega))]
    · rw [wat_set _ _ _ _ hw, if_neg (header_ne hu (h.mem_base hc' hl hv) (by omega) (by omega))]
  · rw [wat_set _ _ _ _ hw]
    split
    · exact hx
    · exact h.hdr c' v hv
end

/-- A cell goes from one list of its size to another one. -/
theorem rl_move {cs W : List Nat} {L : Nat → Nat → List Nat} (h : RL cs W L) {c l l' u x : Nat} (hc : c < 4) (hl : l < 4) (hl' : l' < 4) (hne : l ≠ l') (hu : u ∈ L c l) (hx : x < 65536) :
    ∃ W1 W2 W3, wrt W u x = some W1 ∧ oRemove W1 u = some W2 ∧ oInsert W2 (thead c l') u = some W3 ∧ RL cs W3 (mv L c l l' u) ∧ Fr cs W W3 (fun v => v = u) ∧ wat W3 u = x := by
  have huc := h.mem c l u hc hl hu
  have hw : u < W.length := by have := (h.node (Or.inr ⟨c, huc⟩)).2; omega
  have h1 := h.header huc hx
  have f1 := fr_header (x := x) huc hw
  have x1 : wat (W.set u x) u = x := by rw [wat_set _ _ _ _ hw, if_pos rfl]
  refine ⟨W.set u x, ?_⟩
  have e1 : wrt W u x = some (W.set u x) := by unfold wrt; rw [if_pos hw]
  generalize W.set u x = W1 at *
  obtain ⟨A, B, hAB, her⟩ := split_mem hu (h1.nodup hc hl)
  have hr := h1.ring c l hc hl
  rw [hAB] at hr
  obtain ⟨r1, r2⟩ := ring_around hr
  obtain ⟨q1, q2⟩ := ring_remove hr
  have ham : lastOf (thead c l) A ∈ thead c l :: (A ++ u :: B) := by
    rcases List.mem_cons.1 (lastOf_mem (thead c l) A) with h | h
    · rw [h]; simp
    · exact List.mem_cons_of_mem _ (List.mem_append_left _ h)
  have hxm : headOr (thead c l) B ∈ thead c l :: (A ++ u :: B) := by
    cases B with
    | nil => simp [headOr]
    | cons y B => simp [headOr]
  have na := hr.node _ ham
  have nx := hr.node _ hxm
  have nu := hr.node u (by simp)
  have e2 : oRemove W1 u = some (setAll W1 [(lastOf (thead c l) A, 2, headOr (thead c l) B), (headOr (thead c l) B, 1, lastOf (thead c l) A), (u, 1, u), (u, 2, u)]) := by
    unfold oRemove isPlace
    rw [r1, r2]
    simp [na.2, nx.2, nu.2]
  have hother : ∀ c' l', c' < 4 → l' < 4 → ¬ (c' = c ∧ l' = l) → Ring (Base cs) (setAll W1 [(lastOf (thead c l) A, 2, headOr (thead c l) B), (headOr (thead c l) B, 1, lastOf (thead c l) A), (u, 1, u), (u, 2, u)]) (thead c' l') (L c' l') := by
    intro c' l' hc' hl' hne'
    refine remove_other hr (h1.ring c' l' hc' hl') (fun v hv => ?_)
    have := h1.apart hc' hl' hc hl hne' v hv
    rwa [hAB] at this
  have f2 : Fr cs W1 (setAll W1 [(lastOf (thead c l) A, 2, headOr (thead c l) B), (headOr (thead c l) B, 1, lastOf (thead c l) A), (u, 1, u), (u, 2, u)]) (fun v => v = u) := by
    refine fr_setAll (fun t ht => ?_) _
    simp only [List.mem_cons, List.not_mem_nil, or_false] at ht
    rcases ht with rfl | rfl | rfl | rfl
    · exact ⟨na.1, by simp, by simp⟩
    · exact ⟨nx.1, by simp, by simp⟩
    · exact ⟨nu.1, by simp, by simp⟩
    · exact ⟨nu.1, by simp, by simp⟩
  have x2 : wat (setAll W1 [(lastOf (thead c l) A, 2, headOr (thead c l) B), (headOr (thead c l) B, 1, lastOf (thead c l) A), (u, 1, u), (u, 2, u)]) u = x := by
    rw [wat_setAll, x1]
    intro t ht
    simp only [List.mem_cons, List.not_mem_nil, or_false] at ht
    rcases ht with rfl | rfl | rfl | rfl
    · exact header_ne huc na.1 (by simp) (by simp)
    · exact header_ne huc nx.1 (by simp) (by simp)
    · exact header_ne huc nu.1 (by simp) (by simp)
    · exact header_ne huc nu.1 (by simp) (by simp)
  have l2 := setAll_length W1 [(lastOf (thead c l) A, 2, headOr (thead c l) B), (headOr (thead c l) B, 1, lastOf (thead c l) A), (u, 1, u), (u, 2, u)]
  have e2' := e2
  clear e2
  generalize setAll W1 [(lastOf (thead c l) A, 2, headOr (thead c l) B), (headOr (thead c l) B, 1, lastOf (thead c l) A), (u, 1, u), (u, 2, u)] = W2 at *
  refine ⟨W2, ?_⟩
  have hr' := hother c l' hc hl' (fun e => hne e.2.symm)
  have hnu : u ∉ thead c l' :: L c l' := h1.apart hc hl hc hl' (fun e => hne e.2) u (List.mem_cons_of_mem _ hu)
  have nu2 : Node (Base cs) W2 u := ⟨nu.1, by rw [l2]; exact nu.2⟩
  have i1 := ring_insert hr' nu2 hnu
  have hxm2 : wat W2 (thead c l' + 2) ∈ thead c l' :: L c l' := ring_next hr' (by simp)
  have np2 := hr'.node (thead c l') (by simp)
  have nx2 := hr'.node _ hxm2
  have e3 : oInsert W2 (thead c l') u = some (setAll W2 [(u, 1, thead c l'), (u, 2, wat W2 (thead c l' + 2)), (thead c l', 2, u), (wat W2 (thead c l' + 2), 1, u)]) := by
    unfold oInsert isPlace
    simp [np2.2, nx2.2, nu2.2]
  refine ⟨_, e1, e2', e3, ⟨?_, ?_, ?_, ?_, ?_⟩, ?_, ?_⟩
  · rw [setAll_length, l2]; exact h1.wl
  · intro c2 l2' hc2 hl2
    unfold mv
    by_cases ec : c2 = c
    · subst ec
      rw [if_pos rfl]
      by_cases el : l2' = l
      · subst el
        rw [if_pos rfl, her]
        refine insert_other hr' nu2 q1 (fun v hv => ⟨fun hv' => ?_, ?_⟩)
        · have hv2 : v ∈ thead c2 l2' :: L c2 l2' := by
            rw [hAB]
            simp only [List.mem_cons, List.mem_append] at hv ⊢
            rcases hv with e | e | e
            · exact Or.inl e
            · exact Or.inr (Or.inl e)
            · exact Or.inr (Or.inr (Or.inr e))
          exact h1.apart hc hl hc hl' (fun e => hne e.2) v hv2 hv'
        · intro e
          subst e
          have hnd := hr.nodup
          rw [List.nodup_cons, List.nodup_append] at hnd
          obtain ⟨n1, n2, n3, n4⟩ := hnd
          rcases List.mem_cons.1 hv with e | e
          · exact n1 (by rw [← e]; simp)
          · rcases List.mem_append.1 e with e | e
            · exact n4 v e v (by simp) rfl
            · exact (List.nodup_cons.1 n3).1 e
      · rw [if_neg el]
        by_cases el' : l2' = l'
        · subst el'
          rw [if_pos rfl]
          exact i1
        · rw [if_neg el']
          refine insert_other hr' nu2 (hother c2 l2' hc hl2 (fun e => el e.2)) (fun v hv => ⟨h1.apart hc hl2 hc hl' (fun e => el' e.2) v hv, ?_⟩)
          intro e
          subst e
          exact h1.apart hc hl2 hc hl (fun e => el e.2) v hv (List.mem_cons_of_mem _ hu)
    · rw [if_neg ec]
      refine insert_other hr' nu2 (hother c2 l2' hc2 hl2 (fun e => ec e.1)) (fun v hv => ⟨h1.apart hc2 hl2 hc hl' (fun e => ec e.1) v hv, ?_⟩)
      intro e
      subst e
      exact h1.apart hc2 hl2 hc hl (fun e => ec e.1) v hv (List.mem_cons_of_mem _ hu)
  · intro c2 l2' v hc2 hl2 hv
    unfold mv at hv
    by_cases ec : c2 = c
    · subst ec
      rw [if_pos rfl] at hv
      by_cases el : l2' = l
      · rw [if_pos el] at hv
        exact h1.mem c2 l v hc hl (List.mem_of_mem_erase hv)
      · rw [if_neg el] at hv
        by_cases el' : l2' = l'
        · rw [if_pos el'] at hv
          rcases List.mem_cons.1 hv with e | e
          · rw [e]; exact huc
          · exact h1.mem c2 l' v hc hl' e
        · rw [if_neg el'] at hv
          exact h1.mem c2 l2' v hc hl2 hv
    · rw [if_neg ec] at hv
      exact h1.mem c2 l2' v hc2 hl2 hv
  · intro c2 la lb v hc2 hla hlb hva hvb
    have key : ∀ l2', l2' < 4 → v ∈ mv L c l l' u c2 l2' → (c2 = c ∧ v = u ∧ l2' = l') ∨ (v ∈ L c2 l2' ∧ ¬ (c2 = c ∧ v = u)) := by
      intro l2' hl2 hv
      unfold mv at hv
      by_cases ec : c2 = c
      · subst ec
        rw [if_pos rfl] at hv
        by_cases el : l2' = l
        · subst el
          rw [if_pos rfl] at hv
          refine Or.inr ⟨List.mem_of_mem_erase hv, fun e => ?_⟩
          rw [e.2] at hv
          exact List.Nodup.not_mem_erase (h1.nodup hc hl) hv
        · rw [if_neg el] at hv
          by_cases el' : l2' = l'
          · subst el'
            rw [if_pos rfl] at hv
            rcases List.mem_cons.1 hv with e | e
            · exact Or.inl ⟨rfl, e, rfl⟩
            · refine Or.inr ⟨e, fun e2 => ?_⟩
              rw [e2.2] at e
              exact hnu (List.mem_cons_of_mem _ e)
          · rw [if_neg el'] at hv
            refine Or.inr ⟨hv, fun e => ?_⟩
            rw [e.2] at hv
            exact el (h1.disj c2 l2' l u hc hl2 hl hv hu)
      · rw [if_neg ec] at hv
        exact Or.inr ⟨hv, fun e => ec e.1⟩
    rcases key la hla hva with ⟨a1, a2, a3⟩ | ⟨a1, a2⟩ <;> rcases key lb hlb hvb with ⟨b1, b2, b3⟩ | ⟨b1, b2⟩
    · rw [a3, b3]
    · exact absurd ⟨a1, a2⟩ b2
    · exact absurd ⟨b1, b2⟩ a2
    · exact h1.disj c2 la lb v hc2 hla hlb a1 b1
  · intro c2 v hv
    rw [wat_setAll]
    · by_cases e : v = u
      · rw [e, x2]; exact hx
      · rw [f2.hdr c2 v hv e]
        exact h1.hdr c2 v hv
    · intro t ht
      simp only [List.mem_cons, List.not_mem_nil, or_false] at ht
      rcases ht with rfl | rfl | rfl | rfl
      · exact header_ne hv nu2.1 (by simp) (by simp)
      · exact header_ne hv nu2.1 (by simp) (by simp)
      · exact header_ne hv np2.1 (by simp) (by simp)
      · exact header_ne hv nx2.1 (by simp) (by simp)
  · refine (f1.trans f2).trans (fr_setAll (fun t ht => ?_) _)
    simp only [List.mem_cons, List.not_mem_nil, or_false] at ht
    rcases ht with rfl | rfl | rfl | rfl
    · exact ⟨nu2.1, by simp, by simp⟩
    · exact ⟨nu2.1, by simp, by simp⟩
    · exact ⟨np2.1, by simp, by simp⟩
    · exact ⟨nx2.1, by simp, by simp⟩
  · rw [wat_setAll, x2]
    intro t ht
    simp only [List.mem_cons, List.not_mem_nil, or_false] at ht
    rcases ht with rfl | rfl | rfl | rfl
    · exact header_ne huc nu2.1 (by simp) (by simp)
    · exact header_ne huc nu2.1 (by simp) (by simp)
    · exact header_ne huc np2.1 (by simp) (by simp)
    · exact header_ne huc nx2.1 (by simp) (by simp)

end Go.Proofs.Ytbjlapfcnldpoaa

