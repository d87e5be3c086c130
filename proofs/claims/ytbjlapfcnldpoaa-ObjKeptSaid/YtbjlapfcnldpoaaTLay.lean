/- The heap's lay by its contract: all lists made, all cells free. -/
import Derived.Test.YtbjlapfcnldpoaaTRegs
namespace Go.Proofs.Ytbjlapfcnldpoaa
set_option linter.unusedVariables false
set_option linter.unusedSimpArgs false
open Go.RowKit

theorem oInit_parts {W W' : List Nat} {p : Nat} (h : oInit W p = some W') : p + 2 < W.length ∧ W' = setAll W [(p, 1, p), (p, 2, p)] := by
  unfold oInit isPlace at h
  simp only [decide_eq_true_eq] at h
  split at h
  · rename_i h1; injection h with h; exact ⟨h1, h.symm⟩
  · cases h
theorem oinit_is {b g p : Nat} {w : World} {W W' : List Nat} (hI : IsW w b g W) (h : oInit W p = some W') :
    Calls Try.prog 89 #[.pointer (some ⟨b, 0, none⟩), .int .i64 p] w fun e w' => e = .returned .nilIface ∧ IsW w' b g W' ∧ Keeps (foot b g) w w' := by
  obtain ⟨h1, rfl⟩ := oInit_parts h
  exact rinit_is hI h1
theorem oinsert_is {b g p q : Nat} {w : World} {W W' : List Nat} (hI : IsW w b g W) (h : oInsert W p q = some W') :
    Calls Try.prog 72 #[.pointer (some ⟨b, 0, none⟩), .int .i64 p, .int .i64 q] w fun e w' => e = .returned .nilIface ∧ IsW w' b g W' ∧ Keeps (foot b g) w w' := by
  obtain ⟨h1, h2, h3, rfl⟩ := oInsert_parts h
  exact rinsert_is hI h1 h2 rfl h3
theorem oremove_is {b g q : Nat} {w : World} {W W' : List Nat} (hI : IsW w b g W) (h : oRemove W q = some W') :
    Calls Try.prog 71 #[.pointer (some ⟨b, 0, none⟩), .int .i64 q] w fun e w' => e = .returned .nilIface ∧ IsW w' b g W' ∧ Keeps (foot b g) w w' := by
  obtain ⟨h1, h2, h3, rfl⟩ := oRemove_parts h
  exact rremove_is hI h1 rfl rfl h2 h3

theorem initAll_step {W W' : List Nat} {m i : Nat} (h : initAll W (m + 1) i = some W') : ∃ W1, oInit W (3 * i) = some W1 ∧ initAll W1 m (i + 1) = some W' := by
  simpa only [initAll, Option.bind_eq_some_iff] using h
theorem layC_step {W W' : List Nat} {s c n m i : Nat} (h : layC W s c n (m + 1) i = some W') : ∃ last W1 W2, oAhead W (thead c 0) = some last ∧ oInit W (s + i * (3 + n)) = some W1 ∧ oInsert W1 last (s + i * (3 + n)) = some W2 ∧ layC W2 s c n m (i + 1) = some W' := by
  simp only [layC, Option.bind_eq_bind, Option.bind_eq_some_iff] at h
  obtain ⟨a, h1, b, h2, c, h3, h4⟩ := h
  exact ⟨a, b, c, h1, h2, h3, h4⟩
def lay1 (s : TH) (c : Nat) : Option TH := (layC s.W (s.start.getD c 0) c (szs c) (s.count.getD c 0) 0).map fun W => lset { s with W := W } c 0 (s.count.getD c 0)
def layN : Nat → TH → Option TH
  | 0, s => some s
  | c + 1, s => (layN c s).bind fun s => lay1 s c
def tlay (s : TH) : Option TH := (initAll s.W 17 0).bind fun W => layN 4 { s with W := W }
theorem layN_step {s s4 : TH} (h : layN 4 s = some s4) {k : Nat} (hk : k < 4) {sk : TH} (hs : layN k s = some sk) : ∃ s', lay1 sk k = some s' ∧ layN (k + 1) s = some s' := by
  have hall : ∀ j, j ≤ 4 → (layN j s).isSome = true := by
    have h4 : (layN 4 s).isSome = true := by rw [h]; rfl
    have down : ∀ j, (layN (j + 1) s).isSome = true → (layN j s).isSome = true := by
      intro j hj
      cases hn : layN j s with
      | none => simp [layN, hn] at hj
      | some x => rfl
    intro j hj
    have h3 := down 3 h4
    have h2 := down 2 h3
    have h1 := down 1 h2
    have h0 := down 0 h1
    match j, hj with
    | 0, _ => exact h0
    | 1, _ => exact h1
    | 2, _ => exact h2
    | 3, _ => exact h3
    | 4, _ => exact h4
  have := hall (k + 1) (by omega)
  simp only [layN, hs, Option.bind_some] at this ⊢
  cases ht : lay1 sk k with
  | none => rw [ht] at this; cases this
  | some s' => exact ⟨s', rfl, rfl⟩
theorem lay1_parts {s s' : TH} {c : Nat} (h : lay1 s c = some s') : ∃ W, layC s.W (s.start.getD c 0) c (szs c) (s.count.getD c 0) 0 = some W ∧ s' = lset { s with W := W } c 0 (s.count.getD c 0) := by
  unfold lay1 at h
  simp only [Option.map_eq_some_iff] at h
  obtain ⟨W, h1, h2⟩ := h
  exact ⟨W, h1, h2.symm⟩
theorem layN_same {s : TH} : ∀ {n : Nat} {s' : TH}, layN n s = some s' → s'.start = s.start ∧ s'.count = s.count := by
  intro n
  induction n with
  | zero => intro s' h; simp only [layN, Option.some.injEq] at h; rw [h]; exact ⟨rfl, rfl⟩
  | succ n ih =>
    intro s' h
    simp only [layN, Option.bind_eq_some_iff] at h
    obtain ⟨t, h1, h2⟩ := h
    obtain ⟨a1, a2⟩ := ih h1
    obtain ⟨W, -, rfl⟩ := lay1_parts h2
    exact ⟨a1, a2⟩
theorem szs_le (k : Nat) : szs k ≤ 127 := by
  unfold szs
  match k with
  | 0 => simp
  | 1 => simp
  | 2 => simp
  | 3 => simp
  | n + 4 => simp

set_option maxRecDepth 100000 in
set_option maxHeartbeats 4000000 in
theorem lay_is {hb b g : Nat} {s s' : TH} {w : World} (hI : IsTH w hb b g s) (hs : tlay s = some s') (hst : ∀ c, s.start.getD c 0 ≤ 1048576) (hct : ∀ c, s.count.getD c 0 ≤ 4000) :
    Calls Try.prog 57 #[.pointer (some ⟨hb, 0, none⟩)] w fun e w' => e = .returned (.tuple #[]) ∧ IsTH w' hb b g s' ∧ Keeps (foot3 hb b g) w w' := by
  unfold tlay at hs
  simp only [Option.bind_eq_some_iff] at hs
  obtain ⟨W0, hs0, hs4⟩ := hs
  have H := Box.mk hI
  have Hs0 := Box.mk hs0
  have Hs4 := Box.mk hs4
  have Hb := Box.mk (And.intro hst hct)
  have K0 := Box.mk (Keeps.refl (foot3 hb b g) w)
  clear hI hs0 hs4 hst hct
  go_enter Try.func57, Try.ntmps57
  go_wp2_with fail
  go_loopw [2] (fun i wr => ∃ (k p : Nat) (W : List Nat), k ≤ 17 ∧ p ≤ 51 ∧ Box (p = 3 * k) ∧ i = .int .i64 p ∧ Box (initAll W (17 - k) k = some W0) ∧ Box (IsTH wr hb b g { s with W := W }) ∧ Box (Keeps (foot3 hb b g) w wr)) (fun i _ => 51 - (intOf i).toNat)
  case atStart => exact ⟨0, 0, s.W, by omega, by omega, ⟨rfl⟩, rfl, Hs0, H, K0⟩
  case round =>
    clear H K0 Hs0
    obtain ⟨k, p, W, hk, hp, HP, rfl, HN, HS, K⟩ := hrel
    by_cases hp51 : p < 51
    · have hk17 : k < 17 := by have := HP.out; omega
      obtain ⟨W1, h1, h2⟩ := initAll_step (m := 17 - k - 1) (by rw [show 17 - k - 1 + 1 = 17 - k by omega]; exact HN.out)
      rw [show 17 - k - 1 = 17 - (k + 1) by omega] at h2
      rw [← HP.out] at h1
      have H1 := Box.mk h1
      have H2 := Box.mk h2
      have hstore := HS.out.store
      clear h1 h2 HN
      go_wp2_with fail
      refine (oinit_is HS.out.iw H1.out).mono ?_
      rintro e w2 ⟨rfl, hI2, k2⟩
      have H3 : Box (IsTH w2 hb b g { s with W := W1 }) := ⟨HS.out.ring k2 hI2⟩
      have K2 := Box.mk (K.out.trans (k2.mono (S' := foot3 hb b g) (fun i _ h => Or.inr h)))
      have HPn : Box (p + 3 = 3 * (k + 1)) := ⟨by have := HP.out; omega⟩
      have hp48 : p + 3 ≤ 51 := by have := HP.out; omega
      clear hI2 k2 HS K hstore
      go_wp2_with fail
      go_roundw
      case rel => exact ⟨k + 1, p + 3, W1, by omega, by omega, HPn, by go_num, H2, H3, K2⟩
      case measure => simp [intOf]; omega
    · have hk17 : k = 17 := by have := HP.out; omega
      subst hk17
      have e : W = W0 := by
        have h := HN.out
        simp only [Nat.sub_self, initAll, Option.some.injEq] at h
        exact h
      subst e
      clear HN HP
      go_wp2_with fail
      refine (sizes_is _).mono ?_
      rintro e w1 ⟨rfl, k1⟩
      have H1 := Box.mk (HS.out.keeps0 k1)
      have K1 := Box.mk (K.out.trans (k1.mono (S' := foot3 hb b g) (fun _ _ h => h.elim)))
      clear k1 HS K
      go_wp2_with fail
      go_loopw [20] (fun i wr => ∃ (k : Nat) (sk : TH), k ≤ 4 ∧ i = .int .i64 k ∧ Box (layN k { s with W := W } = some sk) ∧ Box (IsTH wr hb b g sk) ∧ Box (Keeps (foot3 hb b g) w wr)) (fun i _ => 4 - (intOf i).toNat)
      case atStart => exact ⟨0, _, Nat.zero_le _, rfl, ⟨rfl⟩, H1, K1⟩
      case round =>
        clear H1 K1
        obtain ⟨k, sk, hk, rfl, HN, HS, K⟩ := hrel
        obtain ⟨wo, hwo⟩ : ∃ wo : World, wo = wr := ⟨_, rfl⟩
        subst hwo
        by_cases hk4 : k < 4
        · have hk0 : (0 : Int) ≤ (k : Int) := by omega
          have hk1 : (k : Int) < 4 := by omega
          obtain ⟨s1, ht, hN'⟩ := layN_step Hs4.out hk4 HN.out
          obtain ⟨hsm1, hsm2⟩ := layN_same HN.out
          obtain ⟨Wc, hlc, rfl⟩ := lay1_parts ht
          have hb1 := Hb.out.1 k
          have hb2 := Hb.out.2 k
          have e1 : sk.start.getD k 0 = s.start.getD k 0 := by rw [hsm1]
          have e2 : sk.count.getD k 0 = s.count.getD k 0 := by rw [hsm2]
          rw [← e1] at hb1
          rw [← e2] at hb2
          obtain ⟨st, hst⟩ : ∃ x, sk.start.getD k 0 = x := ⟨_, rfl⟩
          obtain ⟨n, hn⟩ : ∃ x, sk.count.getD k 0 = x := ⟨_, rfl⟩
          obtain ⟨sz, hsz⟩ : ∃ x, szs k = x := ⟨_, rfl⟩
          have hszb := szs_le k
          have hix := fun w => szAt k hk4 w
          have hcc := HS.out.count (i := k) hk4
          rw [hn] at hb2 hlc hN' hcc
          rw [hst] at hb1 hlc
          rw [hsz] at hix hlc hszb
          have HST := Box.mk (And.intro hst hn)
          have HLC := Box.mk hlc
          have HN' := Box.mk hN'
          clear hN' ht hlc hst hn hsz e1 e2 hsm1 hsm2 HN
          go_wp2_with fail
          clear hcc
          go_loopw [30] (fun i wr => ∃ (j : Nat) (W' : List Nat), j ≤ n ∧ i = .int .i64 j ∧ Box (layC W' st k sz (n - j) j = some Wc) ∧ Box (IsTH wr hb b g { sk with W := W' }) ∧ Box (Keeps (foot3 hb b g) w wr)) (fun i _ => n - (intOf i).toNat)
          case atStart => exact ⟨0, sk.W, Nat.zero_le _, rfl, HLC, HS, K⟩
          case round =>
            clear HS K HLC
            obtain ⟨j, W', hj, rfl, HL, HS, K⟩ := hrel
            by_cases hjn : j < n
            · obtain ⟨last, W1, W2, h1, h2, h3, h4⟩ := layC_step (m := n - j - 1) (by rw [show n - j - 1 + 1 = n - j by omega]; exact HL.out)
              rw [show n - j - 1 = n - (j + 1) by omega] at h4
              obtain ⟨q, hq⟩ : ∃ q, j * (3 + sz) = q := ⟨_, rfl⟩
              have hqb : q ≤ 520000 := by
                rw [← hq]
                have := Nat.mul_le_mul (show j ≤ 4000 by omega) (show 3 + sz ≤ 130 by omega)
                omega
              have hmul : IntKind.i64.wrap ((j : Int) * (3 + (sz : Int))) = (q : Int) := by
                have e : (j : Int) * (3 + (sz : Int)) = (q : Int) := by rw [← hq]; push_cast; rfl
                rw [e]
                simp only [IntKind.wrap]
                simp [IntKind.bits, IntKind.signed]
                omega
              have hmul2 : wrap64 ((j : Int) * (3 + (sz : Int))) = (q : Int) := by
                have e : (j : Int) * (3 + (sz : Int)) = (q : Int) := by rw [← hq]; push_cast; rfl
                rw [e]
                unfold wrap64
                omega
              rw [hq] at h2 h3
              obtain ⟨z, hz⟩ : ∃ z, st + q = z := ⟨_, rfl⟩
              have hzi : (st : Int) + (q : Int) = (z : Int) := by omega
              rw [hz] at h2 h3
              obtain ⟨p0, hp0⟩ : ∃ p, thead k 0 = p := ⟨_, rfl⟩
              have hd0 : ∀ W, Calls Try.prog 70 #[.int .i64 k, .int .i64 0] W fun e w' => e = .returned (.int .i64 p0) ∧ w' = W := fun W => by rw [← hp0]; exact head_is k 0 W (by omega) (by omega)
              rw [hp0] at h1
              have Hd := Box.mk hd0
              have H1 := Box.mk h1
              have H2 := Box.mk h2
              have H3 := Box.mk h3
              have H4 := Box.mk h4
              have hsc := HS.out.start (i := k) (by omega)
              simp only at hsc
              rw [HST.out.1] at hsc
              have hstore := HS.out.store
              clear h1 h2 h3 h4 hd0 hp0 hz hq HL
              go_wp2_with fail
              clear hsc
              go_region_held3 (fun w' => w'.cell? ⟨hb, 0, none⟩ = some (.pointer (some ⟨b, 0, none⟩))) (first | exact kj.cell hstore (by have := HS.out.ne; unfold foot; simp only; omega) | go_keep) (first | (go_at_call 70; refine (Hd.out _).mono ?_; rintro e w2 ⟨rfl, rfl⟩) | (go_at_call 90; refine (oahead_is (w := wr.drew) (HS.out.keeps0 ((Keeps.refl (fun _ => False) wr).drew)).iw H1.out).mono ?_; rintro e w3 ⟨rfl, hI3, kj⟩))
              have kj' : Keeps (foot b g) wr w3 := ⟨kj.os, kj.tape, kj.output, kj.size, kj.block⟩
              have HA := Box.mk (HS.out.ring kj' hI3)
              have KA := Box.mk (K.out.trans (kj'.mono (S' := foot3 hb b g) (fun i _ h => Or.inr h)))
              have hstore3 := HA.out.store
              clear kj kj' hI3 hstore HS K hmul hmul2
              go_wp2_with fail
              refine (oinit_is HA.out.iw H2.out).mono ?_
              rintro e w4 ⟨rfl, hI4, k4⟩
              have HB : Box (IsTH w4 hb b g { sk with W := W1 }) := ⟨HA.out.ring k4 hI4⟩
              have KB := Box.mk (KA.out.trans (k4.mono (S' := foot3 hb b g) (fun i _ h => Or.inr h)))
              have hstore4 := HB.out.store
              clear hI4 k4 HA KA hstore3
              go_wp2_with fail
              refine (oinsert_is HB.out.iw H3.out).mono ?_
              rintro e w5 ⟨rfl, hI5, k5⟩
              have HC : Box (IsTH w5 hb b g { sk with W := W2 }) := ⟨HB.out.ring k5 hI5⟩
              have KC := Box.mk (KB.out.trans (k5.mono (S' := foot3 hb b g) (fun i _ h => Or.inr h)))
              clear hI5 k5 HB KB hstore4
              go_wp2_with fail
              go_roundw
              case rel => exact ⟨j + 1, W2, by omega, by go_num, H4, HC, KC⟩
              case measure => simp [intOf]; omega
            · have hjn' : j = n := by omega
              subst hjn'
              have e : W' = Wc := by
                have h := HL.out
                simp only [Nat.sub_self, layC, Option.some.injEq] at h
                exact h
              subst e
              have hcc := HS.out.count (i := k) hk4
              simp only at hcc
              rw [HST.out.2] at hcc
              have hlc := HS.out.lists (i := 4 * k + 0) (by omega)
              have hlf := HS.out.frozen (10 + (4 * k + 0))
              have hput := HS.out.putList (i := 4 * k + 0) (by omega) j
              rw [show 10 + (4 * k + 0) = 10 + k * 4 by omega] at hlc hlf hput
              have HP := Box.mk (hput.keeps0 ((Keeps.refl (fun _ => False) _).drew))
              have KP := Box.mk (((K.out.setCell (p := ⟨hb, 10 + k * 4, none⟩) (fun _ => Or.inl rfl) (.int .i64 (j : Int)))).drew)
              clear hput HS K HL
              go_wp2_with fail
              go_region
              clear hcc hlc hlf
              go_wp2_with fail
              go_roundw
              case rel => exact ⟨k + 1, _, by omega, by go_num, HN', HP, KP⟩
              case measure => simp [intOf]; omega
        · have hk4' : k = 4 := by omega
          subst hk4'
          have e : sk = s' := by
            have h := HN.out
            rw [Hs4.out] at h
            injection h with h
            exact h.symm
          subst e
          go_wp2_with fail
          go_end0
          exact ⟨rfl, HS.out, K.out⟩

end Go.Proofs.Ytbjlapfcnldpoaa
