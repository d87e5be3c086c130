/- The collector does the same whatever the registers hold, if they hold no cells. No program in sight. -/
import Derived.Test.YtbjlapfcnldpoaaTAwk
namespace Go.Proofs.Ytbjlapfcnldpoaa
set_option linter.unusedVariables false
set_option linter.unusedSimpArgs false
open Go.RowKit

/-- No cell among them. -/
def NC (l : List Nat) : Prop := ∀ x ∈ l, tcell x = false ∧ x < 18446744073709551616
def wro (l : List Nat) (s : TH) : TH := { s with roots := l }

theorem bm {α β γ : Type} {o : Option α} {f : α → Option β} {g : α → Option γ} {k : β → γ} (h : ∀ a, g a = (f a).map k) : o.bind g = (o.bind f).map k := by
  cases o with
  | none => rfl
  | some a => exact h a
theorem tplace_wr (l : List Nat) (s : TH) (x : Nat) : tplace (wro l s) x = tplace s x := rfl
theorem tplace_nc {s : TH} {x : Nat} (h : tcell x = false) : tplace s x = none := by unfold tplace; rw [h]; rfl
theorem tshade_nc {s : TH} {x : Nat} (h : tcell x = false) (hx : x < 18446744073709551616) : tshade s x = some s := by
  unfold tshade
  rw [if_neg (by omega), tplace_nc h]
theorem tmove_wr (l : List Nat) (s : TH) (b c t m k : Nat) : tmove (wro l s) b c t m k = (tmove s b c t m k).map (wro l) := by
  unfold tmove
  simp only [Option.bind_eq_bind, Option.pure_def]
  exact bm fun _ => bm fun _ => bm fun _ => bm fun _ => bm fun _ => rfl
theorem tshade_wr (l : List Nat) (s : TH) (x : Nat) : tshade (wro l s) x = (tshade s x).map (wro l) := by
  unfold tshade
  split
  · rfl
  · rw [tplace_wr]
    cases hp : tplace s x with
    | none => rfl
    | some p =>
      obtain ⟨b, c⟩ := p
      simp only [Option.bind_eq_bind, Option.pure_def]
      refine bm fun h => ?_
      show (if hmark h ≠ 1 - s.now then _ else _) = Option.map (wro l) (if hmark h ≠ 1 - s.now then _ else _)
      split
      · rfl
      · exact bm fun _ => bm fun _ => tmove_wr l (lset s c 2 (lget s c 2 - 1)) b c (thead c 3) 2 3
theorem shadeAll_nc : ∀ {l : List Nat} {s : TH}, NC l → shadeAll l s = some s := by
  intro l
  induction l with
  | nil => intro s _; rfl
  | cons x l ih =>
    intro s h
    have hx := h x List.mem_cons_self
    simp only [shadeAll]
    rw [tshade_nc hx.1 hx.2]
    exact ih (fun y hy => h y (List.mem_cons_of_mem _ hy))
theorem tflip1_wr (l : List Nat) (s : TH) (c : Nat) : tflip1 (wro l s) c = (tflip1 s c).map (wro l) := by
  unfold tflip1
  simp only [Option.bind_eq_bind, Option.pure_def]
  exact bm fun _ => rfl
theorem tflipN_wr (l : List Nat) (s : TH) (n : Nat) : tflipN n (wro l s) = (tflipN n s).map (wro l) := by
  induction n with
  | zero => rfl
  | succ n ih =>
    simp only [tflipN]
    rw [ih]
    cases tflipN n s with
    | none => rfl
    | some t => exact tflip1_wr l t n
theorem tflip_def (s : TH) : tflip s = (tflipN 4 { s with now := 1 - s.now }).bind fun s4 => shadeAll s4.roots { s4 with marking := true, tries := 0 } := by
  unfold tflip
  simp only [tflipN, Option.bind_eq_bind, Option.bind_some, Option.bind_assoc]
theorem tflip_wr {l : List Nat} {s : TH} (hl : NC l) (hs : NC s.roots) : tflip (wro l s) = (tflip s).map (wro l) := by
  rw [tflip_def, tflip_def]
  have h := tflipN_wr l { s with now := 1 - s.now } 4
  have e : ({ wro l s with now := 1 - (wro l s).now } : TH) = wro l { s with now := 1 - s.now } := rfl
  rw [e, h]
  cases hN : tflipN 4 { s with now := 1 - s.now } with
  | none => rfl
  | some t =>
    have ht := (tflipN_same hN).2.1
    simp only [Option.map_some, Option.bind_some]
    have h1 : (wro l t).roots = l := rfl
    rw [h1, shadeAll_nc hl]
    have h2 : t.roots = s.roots := ht
    rw [h2, shadeAll_nc hs]
    rfl
theorem shadeFields_wr (l : List Nat) (b : Nat) : ∀ (m i : Nat) (s : TH), shadeFields (wro l s) b m i = (shadeFields s b m i).map (wro l) := by
  intro m
  induction m with
  | zero => intro i s; rfl
  | succ m ih =>
    intro i s
    simp only [shadeFields, Option.bind_eq_bind]
    refine bm fun w => ?_
    show (tshade (wro l s) w).bind _ = Option.map (wro l) ((tshade s w).bind _)
    rw [tshade_wr]
    cases tshade s w with
    | none => rfl
    | some t => exact ih (i + 1) t
theorem tscanAt_wr (l : List Nat) (s : TH) (c : Nat) : tscanAt (wro l s) c = (tscanAt s c).map (wro l) := by
  unfold tscanAt
  simp only [Option.bind_eq_bind, Option.pure_def]
  refine bm fun b => bm fun h => bm fun _ => ?_
  show (if hform h = 3 then _ else _) = Option.map (wro l) (if hform h = 3 then _ else _)
  split
  · refine bm fun last => bm fun _ => ?_
    exact tmove_wr l { taken s c (lget s c 3 - 1) with wait := s.wait + 1 } b c last s.now 1
  · show (if hform h = 1 then _ else _) = Option.map (wro l) (if hform h = 1 then _ else _)
    split
    · have h1 := shadeFields_wr l b (hn h) 0 (taken s c (lget s c 3 - 1))
      show (shadeFields (wro l (taken s c (lget s c 3 - 1))) b (hn h) 0).bind _ = Option.map (wro l) ((shadeFields (taken s c (lget s c 3 - 1)) b (hn h) 0).bind _)
      rw [h1]
      cases shadeFields (taken s c (lget s c 3 - 1)) b (hn h) 0 with
      | none => rfl
      | some t => exact tmove_wr l t b c (thead c 1) t.now 1
    · show (if hform h = 2 then _ else _) = Option.map (wro l) (if hform h = 2 then _ else _)
      split
      · exact tmove_wr l (taken s c (lget s c 3 - 1)) b c (thead c 1) s.now 1
      · rfl
theorem tscan_wr (l : List Nat) (s : TH) : tscan (wro l s) = (tscan s).map (Option.map (wro l)) := by
  have key : ∀ c, Option.map some (tscanAt (wro l s) c) = Option.map (Option.map (wro l)) (Option.map some (tscanAt s c)) := by
    intro c
    rw [tscanAt_wr]
    cases tscanAt s c <;> rfl
  unfold tscan
  show (if lget s 0 3 ≠ 0 then _ else _) = Option.map (Option.map (wro l)) (if lget s 0 3 ≠ 0 then _ else _)
  split
  · exact key 0
  · show (if lget s 1 3 ≠ 0 then _ else _) = Option.map (Option.map (wro l)) (if lget s 1 3 ≠ 0 then _ else _)
    split
    · exact key 1
    · show (if lget s 2 3 ≠ 0 then _ else _) = Option.map (Option.map (wro l)) (if lget s 2 3 ≠ 0 then _ else _)
      split
      · exact key 2
      · show (if lget s 3 3 ≠ 0 then _ else _) = Option.map (Option.map (wro l)) (if lget s 3 3 ≠ 0 then _ else _)
        split
        · exact key 3
        · rfl
theorem tlook_wr (l : List Nat) (s : TH) : tlook (wro l s) = (tlook s).map (Option.map (wro l)) := by
  unfold tlook
  show (if s.wait = 0 then _ else _) = Option.map _ (if s.wait = 0 then _ else _)
  split <;> rfl
theorem tend1_wr (l : List Nat) (s : TH) (c : Nat) : tend1 (wro l s) c = (tend1 s c).map (wro l) := by
  unfold tend1
  simp only [Option.bind_eq_bind, Option.pure_def]
  exact bm fun _ => bm fun _ => rfl
theorem tend_wr (l : List Nat) (s : TH) : tend (wro l s) = (tend s).map (wro l) := by
  unfold tend
  simp only [Option.bind_eq_bind, Option.pure_def]
  have key : ∀ c (t : TH) (f : TH → Option TH), (∀ t, f (wro l t) = (f t).map (wro l)) → (tend1 (wro l t) c).bind f = ((tend1 t c).bind f).map (wro l) := by
    intro c t f hf
    rw [tend1_wr]
    cases tend1 t c with
    | none => rfl
    | some a => exact hf a
  refine key _ _ _ fun t => key _ _ _ fun t => key _ _ _ fun t => key _ _ _ fun t => ?_
  exact bm fun _ => rfl
theorem tstep_wr {l : List Nat} {s : TH} (hl : NC l) (hs : NC s.roots) : tstep (wro l s) = (tstep s).map (wro l) := by
  unfold tstep
  show (if s.marking = true then _ else _) = Option.map (wro l) (if s.marking = true then _ else _)
  split
  · show (tscan (wro l s)).bind _ = Option.map (wro l) ((tscan s).bind _)
    rw [tscan_wr]
    cases tscan s with
    | none => rfl
    | some r =>
      cases r with
      | some t => rfl
      | none =>
        show (tlook (wro l s)).bind _ = Option.map (wro l) ((tlook s).bind _)
        rw [tlook_wr]
        cases tlook s with
        | none => rfl
        | some r =>
          cases r with
          | some t => rfl
          | none => exact tend_wr l s
  · exact tflip_wr hl hs
theorem tincr_wro {l : List Nat} (hl : NC l) : ∀ {n : Nat} {s : TH}, NC s.roots → s.now ≤ 1 → tincr n (wro l s) = (tincr n s).map (wro l) := by
  intro n
  induction n with
  | zero => intro s _ _; rfl
  | succ n ih =>
    intro s hs hw
    simp only [tincr]
    rw [tstep_wr hl hs]
    cases ht : tstep s with
    | none => rfl
    | some t =>
      obtain ⟨a1, a2, -⟩ := tstep_same ht hw
      exact ih (by rw [a2]; exact hs) a1
theorem tincr_less {n m : Nat} {s : TH} (h : (tincr n s).isSome = true) (hm : m ≤ n) : (tincr m s).isSome = true := by
  induction m generalizing n s with
  | zero => rfl
  | succ m ih =>
    obtain ⟨n, rfl⟩ : ∃ j, n = j + 1 := ⟨n - 1, by omega⟩
    simp only [tincr] at h ⊢
    cases ht : tstep s with
    | none => rw [ht] at h; cases h
    | some t => rw [ht] at h; exact ih h (by omega)

theorem incr49 : ((awkN 0).bind (tincr 49)).isSome = true := by kernel_rfl

end Go.Proofs.Ytbjlapfcnldpoaa
