/- Rings joined, members taken out. No program in sight. -/
import Derived.Test.YtlbmknnpglandaaRingLaw2
namespace Go.Proofs.Ytlbmknnpglandaa
set_option linter.unusedVariables false
set_option linter.unusedSimpArgs false
open Go.RowKit

theorem ring_mod {W : List Nat} {h : Nat} {L : List Nat} (hr : Ring W h L) {u : Nat} (hu : u ∈ h :: L) : u % 3 = 0 := (hr.node u hu).1

/-- The ring of q, that has members, is put into p's, behind p's last. -/
theorem ring_join {W : List Nat} {p q f : Nat} {L M : List Nat} (hp : Ring W p L) (hq : Ring W q (f :: M)) (hd : ∀ u ∈ p :: L, u ∉ q :: f :: M) :
    Ring (setAll W [(lastOf p L, 2, f), (f, 1, lastOf p L), (lastOf f M, 2, p), (p, 1, lastOf f M), (q, 1, q), (q, 2, q)]) p (L ++ f :: M) ∧
    Lone (setAll W [(lastOf p L, 2, f), (f, 1, lastOf p L), (lastOf f M, 2, p), (p, 1, lastOf f M), (q, 1, q), (q, 2, q)]) q := by
  have hzm := lastOf_mem p L
  have hlm0 := lastOf_mem f M
  have hlm : lastOf f M ∈ q :: f :: M := List.mem_cons_of_mem _ hlm0
  obtain ⟨z, hz⟩ : ∃ z, lastOf p L = z := ⟨_, rfl⟩
  obtain ⟨l, hl⟩ : ∃ l, lastOf f M = l := ⟨_, rfl⟩
  rw [hz] at hzm
  rw [hl] at hlm hlm0
  rw [hz, hl]
  have np := hp.node p (by simp)
  have nz := hp.node z hzm
  have nq := hq.node q (by simp)
  have nf := hq.node f (by simp)
  have nl := hq.node l hlm
  have B := fun u (hu : u % 3 = 0) => join_B np nq nf nl nz hu
  have A := fun u (hu : u % 3 = 0) => join_A np nq nf nl nz hu
  have hpq : p ≠ q := fun e => hd p (by simp) (by simp [e])
  have hpf : p ≠ f := fun e => hd p (by simp) (by simp [e])
  have hzq : z ≠ q := fun e => hd z hzm (by simp [e])
  have hzf : z ≠ f := fun e => hd z hzm (by simp [e])
  have hzl : z ≠ l := fun e => hd z hzm (by rw [e]; exact hlm)
  have hqn := List.nodup_cons.1 hq.nodup
  have hfn := List.nodup_cons.1 hqn.2
  have hqf : q ≠ f := fun e => hqn.1 (by simp [e])
  have hql : q ≠ l := fun e => hqn.1 (by rw [e]; exact hlm0)
  have hpn := List.nodup_cons.1 hp.nodup
  refine ⟨⟨?_, ?_, ?_, ?_⟩, ?_⟩
  · rw [Path_append, hz]
    refine ⟨hp.path.frame hp.nodup (fun u hu hne => ?_) (fun u hu => ?_), ⟨?_, ?_⟩, hq.path.2.frame hqn.2 (fun u hu hne => ?_) (fun u hu => ?_)⟩
    · rw [hz] at hne
      have h1 : u ≠ q := fun e => hd u hu (by simp [e])
      have h2 : u ≠ l := fun e => hd u hu (by rw [e]; exact hlm)
      rw [B u (ring_mod hp hu), if_neg h1, if_neg h2, if_neg hne]
    · have hu' : u ∈ p :: L := List.mem_cons_of_mem _ hu
      have h1 : u ≠ q := fun e => hd u hu' (by simp [e])
      have h2 : u ≠ f := fun e => hd u hu' (by simp [e])
      rw [A u (ring_mod hp hu'), if_neg h1, if_neg (ne_mem hu hpn.1), if_neg h2]
    · rw [B z nz.1, if_neg hzq, if_neg hzl, if_pos rfl]
    · rw [A f nf.1, if_neg (Ne.symm hqf), if_neg (Ne.symm hpf), if_pos rfl]
    · rw [hl] at hne
      have hu' : u ∈ q :: f :: M := List.mem_cons_of_mem _ hu
      have h1 : u ≠ z := fun e => hd z hzm (by rw [← e]; exact hu')
      rw [B u (ring_mod hq hu'), if_neg (ne_mem hu hqn.1), if_neg hne, if_neg h1]
    · have hu1 : u ∈ f :: M := List.mem_cons_of_mem _ hu
      have hu' : u ∈ q :: f :: M := List.mem_cons_of_mem _ hu1
      have h1 : u ≠ p := fun e => hd p (by simp) (by rw [← e]; exact hu')
      rw [A u (ring_mod hq hu'), if_neg (ne_mem hu1 hqn.1), if_neg h1, if_neg (ne_mem hu hfn.1)]
  · rw [lastOf_append, hl]
    refine ⟨?_, ?_⟩
    · rw [B l nl.1, if_neg (Ne.symm hql), if_pos rfl]
    · rw [A p np.1, if_neg hpq, if_pos rfl]
  · rw [List.nodup_cons, List.nodup_append]
    refine ⟨?_, hpn.2, hqn.2, ?_⟩
    · intro h
      rcases List.mem_append.1 h with h | h
      · exact hpn.1 h
      · exact hd p (by simp) (List.mem_cons_of_mem _ h)
    · intro a ha b hb e
      subst e
      exact hd a (List.mem_cons_of_mem _ ha) (List.mem_cons_of_mem _ hb)
  · intro u hu
    have : Node W u := by
      rcases List.mem_cons.1 hu with rfl | hu
      · exact np
      · rcases List.mem_append.1 hu with h | h
        · exact hp.node u (List.mem_cons_of_mem _ h)
        · exact hq.node u (List.mem_cons_of_mem _ h)
    exact ⟨this.1, by rw [setAll_length]; exact this.2⟩
  · refine ⟨?_, ?_⟩
    · rw [A q nq.1, if_pos rfl]
    · rw [B q nq.1, if_pos rfl]
theorem join_other {W : List Nat} {p q f h : Nat} {L M N : List Nat} (hp : Ring W p L) (hq : Ring W q (f :: M)) (ho : Ring W h N) (hd : ∀ u ∈ h :: N, u ∉ p :: L ∧ u ∉ q :: f :: M) :
    Ring (setAll W [(lastOf p L, 2, f), (f, 1, lastOf p L), (lastOf f M, 2, p), (p, 1, lastOf f M), (q, 1, q), (q, 2, q)]) h N := by
  have hzm := lastOf_mem p L
  have hlm : lastOf f M ∈ q :: f :: M := List.mem_cons_of_mem _ (lastOf_mem f M)
  have np := hp.node p (by simp)
  have nz := hp.node _ hzm
  have nq := hq.node q (by simp)
  have nf := hq.node f (by simp)
  have nl := hq.node _ hlm
  refine ho.frame (setAll_length _ _) (fun u hu => ?_) (fun u hu => ?_)
  · obtain ⟨h1, h2⟩ := hd u hu
    rw [join_B np nq nf nl nz (ring_mod ho hu), if_neg (fun e => h2 (by simp [e])), if_neg (fun e => h2 (by rw [e]; exact hlm)), if_neg (fun e => h1 (by rw [e]; exact hzm))]
  · obtain ⟨h1, h2⟩ := hd u hu
    rw [join_A np nq nf nl nz (ring_mod ho hu), if_neg (fun e => h2 (by simp [e])), if_neg (fun e => h1 (by simp [e])), if_neg (fun e => h2 (by simp [e]))]

/-- Who stands ahead of q and behind it. -/
def headOr (h : Nat) : List Nat → Nat
  | [] => h
  | x :: _ => x
theorem ring_around {W : List Nat} {h q : Nat} {L M : List Nat} (hr : Ring W h (L ++ q :: M)) : wat W (q + 1) = lastOf h L ∧ wat W (q + 2) = headOr h M := by
  obtain ⟨h1, h2, h3⟩ := (Path_append W h q L M).1 hr.path
  refine ⟨h2.2, ?_⟩
  cases M with
  | nil =>
    have := hr.back.1
    rw [lastOf_append] at this
    exact this
  | cons x M => exact h3.1.1

/-- q is taken out of its ring. -/
theorem ring_remove {W : List Nat} {h q : Nat} {L M : List Nat} (hr : Ring W h (L ++ q :: M)) :
    Ring (setAll W [(lastOf h L, 2, headOr h M), (headOr h M, 1, lastOf h L), (q, 1, q), (q, 2, q)]) h (L ++ M) ∧
    Lone (setAll W [(lastOf h L, 2, headOr h M), (headOr h M, 1, lastOf h L), (q, 1, q), (q, 2, q)]) q := by
  obtain ⟨h1, h2, h3⟩ := (Path_append W h q L M).1 hr.path
  have hnd := List.nodup_cons.1 hr.nodup
  have hnd2 := List.nodup_append.1 hnd.2
  have hqM := List.nodup_cons.1 hnd2.2.1
  have ham := lastOf_mem h L
  obtain ⟨a, ha⟩ : ∃ a, lastOf h L = a := ⟨_, rfl⟩
  rw [ha] at ham ⊢
  have haW : a ∈ h :: (L ++ q :: M) := by
    rcases List.mem_cons.1 ham with h | h
    · simp [h]
    · exact List.mem_cons_of_mem _ (List.mem_append_left _ h)
  have hqW : q ∈ h :: (L ++ q :: M) := by simp
  have hxm : headOr h M ∈ h :: M := by cases M <;> simp [headOr]
  have hxW : headOr h M ∈ h :: (L ++ q :: M) := by
    rcases List.mem_cons.1 hxm with h | h
    · simp [h]
    · exact List.mem_cons_of_mem _ (List.mem_append_right _ (List.mem_cons_of_mem _ h))
  have nh := hr.node h (by simp)
  have na := hr.node a haW
  have nq := hr.node q hqW
  have nx := hr.node _ hxW
  have hhq : h ≠ q := fun e => hnd.1 (by simp [e])
  have hLq : ∀ u ∈ L, u ≠ q := fun u hu => hnd2.2.2 u hu q (by simp)
  have hLM : ∀ u ∈ L, ∀ v ∈ M, u ≠ v := fun u hu v hv => hnd2.2.2 u hu v (List.mem_cons_of_mem _ hv)
  have hhL : h ∉ L := fun e => hnd.1 (List.mem_append_left _ e)
  have hhM : h ∉ M := fun e => hnd.1 (List.mem_append_right _ (List.mem_cons_of_mem _ e))
  have haq : a ≠ q := by
    rcases List.mem_cons.1 ham with h | h
    · rw [h]; exact hhq
    · exact hLq a h
  have B := fun u (hu : u % 3 = 0) => rem_B na nq nx hu
  have A := fun u (hu : u % 3 = 0) => rem_A na nq nx hu
  have hnodL : (h :: L).Nodup := List.nodup_cons.2 ⟨hhL, hnd2.1⟩
  have nodes : ∀ u, u ∈ h :: (L ++ M) → Node W u := by
    intro u hu
    apply hr.node
    simp only [List.mem_cons, List.mem_append] at hu ⊢
    rcases hu with h | h | h
    · exact Or.inl h
    · exact Or.inr (Or.inl h)
    · exact Or.inr (Or.inr (Or.inr h))
  have hnodA : (h :: (L ++ M)).Nodup := by
    rw [List.nodup_cons, List.nodup_append]
    refine ⟨fun e => ?_, hnd2.1, hqM.2, fun u hu v hv => hLM u hu v hv⟩
    rcases List.mem_append.1 e with e | e
    · exact hhL e
    · exact hhM e
  have hlone : Lone (setAll W [(a, 2, headOr h M), (headOr h M, 1, a), (q, 1, q), (q, 2, q)]) q := by
    refine ⟨?_, ?_⟩
    · rw [A q nq.1, if_pos rfl]
    · rw [B q nq.1, if_pos rfl]
  have hpL : Path (setAll W [(a, 2, headOr h M), (headOr h M, 1, a), (q, 1, q), (q, 2, q)]) h L := by
    refine h1.frame hnodL (fun u hu hne => ?_) (fun u hu => ?_)
    · rw [ha] at hne
      have hm : u % 3 = 0 := (nodes u (by rcases List.mem_cons.1 hu with e | e; simp [e]; simp [e])).1
      have huq : u ≠ q := by
        rcases List.mem_cons.1 hu with e | e
        · rw [e]; exact hhq
        · exact hLq u e
      rw [B u hm, if_neg huq, if_neg hne]
    · have hm : u % 3 = 0 := (nodes u (by simp [hu])).1
      have hux : u ≠ headOr h M := by
        intro e
        rcases List.mem_cons.1 hxm with e2 | e2
        · exact hhL (by rw [← e2, ← e]; exact hu)
        · exact hLM u hu _ e2 e
      rw [A u hm, if_neg (hLq u hu), if_neg hux]
  refine ⟨?_, hlone⟩
  cases M with
  | nil =>
    simp only [headOr, List.append_nil] at *
    have A := fun u (hu : u % 3 = 0) => rem_A na nq nx hu
    have B := fun u (hu : u % 3 = 0) => rem_B na nq nx hu
    refine ⟨hpL, ?_, hnodL, fun u hu => ?_⟩
    · rw [ha]
      refine ⟨?_, ?_⟩
      · rw [B a na.1, if_neg haq, if_pos rfl]
      · rw [A h nh.1, if_neg hhq]; simp
    · have := nodes u hu
      exact ⟨this.1, by rw [setAll_length]; exact this.2⟩
  | cons x M =>
    simp only [headOr] at *
    have A := fun u (hu : u % 3 = 0) => rem_A na nq nx hu
    have B := fun u (hu : u % 3 = 0) => rem_B na nq nx hu
    have hqx : x ≠ q := fun e => hqM.1 (by simp [e])
    have hax : a ≠ x := by
      rcases List.mem_cons.1 ham with e | e
      · rw [e]; exact fun e2 => hhM (by simp [e2])
      · exact hLM a e x (by simp)
    have hxn := List.nodup_cons.1 hqM.2
    refine ⟨?_, ?_, hnodA, fun u hu => ?_⟩
    · rw [Path_append, ha]
      refine ⟨hpL, ⟨?_, ?_⟩, h3.2.frame hqM.2 (fun u hu hne => ?_) (fun u hu => ?_)⟩
      · rw [B a na.1, if_neg haq, if_pos rfl]
      · rw [A x nx.1, if_neg hqx]; simp
      · have hm : u % 3 = 0 := (nodes u (List.mem_cons_of_mem _ (List.mem_append_right _ hu))).1
        have hua : u ≠ a := by
          rcases List.mem_cons.1 ham with e | e
          · rw [e]; exact ne_mem hu hhM
          · exact fun e2 => hLM a e u hu e2.symm
        rw [B u hm, if_neg (ne_mem hu hqM.1), if_neg hua]
      · have hu' : u ∈ x :: M := List.mem_cons_of_mem _ hu
        have hm : u % 3 = 0 := (nodes u (List.mem_cons_of_mem _ (List.mem_append_right _ hu'))).1
        rw [A u hm, if_neg (ne_mem hu' hqM.1), if_neg (ne_mem hu hxn.1)]
    · have hb := hr.back
      rw [lastOf_append] at hb
      rw [lastOf_append]
      have hb1 : lastOf q (x :: M) = lastOf x M := rfl
      rw [hb1] at hb
      have hll := lastOf_mem x M
      have hm : (lastOf x M) % 3 = 0 := (nodes _ (List.mem_cons_of_mem _ (List.mem_append_right _ hll))).1
      have hla : lastOf x M ≠ a := by
        rcases List.mem_cons.1 ham with e | e
        · rw [e]; exact ne_mem hll hhM
        · exact fun e2 => hLM a e _ hll e2.symm
      refine ⟨?_, ?_⟩
      · rw [B _ hm, if_neg (ne_mem hll hqM.1), if_neg hla]; exact hb.1
      · rw [A h nh.1, if_neg hhq, if_neg (fun e => hhM (by simp [e]))]; exact hb.2
    · have := nodes u hu
      exact ⟨this.1, by rw [setAll_length]; exact this.2⟩
theorem remove_other {W : List Nat} {h q g : Nat} {L M N : List Nat} (hr : Ring W h (L ++ q :: M)) (ho : Ring W g N) (hd : ∀ u ∈ g :: N, u ∉ h :: (L ++ q :: M)) :
    Ring (setAll W [(lastOf h L, 2, headOr h M), (headOr h M, 1, lastOf h L), (q, 1, q), (q, 2, q)]) g N := by
  have ham : lastOf h L ∈ h :: (L ++ q :: M) := by
    rcases List.mem_cons.1 (lastOf_mem h L) with h | h
    · rw [h]; simp
    · exact List.mem_cons_of_mem _ (List.mem_append_left _ h)
  have hxm : headOr h M ∈ h :: (L ++ q :: M) := by
    cases M with
    | nil => simp [headOr]
    | cons x M => simp [headOr]
  have hqm : q ∈ h :: (L ++ q :: M) := by simp
  refine ho.frame (setAll_length _ _) (fun u hu => ?_) (fun u hu => ?_)
  · rw [rem_B (hr.node _ ham) (hr.node _ hqm) (hr.node _ hxm) (ring_mod ho hu), if_neg (fun e => hd u hu (by rw [e]; exact hqm)), if_neg (fun e => hd u hu (by rw [e]; exact ham))]
  · rw [rem_A (hr.node _ ham) (hr.node _ hqm) (hr.node _ hxm) (ring_mod ho hu), if_neg (fun e => hd u hu (by rw [e]; exact hqm)), if_neg (fun e => hd u hu (by rw [e]; exact hxm))]

end Go.Proofs.Ytlbmknnpglandaa
