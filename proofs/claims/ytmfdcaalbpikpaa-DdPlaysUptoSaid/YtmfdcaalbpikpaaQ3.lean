/- Two diagrams put together: no matter how deep one looks, from which side, or with what is seen at once. No program in sight. -/
import Derived.Test.YtmfdcaalbpikpaaQ2
namespace Go.Proofs.Ytmfdcaalbpikpaa
open Go.RowKit Go.Maps
set_option linter.unusedVariables false
set_option linter.unusedSimpArgs false
section
variable {S : List Int} {M : Int} {N N' N2 : List Nd} {f g l b op : Int}
theorem build_eq {step step' : List Nd → Nat → Out} (h : step = step') : build S M step N l = build S M step' N l := by rw [h]
theorem run_stepsOf (k : Nat) (h : Good S M N) (hf : hasA N f = true) (hg : hasA N g = true) (hk : deep S N f g < (k + 1 : Nat)) (h2 : ¬ (f < 2 ∧ g < 2)) :
    Steps S M N (min (lvl S.length N f) (lvl S.length N g)) (S.getD (min (lvl S.length N f) (lvl S.length N g)).toNat 0).toNat
      (fun N' c => runA op S M k N' (kidA S.length N f (min (lvl S.length N f) (lvl S.length N g)) c) (kidA S.length N g (min (lvl S.length N f) (lvl S.length N g)) c)) := by
  obtain ⟨ih1, ih2⟩ := run_steps (op := op) (S := S) (M := M) k
  have hl := lvlmin h hf hg h2
  have key : ∀ c, c < (S.getD (min (lvl S.length N f) (lvl S.length N g)).toNat 0).toNat → ∀ N', N <+: N' → Good S M N' →
      hasA N' (kidA S.length N f (min (lvl S.length N f) (lvl S.length N g)) c) = true ∧ hasA N' (kidA S.length N g (min (lvl S.length N f) (lvl S.length N g)) c) = true ∧
      min (lvl S.length N f) (lvl S.length N g) < lvl S.length N' (kidA S.length N f (min (lvl S.length N f) (lvl S.length N g)) c) ∧ min (lvl S.length N f) (lvl S.length N g) < lvl S.length N' (kidA S.length N g (min (lvl S.length N f) (lvl S.length N g)) c) := by
    intro c hc N' hp hgd
    have k1 := kid_fine (l := min (lvl S.length N f) (lvl S.length N g)) h hf (by omega) hl.2 hc
    have k2 := kid_fine (l := min (lvl S.length N f) (lvl S.length N g)) h hg (by omega) hl.2 hc
    exact ⟨has_pre hp k1.1, has_pre hp k2.1, by rw [lvl_pre hp k1.1]; exact k1.2, by rw [lvl_pre hp k2.1]; exact k2.2⟩
  refine ⟨fun N' c hc hp hgd => ?_, fun N' c N2 hc hp hgd he hp2 hg2 => ?_⟩
  · obtain ⟨k1, k2, k3, k4⟩ := key c hc N' hp hgd
    have := ih1 N' _ _ hgd k1 k2 (by unfold deep at hk ⊢; omega)
    exact ⟨this.good, this.pre, this.err, fun e => ⟨(this.ok e).1, by have := (this.ok e).2; omega⟩⟩
  · obtain ⟨k1, k2, k3, k4⟩ := key c hc N' hp hgd
    exact ih2 N' N2 _ _ hgd k1 k2 (by unfold deep at hk ⊢; omega) he hp2 hg2
theorem run_kid_deep (k : Nat) (h : Good S M N) (hf : hasA N f = true) (hg : hasA N g = true) (hk : deep S N f g < (k + 1 : Nat)) (h2 : ¬ (f < 2 ∧ g < 2)) {c : Nat} (hc : c < (S.getD (min (lvl S.length N f) (lvl S.length N g)).toNat 0).toNat)
    (hp : N <+: N') : hasA N' (kidA S.length N f (min (lvl S.length N f) (lvl S.length N g)) c) = true ∧ hasA N' (kidA S.length N g (min (lvl S.length N f) (lvl S.length N g)) c) = true ∧
      deep S N' (kidA S.length N f (min (lvl S.length N f) (lvl S.length N g)) c) (kidA S.length N g (min (lvl S.length N f) (lvl S.length N g)) c) < k := by
  have hl := lvlmin h hf hg h2
  have k1 := kid_fine (l := min (lvl S.length N f) (lvl S.length N g)) h hf (by omega) hl.2 hc
  have k2 := kid_fine (l := min (lvl S.length N f) (lvl S.length N g)) h hg (by omega) hl.2 hc
  have e1 := lvl_pre hp k1.1 S.length
  have e2 := lvl_pre hp k2.1 S.length
  exact ⟨has_pre hp k1.1, has_pre hp k2.1, by unfold deep at hk ⊢; omega⟩
theorem run_fuel : ∀ (k j : Nat) (N : List Nd) (f g : Int), Good S M N → hasA N f = true → hasA N g = true → deep S N f g < k → k ≤ j → runA op S M j N f g = runA op S M k N f g
  | 0, _, N, f, g, h, hf, hg, hk, _ => by have := lvl_le_n h f; unfold deep at hk; omega
  | k + 1, 0, N, f, g, h, hf, hg, hk, hj => by omega
  | k + 1, j + 1, N, f, g, h, hf, hg, hk, hj => by
    unfold runA
    by_cases h2 : f < 2 ∧ g < 2
    · rw [if_pos h2, if_pos h2]
    · rw [if_neg h2, if_neg h2]
      refine build_congr (fun N' c hc hp hgd => ?_) (run_stepsOf k h hf hg hk h2) h
      obtain ⟨a1, a2, a3⟩ := run_kid_deep (N' := N') k h hf hg hk h2 hc hp
      exact run_fuel k j N' _ _ hgd a1 a2 a3 (by omega)
theorem op_swap (hop : 0 ≤ op ∧ op ≤ 2) (a b : Bool) : opB op a b = opB op b a := by
  unfold opB
  rcases (by omega : op = 0 ∨ op = 1 ∨ op = 2) with rfl | rfl | rfl <;> cases a <;> cases b <;> rfl
theorem run_swap (hop : 0 ≤ op ∧ op ≤ 2) : ∀ (k : Nat) (N : List Nd) (f g : Int), runA op S M k N f g = runA op S M k N g f
  | 0, _, _, _ => rfl
  | k + 1, N, f, g => by
    unfold runA
    by_cases h2 : f < 2 ∧ g < 2
    · rw [if_pos h2, if_pos h2.symm]
      unfold leafV
      rw [op_swap hop]
    · rw [if_neg h2, if_neg (fun e => h2 e.symm), Int.min_comm (lvl S.length N g)]
      refine build_eq ?_
      funext N' c
      exact run_swap hop k _ _ _
/-- what kids come to that are those of something that is there -/
theorem build_is {step : List Nd → Nat → Out} {x : Int} (h : Good S M N) (hx : hasA N x = true) (hl : l ≤ lvl S.length N x) (hl0 : 0 ≤ l ∧ l < S.length)
    (hs : ∀ c, c < (S.getD l.toNat 0).toNat → step N c = (N, kidA S.length N x l c, 0)) : build S M step N l = (N, x, 0) := by
  have key : ∀ k, k ≤ (S.getD l.toNat 0).toNat → runK step N k = (N, (List.range k).map (kidA S.length N x l), 0) := by
    intro k
    induction k with
    | zero => intro _; rfl
    | succ k ih =>
      intro hk
      unfold runK
      rw [ih (by omega), if_pos rfl]
      simp only
      rw [hs k (by omega), List.range_succ, List.map_append]
      rfl
  unfold build
  rw [key _ (Nat.le_refl _), if_pos rfl]
  simp only
  have hi : l.toNat < S.length := by omega
  have hsz := h.toSized.at_ l.toNat hi
  rw [← getD_mem hi] at hsz
  have hmay : mayA S N l ((List.range (S.getD l.toNat 0).toNat).map (kidA S.length N x l)) = true := by
    unfold mayA
    rw [Bool.and_eq_true_iff]
    refine ⟨shape_iff.2 ⟨hl0.1, hl0.2, by rw [List.length_map, List.length_range]; omega⟩, List.all_eq_true.2 fun r hr => ?_⟩
    obtain ⟨c, hc, rfl⟩ := List.mem_map.1 hr
    have := kid_fine h hx hl hl0.2 (List.mem_range.1 hc)
    unfold lowA
    rw [this.1, decide_eq_true this.2]
    rfl
  unfold makeA
  rw [if_neg (by rw [hmay]; simp)]
  by_cases e : lvl S.length N x = l
  · obtain ⟨l', ks, ha⟩ := h.spot hx (by omega)
    have e3 : l' = l := by have := ha.lv; omega
    subst e3
    have hk : (List.range (S.getD l'.toNat 0).toNat).map (kidA S.length N x l') = ks := by
      refine List.ext_getElem (by simp [ha.len.1]) fun i h1 h2 => ?_
      simp only [List.getElem_map, List.getElem_range]
      unfold kidA
      rw [if_pos e, ha.kse, getD_mem h2]
    rw [hk, if_neg (by rw [ha.one]; simp)]
    have hm : (⟨l', ks⟩ : Nd) ∈ N := by rw [ha.nd]; exact List.getElem_mem _
    rw [if_pos hm]
    have hb := ha.lt
    have e5 : ∀ j (hj : j < N.length), (⟨l', ks⟩ : Nd) = N[j]'hj → N.idxOf (⟨l', ks⟩ : Nd) = j := fun j hj e => by
      rw [e]; exact h.nodup.idxOf_getElem j hj
    have e4 : N.idxOf (⟨l', ks⟩ : Nd) = (x - 2).toNat := e5 _ (by omega) ha.nd
    rw [e4]
    congr 2
    omega
  · have hk : (List.range (S.getD l.toNat 0).toNat).map (kidA S.length N x l) = List.replicate (S.getD l.toNat 0).toNat x := by
      refine List.ext_getElem (by simp) fun i h1 h2 => ?_
      simp only [List.getElem_map, List.getElem_range, List.getElem_replicate]
      unfold kidA
      rw [if_neg e]
    rw [hk]
    obtain ⟨m, hm⟩ : ∃ m, (S.getD l.toNat 0).toNat = m + 1 := ⟨(S.getD l.toNat 0).toNat - 1, by omega⟩
    rw [hm, List.replicate_succ]
    rw [if_pos (by unfold oneA; simp [List.all_eq_true])]
    rfl
/-- what is seen at once -/
def Short (op f g x : Int) : Prop :=
  (op = 0 ∧ (f = 0 ∨ g = 0) ∧ x = 0) ∨ ((op = 0 ∧ f = 1 ∨ op ≠ 0 ∧ f = 0) ∧ x = g) ∨ ((op = 0 ∧ g = 1 ∨ op ≠ 0 ∧ g = 0) ∧ x = f) ∨ (op = 1 ∧ (f = 1 ∨ g = 1) ∧ x = 1) ∨ (f = g ∧ op = 2 ∧ x = 0) ∨ (f = g ∧ op ≠ 2 ∧ x = f)
theorem kid01 (hf : f < 2) {n : Int} (hl : l < n) (c : Nat) : kidA n N f l c = f := by
  unfold kidA
  rw [if_neg]
  unfold lvl
  rw [dif_neg (by omega)]
  omega
theorem Short.kid {x n : Int} (h : Short op f g x) (hl : l < n) (c : Nat) : Short op (kidA n N f l c) (kidA n N g l c) (kidA n N x l c) := by
  unfold Short at *
  have k0 : kidA n N 0 l c = 0 := kid01 (by omega) hl c
  have k1 : kidA n N 1 l c = 1 := kid01 (by omega) hl c
  rcases h with ⟨h1, h2, rfl⟩ | ⟨h1, rfl⟩ | ⟨h1, rfl⟩ | ⟨h1, h2, rfl⟩ | ⟨rfl, h1, rfl⟩ | ⟨rfl, h1, rfl⟩
  · left; refine ⟨h1, ?_, k0⟩
    rcases h2 with rfl | rfl
    · exact .inl k0
    · exact .inr k0
  · right; left; refine ⟨?_, rfl⟩
    rcases h1 with ⟨h1, rfl⟩ | ⟨h1, rfl⟩
    · exact .inl ⟨h1, k1⟩
    · exact .inr ⟨h1, k0⟩
  · right; right; left; refine ⟨?_, rfl⟩
    rcases h1 with ⟨h1, rfl⟩ | ⟨h1, rfl⟩
    · exact .inl ⟨h1, k1⟩
    · exact .inr ⟨h1, k0⟩
  · right; right; right; left; refine ⟨h1, ?_, k1⟩
    rcases h2 with rfl | rfl
    · exact .inl k1
    · exact .inr k1
  · right; right; right; right; left; exact ⟨rfl, h1, k0⟩
  · right; right; right; right; right; exact ⟨rfl, h1, rfl⟩
theorem Short.has {x : Int} (hG : Good S M N) (h : Short op f g x) (hf : hasA N f = true) (hg : hasA N g = true) : hasA N x = true ∧ min (lvl S.length N f) (lvl S.length N g) ≤ lvl S.length N x := by
  have z0 : lvl S.length N 0 = S.length := lvl01 (by omega)
  have z1 : lvl S.length N 1 = S.length := lvl01 (by omega)
  have zf := lvl_le_n hG f
  unfold Short at h
  rcases h with ⟨h1, h2, rfl⟩ | ⟨h1, rfl⟩ | ⟨h1, rfl⟩ | ⟨h1, h2, rfl⟩ | ⟨rfl, h1, rfl⟩ | ⟨rfl, h1, rfl⟩
  · refine ⟨has01 (.inl rfl), ?_⟩
    rcases h2 with rfl | rfl <;> omega
  · exact ⟨hg, by omega⟩
  · exact ⟨hf, by omega⟩
  · refine ⟨has01 (.inr rfl), ?_⟩
    rcases h2 with rfl | rfl <;> omega
  · exact ⟨has01 (.inl rfl), by omega⟩
  · exact ⟨hf, by omega⟩
theorem Short.leaf {x : Int} (hop : 0 ≤ op ∧ op ≤ 2) (h : Short op f g x) (hf : f = 0 ∨ f = 1) (hg : g = 0 ∨ g = 1) : leafV op f g = x := by
  unfold Short at h
  unfold leafV toI opB
  rcases (by omega : op = 0 ∨ op = 1 ∨ op = 2) with rfl | rfl | rfl <;> rcases hf with rfl | rfl <;> rcases hg with rfl | rfl <;> simp at h ⊢ <;> omega
theorem run_short (hop : 0 ≤ op ∧ op ≤ 2) (h : Good S M N) : ∀ (k : Nat) (f g x : Int), hasA N f = true → hasA N g = true → deep S N f g < k → Short op f g x → runA op S M k N f g = (N, x, 0)
  | 0, f, g, x, hf, hg, hk, _ => by have := lvl_le_n h f; unfold deep at hk; omega
  | k + 1, f, g, x, hf, hg, hk, hs => by
    unfold runA
    by_cases h2 : f < 2 ∧ g < 2
    · have a := has_iff.1 hf
      have b := has_iff.1 hg
      rw [if_pos h2, hs.leaf hop (by omega) (by omega)]
    · rw [if_neg h2]
      have hx := hs.has h hf hg
      have hl := lvlmin h hf hg h2
      refine build_is h hx.1 hx.2 hl fun c hc => ?_
      obtain ⟨a1, a2, a3⟩ := run_kid_deep (N' := N) k h hf hg hk h2 hc (List.prefix_refl _)
      exact run_short hop h k _ _ _ a1 a2 a3 (hs.kid hl.2 c)
/-- the whole -/
def runT (op : Int) (S : List Int) (M : Int) (N : List Nd) (f g : Int) : Out := runA op S M (S.length + 1) N f g
theorem deep_lt (h : Good S M N) (f g : Int) : deep S N f g < (S.length + 1 : Nat) := by
  have a := lvl_nonneg h f
  have b := lvl_nonneg h g
  unfold deep
  omega
theorem run_T (h : Good S M N) (hf : hasA N f = true) (hg : hasA N g = true) {k : Nat} (hk : deep S N f g < k) : runA op S M k N f g = runT op S M N f g := by
  unfold runT
  by_cases e : k ≤ S.length + 1
  · exact (run_fuel k _ N f g h hf hg hk e).symm
  · exact run_fuel _ _ N f g h hf hg (deep_lt h f g) (by omega)
theorem runT_fine (h : Good S M N) (hf : hasA N f = true) (hg : hasA N g = true) : Fine S M N (min (lvl S.length N f) (lvl S.length N g)) (runT op S M N f g) := (run_steps _).1 N f g h hf hg (deep_lt h f g)
theorem runT_again (h : Good S M N) (hf : hasA N f = true) (hg : hasA N g = true) (he : (runT op S M N f g).2.2 = 0) (hp : (runT op S M N f g).1 <+: N2) (h2 : Good S M N2) :
    runT op S M N2 f g = (N2, (runT op S M N f g).2.1, 0) := (run_steps _).2 N N2 f g h hf hg (deep_lt h f g) he hp h2
theorem runT_short (hop : 0 ≤ op ∧ op ≤ 2) (h : Good S M N) (hf : hasA N f = true) (hg : hasA N g = true) {x : Int} (hs : Short op f g x) : runT op S M N f g = (N, x, 0) := run_short hop h _ f g x hf hg (deep_lt h f g) hs
theorem runT_swap (hop : 0 ≤ op ∧ op ≤ 2) : runT op S M N f g = runT op S M N g f := run_swap hop _ N f g
/-- what is to be done for two of which not both are leaves -/
theorem runT_build (h : Good S M N) (hf : hasA N f = true) (hg : hasA N g = true) (h2 : ¬ (f < 2 ∧ g < 2)) :
    runT op S M N f g = build S M (fun N' c => runT op S M N' (kidA S.length N f (min (lvl S.length N f) (lvl S.length N g)) c) (kidA S.length N g (min (lvl S.length N f) (lvl S.length N g)) c)) N (min (lvl S.length N f) (lvl S.length N g)) := by
  conv => lhs; unfold runT runA
  rw [if_neg h2]
  refine (build_congr (fun N' c hc hp hgd => ?_) (run_stepsOf S.length h hf hg (deep_lt h f g) h2) h).symm
  obtain ⟨a1, a2, a3⟩ := run_kid_deep (N' := N') S.length h hf hg (deep_lt h f g) h2 hc hp
  exact (run_T hgd a1 a2 a3).symm
theorem runT_steps (h : Good S M N) (hf : hasA N f = true) (hg : hasA N g = true) (h2 : ¬ (f < 2 ∧ g < 2)) :
    Steps S M N (min (lvl S.length N f) (lvl S.length N g)) (S.getD (min (lvl S.length N f) (lvl S.length N g)).toNat 0).toNat
      (fun N' c => runT op S M N' (kidA S.length N f (min (lvl S.length N f) (lvl S.length N g)) c) (kidA S.length N g (min (lvl S.length N f) (lvl S.length N g)) c)) := by
  have hl := lvlmin h hf hg h2
  have key : ∀ c, c < (S.getD (min (lvl S.length N f) (lvl S.length N g)).toNat 0).toNat → ∀ N', N <+: N' →
      hasA N' (kidA S.length N f (min (lvl S.length N f) (lvl S.length N g)) c) = true ∧ hasA N' (kidA S.length N g (min (lvl S.length N f) (lvl S.length N g)) c) = true ∧
      min (lvl S.length N f) (lvl S.length N g) < lvl S.length N' (kidA S.length N f (min (lvl S.length N f) (lvl S.length N g)) c) ∧ min (lvl S.length N f) (lvl S.length N g) < lvl S.length N' (kidA S.length N g (min (lvl S.length N f) (lvl S.length N g)) c) := by
    intro c hc N' hp
    have k1 := kid_fine (l := min (lvl S.length N f) (lvl S.length N g)) h hf (by omega) hl.2 hc
    have k2 := kid_fine (l := min (lvl S.length N f) (lvl S.length N g)) h hg (by omega) hl.2 hc
    exact ⟨has_pre hp k1.1, has_pre hp k2.1, by rw [lvl_pre hp k1.1]; exact k1.2, by rw [lvl_pre hp k2.1]; exact k2.2⟩
  refine ⟨fun N' c hc hp hgd => ?_, fun N' c N2 hc hp hgd he hp2 hg2 => ?_⟩
  · obtain ⟨k1, k2, k3, k4⟩ := key c hc N' hp
    have := runT_fine (op := op) hgd k1 k2
    exact ⟨this.good, this.pre, this.err, fun e => ⟨(this.ok e).1, by have := (this.ok e).2; omega⟩⟩
  · obtain ⟨k1, k2, k3, k4⟩ := key c hc N' hp
    exact runT_again hgd k1 k2 he hp2 hg2
end
end Go.Proofs.Ytmfdcaalbpikpaa
