/- What diagrams say of points; two that say the same are one. No program in sight. -/
import Derived.Test.YtmfdcaalbpikpaaQ3
namespace Go.Proofs.Ytmfdcaalbpikpaa
open Go.RowKit Go.Maps
set_option linter.unusedVariables false
set_option linter.unusedSimpArgs false
/-- what a diagram says of a point -/
def den (N : List Nd) (p : List Int) (f : Int) : Bool :=
  if h : 2 ≤ f ∧ f < (N.length : Int) + 2 then
    if (ksOf N f).getD (p.getD (lvl 0 N f).toNat 0).toNat 0 < f then den N p ((ksOf N f).getD (p.getD (lvl 0 N f).toNat 0).toNat 0) else false
  else decide (f = 1)
termination_by f.toNat
decreasing_by omega
structure Pt (S : List Int) (p : List Int) : Prop where
  len : p.length = S.length
  each : ∀ i, i < S.length → 0 ≤ p.getD i 0 ∧ p.getD i 0 < S.getD i 0
section
variable {S : List Int} {M : Int} {N N' N2 : List Nd} {f g l b op : Int} {p : List Int}
theorem den0 : den N p 0 = false := by rw [den, dif_neg (by omega)]; rfl
theorem den1 : den N p 1 = true := by rw [den, dif_neg (by omega)]; rfl
theorem den_low (h : f = 0 ∨ f = 1) : den N p f = decide (f = 1) := by
  rw [den, dif_neg (by omega)]
theorem At.says {ks : List Int} (h : At S N f l ks) (hp : Pt S p) : (p.getD l.toNat 0).toNat < ks.length ∧ den N p f = den N p (ks.getD (p.getD l.toNat 0).toNat 0) := by
  have hp1 := hp.each l.toNat (by have := h.l0; omega)
  have hlen := h.len
  have hc : (p.getD l.toNat 0).toNat < ks.length := by omega
  refine ⟨hc, ?_⟩
  have e : lvl 0 N f = l := by
    have := h.lv
    unfold lvl at this ⊢
    rw [dif_pos h.lt] at this ⊢
    exact this
  have hlow := h.low (ks[(p.getD l.toNat 0).toNat]'hc) (List.getElem_mem hc)
  rw [den, dif_pos h.lt, e, h.kse, getD_mem hc, if_pos hlow.2.1]
theorem At.pre {ks : List Int} (h : At S N f l ks) (hp : N <+: N') : At S N' f l ks where
  lt := ⟨h.lt.1, by have := hp.length_le; have := h.lt.2; omega⟩
  lv := by rw [lvl_pre hp (has_iff.2 (by have := h.lt; omega))]; exact h.lv
  kse := by rw [ks_pre hp (has_iff.2 (by have := h.lt; omega))]; exact h.kse
  nd := by
    obtain ⟨t, rfl⟩ := hp
    rw [List.getElem_append_left (by have := h.lt; omega)]
    exact h.nd
  l0 := h.l0
  len := h.len
  one := h.one
  low := fun k hk => by
    have := h.low k hk
    exact ⟨has_pre hp this.1, this.2.1, by rw [lvl_pre hp this.1]; exact this.2.2⟩
theorem leaf_or (h : Good S M N) (hf : hasA N f = true) : (f = 0 ∨ f = 1) ∨ ∃ l ks, At S N f l ks := by
  by_cases e : lvl S.length N f = S.length
  · have := (lvl_leaf h hf).1 e
    have := has_iff.1 hf
    left; omega
  · exact .inr (h.spot hf e)
theorem den_pre (h : Good S M N) (hp : Pt S p) (hN : N <+: N') : ∀ (n : Nat) (f : Int), f.toNat ≤ n → hasA N f = true → den N' p f = den N p f := by
  intro n
  induction n with
  | zero => intro f hn hf; have := has_iff.1 hf; rw [den_low (by omega), den_low (by omega)]
  | succ n ih =>
    intro f hn hf
    rcases leaf_or h hf with e | ⟨l, ks, ha⟩
    · rw [den_low e, den_low e]
    · obtain ⟨hc, e1⟩ := ha.says hp
      obtain ⟨_, e2⟩ := (ha.pre hN).says hp
      have hk := ha.low _ (List.getElem_mem hc)
      rw [e1, e2]
      rw [getD_mem hc]
      have := ha.lt
      have := has_iff.1 hk.1
      exact ih _ (by omega) hk.1
theorem den_ext (h : Good S M N) (hp : Pt S p) (hN : N <+: N') (hf : hasA N f = true) : den N' p f = den N p f := den_pre h hp hN _ f (Nat.le_refl _) hf
theorem den_kid (h : Good S M N) (hp : Pt S p) (hf : hasA N f = true) (hl : l < S.length) : den N p f = den N p (kidA S.length N f l (p.getD l.toNat 0).toNat) := by
  unfold kidA
  by_cases e : lvl S.length N f = l
  · rw [if_pos e]
    rcases leaf_or h hf with e1 | ⟨l', ks, ha⟩
    · have := lvl01 (S := S) (N := N) (f := f) (by omega)
      omega
    · have e3 : l' = l := by have := ha.lv; omega
      subst e3
      rw [ha.kse]
      exact (ha.says hp).2
  · rw [if_neg e]
/-- a node that is made leads to the kids -/
theorem make_kid (h : Good S M N) {ks : List Int} (hm : mayA S N l ks = true) (he : (makeA S M N l ks).2.2 = 0) {c : Nat} (hc : c < ks.length) :
    kidA S.length (makeA S M N l ks).1 (makeA S M N l ks).2.1 l c = ks.getD c 0 := by
  have hs := may_shape hm
  unfold makeA at he ⊢
  rw [if_neg (by rw [hm]; simp)] at he ⊢
  by_cases h2 : oneA ks = true
  · rw [if_pos h2]
    show kidA S.length N (ks.headD 0) l c = _
    have hh : ks.headD 0 ∈ ks := by cases ks with | nil => simp at hc | cons y t => simp
    have e := may_low hm hh
    unfold kidA
    rw [if_neg (by omega), getD_mem hc]
    unfold oneA at h2
    exact (of_decide_eq_true (List.all_eq_true.1 h2 _ (List.getElem_mem hc))).symm
  · rw [if_neg h2] at he ⊢
    have key : ∀ (N1 : List Nd) (i : Nat) (hi : i < N1.length), N1[i]'hi = ⟨l, ks⟩ → kidA S.length N1 ((i : Int) + 2) l c = ks.getD c 0 := fun N1 i hi e => by
      unfold kidA lvl ksOf
      have e2 : ((i : Int) + 2 - 2).toNat = i := by omega
      have hb : 2 ≤ (i : Int) + 2 ∧ (i : Int) + 2 < (N1.length : Int) + 2 := by omega
      rw [dif_pos hb, dif_pos hb]
      have e3 : ∀ j (hj : j < N1.length), j = i → N1[j]'hj = ⟨l, ks⟩ := fun j hj ej => by subst ej; exact e
      rw [e3 _ (by omega) e2, if_pos rfl]
    by_cases h3 : (⟨l, ks⟩ : Nd) ∈ N
    · rw [if_pos h3]
      exact key N _ (List.idxOf_lt_length_of_mem h3) (List.getElem_idxOf _)
    · rw [if_neg h3] at he ⊢
      by_cases h4 : M ≤ N.length
      · rw [if_pos h4] at he; simp at he
      · rw [if_neg h4]
        exact key (N ++ [⟨l, ks⟩]) N.length (by simp) (by simp)
theorem runK_get {step : List Nd → Nat → Out} {sz : Nat} (hs : Steps S M N l sz step) (h : Good S M N) : ∀ k, k ≤ sz → (runK step N k).2.2 = 0 → ∀ c, c < k →
    (runK step N k).2.1.getD c 0 = (step (runK step N c).1 c).2.1 ∧ (step (runK step N c).1 c).2.2 = 0 ∧ (step (runK step N c).1 c).1 <+: (runK step N k).1
  | 0, _, _, c, hc => by omega
  | k + 1, hk, he, c, hc => by
    have e0 : (runK step N k).2.2 = 0 := runK_ok (by omega) he
    have hf := runK_fine hs h k (by omega)
    have e1 : runK step N (k + 1) = ((step (runK step N k).1 k).1, (runK step N k).2.1 ++ [(step (runK step N k).1 k).2.1], (step (runK step N k).1 k).2.2) := by
      conv => lhs; unfold runK
      rw [if_pos e0]
    rw [e1] at he ⊢
    by_cases ec : c = k
    · subst ec
      refine ⟨?_, he, List.prefix_refl _⟩
      simp only [List.getD]
      rw [List.getElem?_append_right (by rw [hf.len e0]; exact Nat.le_refl _), hf.len e0]
      simp
    · obtain ⟨a1, a2, a3⟩ := runK_get hs h k (by omega) e0 c (by omega)
      refine ⟨?_, a2, a3.trans (hs.fine _ k (by omega) hf.pre hf.good).pre⟩
      rw [← a1]
      simp only [List.getD]
      rw [List.getElem?_append_left (by rw [hf.len e0]; omega)]
/-- what a node says that is built class by class -/
theorem build_den {step : List Nd → Nat → Out} (hs : Steps S M N l (S.getD l.toNat 0).toNat step) (h : Good S M N) (hl : 0 ≤ l ∧ l < S.length) (he : (build S M step N l).2.2 = 0) (hp : Pt S p) :
    ∃ N', N <+: N' ∧ Good S M N' ∧ (p.getD l.toNat 0).toNat < (S.getD l.toNat 0).toNat ∧ (step N' (p.getD l.toNat 0).toNat).2.2 = 0 ∧ (step N' (p.getD l.toNat 0).toNat).1 <+: (build S M step N l).1 ∧
      den (build S M step N l).1 p (build S M step N l).2.1 = den (build S M step N l).1 p (step N' (p.getD l.toNat 0).toNat).2.1 := by
  have hp1 := hp.each l.toNat (by omega)
  have hc : (p.getD l.toNat 0).toNat < (S.getD l.toNat 0).toNat := by omega
  have hbf := build_fine hs h hl
  have hf := runK_fine hs h _ (Nat.le_refl (S.getD l.toNat 0).toNat)
  have hfc := runK_fine hs h (p.getD l.toNat 0).toNat (by omega)
  unfold build at he hbf ⊢
  by_cases e : (runK step N (S.getD l.toNat 0).toNat).2.2 = 0
  · rw [if_pos e] at he hbf ⊢
    have hmay := runK_may hs h hl e
    obtain ⟨a1, a2, a3⟩ := runK_get hs h _ (Nat.le_refl _) e _ hc
    refine ⟨_, hfc.pre, hfc.good, hc, a2, a3.trans (make_fine hf.good hmay).pre, ?_⟩
    rw [den_kid hbf.good hp (hbf.ok he).1 hl.2, make_kid hf.good hmay he (by rw [hf.len e]; exact hc), a1]
  · rw [if_neg e] at he
    exact absurd he e
/-- two put together say of each point what the words say -/
theorem run_den (hp : Pt S p) : ∀ (k : Nat) (N : List Nd) (f g : Int), Good S M N → hasA N f = true → hasA N g = true → deep S N f g < k → (runA op S M k N f g).2.2 = 0 →
    den (runA op S M k N f g).1 p (runA op S M k N f g).2.1 = opB op (den N p f) (den N p g)
  | 0, N, f, g, h, hf, hg, hk, _ => by have := lvl_le_n h f; unfold deep at hk; omega
  | k + 1, N, f, g, h, hf, hg, hk, he => by
    unfold runA at he ⊢
    by_cases h2 : f < 2 ∧ g < 2
    · rw [if_pos h2]
      have a := has_iff.1 hf
      have b := has_iff.1 hg
      show den N p (leafV op f g) = _
      rw [den_low (by omega : f = 0 ∨ f = 1), den_low (by omega : g = 0 ∨ g = 1)]
      unfold leafV toI
      cases opB op (decide (f = 1)) (decide (g = 1))
      · exact den0
      · exact den1
    · rw [if_neg h2] at he ⊢
      have hl := lvlmin h hf hg h2
      obtain ⟨N', hpN, hgd, hc, e1, hp2, e2⟩ := build_den (run_stepsOf k h hf hg hk h2) h hl he hp
      rw [e2]
      obtain ⟨a1, a2, a3⟩ := run_kid_deep (N' := N') k h hf hg hk h2 hc hpN
      have hfin := (run_steps (op := op) (S := S) (M := M) k).1 N' _ _ hgd a1 a2 a3
      rw [den_ext hfin.good hp hp2 (hfin.ok e1).1, run_den hp k N' _ _ hgd a1 a2 a3 e1]
      have k1 := kid_fine (l := min (lvl S.length N f) (lvl S.length N g)) h hf (by omega) hl.2 hc
      have k2 := kid_fine (l := min (lvl S.length N f) (lvl S.length N g)) h hg (by omega) hl.2 hc
      rw [den_ext h hp hpN k1.1, den_ext h hp hpN k2.1, ← den_kid h hp hf hl.2, ← den_kid h hp hg hl.2]
theorem runT_den (h : Good S M N) (hf : hasA N f = true) (hg : hasA N g = true) (hp : Pt S p) (he : (runT op S M N f g).2.2 = 0) :
    den (runT op S M N f g).1 p (runT op S M N f g).2.1 = opB op (den N p f) (den N p g) := run_den hp _ N f g h hf hg (deep_lt h f g) he
/-- what stands above says nothing -/
theorem Pt.set (hp : Pt S p) {i : Nat} {c : Int} (hc : 0 ≤ c ∧ c < S.getD i 0) : Pt S (p.set i c) where
  len := by rw [List.length_set]; exact hp.len
  each := fun j hj => by
    by_cases e : i = j
    · subst e
      have : (p.set i c).getD i 0 = c := by simp [List.getD, hp.len ▸ hj]
      rw [this]; exact hc
    · have : (p.set i c).getD j 0 = p.getD j 0 := by simp [List.getD, e]
      rw [this]; exact hp.each j hj
theorem den_set (h : Good S M N) (hp : Pt S p) {c : Int} (hl : 0 ≤ l) (hc : 0 ≤ c ∧ c < S.getD l.toNat 0) : ∀ (n : Nat) (f : Int), f.toNat ≤ n → hasA N f = true → l < lvl S.length N f → den N (p.set l.toNat c) f = den N p f := by
  intro n
  induction n with
  | zero => intro f hn hf _; have := has_iff.1 hf; rw [den_low (by omega), den_low (by omega)]
  | succ n ih =>
    intro f hn hf hlt
    rcases leaf_or h hf with e | ⟨l', ks, ha⟩
    · rw [den_low e, den_low e]
    · obtain ⟨hcc, e1⟩ := ha.says hp
      obtain ⟨_, e2⟩ := ha.says (hp.set hc)
      have hk := ha.low _ (List.getElem_mem hcc)
      have hlv := ha.lv
      have : (p.set l.toNat c).getD l'.toNat 0 = p.getD l'.toNat 0 := by
        have : l.toNat ≠ l'.toNat := by have := ha.l0; omega
        simp [List.getD, this]
      rw [this] at e2
      rw [e1, e2, getD_mem hcc]
      have := ha.lt
      have := has_iff.1 hk.1
      exact ih _ (by omega) hk.1 (by omega)
theorem den_over (h : Good S M N) (hp : Pt S p) {c : Int} (hl : 0 ≤ l) (hc : 0 ≤ c ∧ c < S.getD l.toNat 0) (hf : hasA N f = true) (hlt : l < lvl S.length N f) : den N (p.set l.toNat c) f = den N p f := den_set h hp hl hc _ f (Nat.le_refl _) hf hlt
theorem set_get (hp : Pt S p) {i : Nat} (hi : i < S.length) (c : Int) : (p.set i c).getD i 0 = c := by simp [List.getD, hp.len ▸ hi]
/-- a kid says what its node says where the class is its own -/
theorem den_at (h : Good S M N) (hp : Pt S p) (hf : hasA N f = true) (hl0 : 0 ≤ l ∧ l < S.length) (hle : l ≤ lvl S.length N f) {c : Nat} (hc : c < (S.getD l.toNat 0).toNat) : den N (p.set l.toNat c) f = den N p (kidA S.length N f l c) := by
  have hci : 0 ≤ (c : Int) ∧ (c : Int) < S.getD l.toNat 0 := by omega
  have hk := kid_fine h hf hle hl0.2 hc
  rw [den_kid h (hp.set hci) hf hl0.2, set_get hp (by omega), Int.toNat_natCast, den_over h hp hl0.1 hci hk.1 hk.2]
/-- a point -/
theorem Pt.zero (h : Sized S M) : Pt S (List.replicate S.length 0) where
  len := by simp
  each := fun i hi => by
    have := h.at_ i hi
    rw [getD_mem (by simpa using hi), getD_mem hi, List.getElem_replicate]
    omega
/-- two that say the same of all points are one -/
theorem canon (h : Good S M N) : ∀ (n : Nat) (f g : Int), f.toNat + g.toNat ≤ n → hasA N f = true → hasA N g = true → (∀ p, Pt S p → den N p f = den N p g) → f = g := by
  intro n
  induction n with
  | zero => intro f g hn hf hg _; have := has_iff.1 hf; have := has_iff.1 hg; omega
  | succ n ih =>
    intro f g hn hf hg hd
    -- if one of them stands highest
    have key : ∀ (f g : Int), f.toNat + g.toNat ≤ n + 1 → hasA N f = true → hasA N g = true → (∀ p, Pt S p → den N p f = den N p g) → lvl S.length N f ≤ lvl S.length N g → f = g := by
      intro f g hn hf hg hd hle
      rcases leaf_or h hf with e | ⟨l, ks, ha⟩
      · have e1 := lvl01 (S := S) (N := N) (f := f) (by omega)
        have e2 := (lvl_leaf h hg).1 (by have := lvl_le_n h g; omega)
        have e3 := has_iff.1 hg
        have := hd _ (Pt.zero h.toSized)
        rw [den_low e, den_low (by omega)] at this
        have : (f = 1) ↔ (g = 1) := by simpa using this
        omega
      · have hlv := ha.lv
        have hl0 := ha.l0
        have hlen := ha.len
        have hlt := ha.lt
        have kids : ∀ c, c < ks.length → ks.getD c 0 = kidA S.length N g l c := by
          intro c hc
          have hk1 := ha.low _ (List.getElem_mem hc)
          have hk2 := kid_fine h hg (by omega) hl0.2 (show c < (S.getD l.toNat 0).toNat by omega)
          have e1 : kidA S.length N f l c = ks.getD c 0 := by unfold kidA; rw [if_pos hlv, ha.kse]
          refine ih _ _ ?_ (by rw [getD_mem hc]; exact hk1.1) hk2.1 fun p hp => ?_
          · rw [getD_mem hc]
            have a := has_iff.1 hk1.1
            have b := has_iff.1 hk2.1
            have d : kidA S.length N g l c ≤ g := by
              unfold kidA
              split
              · rcases leaf_or h hg with e | ⟨l', ks', hb⟩
                · have := lvl01 (S := S) (N := N) (f := g) (by omega)
                  omega
                · have e3 : l' = l := by have := hb.lv; omega
                  subst e3
                  rw [hb.kse, getD_mem (by have := hb.len; omega)]
                  have := hb.low _ (List.getElem_mem (n := c) (by have := hb.len; omega))
                  omega
              · omega
            have := has_iff.1 hg
            omega
          · have := hd _ (hp.set (i := l.toNat) (c := c) (by omega))
            rw [den_at h hp hf hl0 (by omega) (by omega), den_at h hp hg hl0 (by omega) (by omega), e1] at this
            exact this
        by_cases e : lvl S.length N g = l
        · rcases leaf_or h hg with e1 | ⟨l', ks', hb⟩
          · have := lvl01 (S := S) (N := N) (f := g) (by omega)
            omega
          · have e3 : l' = l := by have := hb.lv; omega
            subst e3
            have ek : ks = ks' := by
              refine List.ext_getElem (by have := hb.len; omega) fun i h1 h2 => ?_
              have := kids i h1
              unfold kidA at this
              rw [if_pos e, hb.kse, getD_mem h1, getD_mem h2] at this
              exact this
            subst ek
            have e4 := ha.nd
            rw [hb.nd] at e4
            have hbt := hb.lt
            have := (List.getElem_inj h.nodup).1 e4
            omega
        · exfalso
          have hone := ha.one
          have : oneA ks = true := by
            unfold oneA
            refine List.all_eq_true.2 fun k hk => ?_
            obtain ⟨c, hc, rfl⟩ := List.getElem_of_mem hk
            have a := kids c hc
            have b := kids 0 (by omega)
            unfold kidA at a b
            rw [if_neg e] at a b
            rw [getD_mem hc] at a
            rw [a]
            refine decide_eq_true ?_
            rw [← b]
            cases ks with
            | nil => simp at hc
            | cons y t => rfl
          rw [this] at hone
          cases hone
    rcases (by omega : lvl S.length N f ≤ lvl S.length N g ∨ lvl S.length N g ≤ lvl S.length N f) with e | e
    · exact key f g hn hf hg hd e
    · exact (key g f (by omega) hg hf (fun p hp => (hd p hp).symm) e).symm
theorem one_if (h : Good S M N) (hf : hasA N f = true) (hg : hasA N g = true) : (∀ p, Pt S p → den N p f = den N p g) ↔ f = g := ⟨canon h _ f g (Nat.le_refl _) hf hg, fun e p _ => by rw [e]⟩
end
end Go.Proofs.Ytmfdcaalbpikpaa
