/- Diagrams put together, as plain lists of nodes: what a node built class by class comes to, once and again. No program in sight. -/
import Derived.Test.YtmfdcaalbpikpaaP1
namespace Go.Proofs.Ytmfdcaalbpikpaa
open Go.RowKit Go.Maps
set_option linter.unusedVariables false
set_option linter.unusedSimpArgs false
def ksOf (N : List Nd) (f : Int) : List Int := if h : 2 ≤ f ∧ f < (N.length : Int) + 2 then (N[(f - 2).toNat]'(by omega)).ks else []
def kidA (n : Int) (N : List Nd) (f l : Int) (c : Nat) : Int := if lvl n N f = l then (ksOf N f).getD c 0 else f
abbrev Out := List Nd × Int × Int
/-- the kids, class by class: the nodes, the kids, the error -/
def runK (step : List Nd → Nat → Out) (N : List Nd) : Nat → List Nd × List Int × Int
  | 0 => (N, [], 0)
  | k + 1 => if (runK step N k).2.2 = 0 then ((step (runK step N k).1 k).1, (runK step N k).2.1 ++ [(step (runK step N k).1 k).2.1], (step (runK step N k).1 k).2.2) else runK step N k
/-- a node of a level -/
def build (S : List Int) (M : Int) (step : List Nd → Nat → Out) (N : List Nd) (l : Int) : Out :=
  if (runK step N (S.getD l.toNat 0).toNat).2.2 = 0 then makeA S M (runK step N (S.getD l.toNat 0).toNat).1 l (runK step N (S.getD l.toNat 0).toNat).2.1
  else ((runK step N (S.getD l.toNat 0).toNat).1, 0, (runK step N (S.getD l.toNat 0).toNat).2.2)
/-- what is fine of an answer: the ref stands at b or below -/
structure Fine (S : List Int) (M : Int) (N : List Nd) (b : Int) (x : Out) : Prop where
  good : Good S M x.1
  pre : N <+: x.1
  err : x.2.2 = 0 ∨ x.2.2 = 2 ∧ x.2.1 = 0
  ok : x.2.2 = 0 → hasA x.1 x.2.1 = true ∧ b ≤ lvl S.length x.1 x.2.1
section
variable {S : List Int} {M : Int} {N N' N2 : List Nd} {f g l b : Int}
theorem has_pre (h : N <+: N') (hf : hasA N f = true) : hasA N' f = true := by
  have := h.length_le
  unfold hasA at *
  simp only [decide_eq_true_eq] at *
  omega
theorem lvl_pre (h : N <+: N') (hf : hasA N f = true) (n : Int) : lvl n N' f = lvl n N f := by
  obtain ⟨t, rfl⟩ := h
  unfold hasA at hf
  simp only [decide_eq_true_eq] at hf
  have := lvl_take (N := N ++ t) (i := N.length) (n := n) (k := f) hf.2 (by simp)
  rw [← this, List.take_left]
theorem ks_pre (h : N <+: N') (hf : hasA N f = true) : ksOf N' f = ksOf N f := by
  obtain ⟨t, rfl⟩ := h
  unfold hasA at hf
  simp only [decide_eq_true_eq] at hf
  unfold ksOf
  by_cases h2 : 2 ≤ f
  · rw [dif_pos ⟨h2, by rw [List.length_append]; omega⟩, dif_pos ⟨h2, hf.2⟩, List.getElem_append_left (by omega)]
  · rw [dif_neg (by omega), dif_neg (by omega)]
theorem kid_pre (h : N <+: N') (hf : hasA N f = true) (n l : Int) (c : Nat) : kidA n N' f l c = kidA n N f l c := by
  unfold kidA
  rw [lvl_pre h hf, ks_pre h hf]
theorem has01 (h : f = 0 ∨ f = 1) : hasA N f = true := by unfold hasA; simp only [decide_eq_true_eq]; omega
theorem has_iff : hasA N f = true ↔ 0 ≤ f ∧ f < (N.length : Int) + 2 := by unfold hasA; simp only [decide_eq_true_eq]
/-- a node's level and kids -/
structure At (S : List Int) (N : List Nd) (f l : Int) (ks : List Int) : Prop where
  lt : 2 ≤ f ∧ f < (N.length : Int) + 2
  lv : lvl S.length N f = l
  kse : ksOf N f = ks
  nd : (⟨l, ks⟩ : Nd) = N[(f - 2).toNat]'(by omega)
  l0 : 0 ≤ l ∧ l < S.length
  len : ks.length = (S.getD l.toNat 0).toNat ∧ 1 ≤ ks.length
  one : oneA ks = false
  low : ∀ k ∈ ks, hasA N k = true ∧ k < f ∧ l < lvl S.length N k
theorem Good.spot (h : Good S M N) (hf : hasA N f = true) (hl : lvl S.length N f ≠ S.length) : ∃ l ks, At S N f l ks := by
  have h0 := has_iff.1 hf
  have h2 : 2 ≤ f := by
    unfold lvl at hl
    by_cases h2 : 2 ≤ f
    · exact h2
    · rw [dif_neg (by omega)] at hl; exact absurd rfl hl
  have hi : (f - 2).toNat < N.length := by omega
  have e := h.each _ hi
  have hs := may_shape e.1
  have hk := h.kids _ hi
  refine ⟨(N[(f - 2).toNat]'hi).lv, (N[(f - 2).toNat]'hi).ks, ⟨⟨h2, h0.2⟩, by unfold lvl; rw [dif_pos ⟨h2, h0.2⟩], by unfold ksOf; rw [dif_pos ⟨h2, h0.2⟩], rfl, ⟨hs.1, hs.2.1⟩, ⟨by omega, hk.1⟩, e.2, fun k hk => ?_⟩⟩
  have := h.low _ hi hk
  refine ⟨has_iff.2 (by omega), by omega, this.2.2⟩
theorem lvl_le_n (h : Good S M N) (f : Int) : lvl S.length N f ≤ S.length := lvl_le _ N f fun nd hm => by
  obtain ⟨i, hi, rfl⟩ := List.getElem_of_mem hm
  have := h.lt i hi
  omega
theorem lvl_nonneg (h : Good S M N) (f : Int) : 0 ≤ lvl S.length N f := by
  unfold lvl
  split
  · exact (h.lt _ (by omega)).1
  · omega
theorem lvl01 (h : f < 2) : lvl S.length N f = S.length := by unfold lvl; rw [dif_neg (by omega)]
theorem lvl_leaf (h : Good S M N) (hf : hasA N f = true) : lvl S.length N f = S.length ↔ f < 2 := by
  constructor
  · intro e
    by_cases h2 : f < 2
    · exact h2
    · have := h.lt (f - 2).toNat (by have := has_iff.1 hf; omega)
      unfold lvl at e
      rw [dif_pos ⟨by omega, (has_iff.1 hf).2⟩] at e
      omega
  · exact lvl01
/-- a kid of what stands at a level or below it -/
theorem kid_fine (h : Good S M N) (hf : hasA N f = true) (hl : l ≤ lvl S.length N f) (hn : l < S.length) {c : Nat} (hc : c < (S.getD l.toNat 0).toNat) : hasA N (kidA S.length N f l c) = true ∧ l < lvl S.length N (kidA S.length N f l c) := by
  unfold kidA
  by_cases e : lvl S.length N f = l
  · rw [if_pos e]
    obtain ⟨l', ks, ha⟩ := h.spot hf (by omega)
    have e2 := ha.lv
    have e3 : l' = l := by omega
    subst e3
    rw [ha.kse]
    have hc2 : c < ks.length := by have := ha.len.1; omega
    have := ha.low (ks[c]'hc2) (List.getElem_mem hc2)
    rw [getD_mem hc2]
    exact ⟨this.1, this.2.2⟩
  · rw [if_neg e]
    exact ⟨hf, by omega⟩
theorem may_pre (h : N <+: N') {ks : List Int} (hm : mayA S N l ks = true) : mayA S N' l ks = true := by
  unfold mayA at *
  rw [Bool.and_eq_true_iff] at *
  refine ⟨hm.1, List.all_eq_true.2 fun k hk => ?_⟩
  have := List.all_eq_true.1 hm.2 k hk
  unfold lowA at *
  rw [Bool.and_eq_true_iff] at *
  exact ⟨has_pre h this.1, by rw [lvl_pre h this.1]; exact this.2⟩
theorem idx_pre (h : N <+: N') {nd : Nd} (hm : nd ∈ N) : N'.idxOf nd = N.idxOf nd := by
  obtain ⟨t, rfl⟩ := h
  rw [List.idxOf_append, if_pos hm]
/-- what is made is made again of what is there -/
theorem make_again {ks : List Int} (hm : (makeA S M N l ks).2.2 = 0) (h : (makeA S M N l ks).1 <+: N2) : makeA S M N2 l ks = (N2, (makeA S M N l ks).2.1, 0) := by
  unfold makeA at hm h ⊢
  by_cases h1 : mayA S N l ks = false
  · rw [if_pos h1] at hm; simp at hm
  · rw [if_neg h1] at hm h ⊢
    have h1' : mayA S N l ks = true := by simpa using h1
    by_cases h2 : oneA ks = true
    · rw [if_pos h2] at hm h ⊢
      rw [if_neg (by rw [may_pre h h1']; simp), if_pos h2]
    · rw [if_neg h2] at hm h ⊢
      by_cases h3 : (⟨l, ks⟩ : Nd) ∈ N
      · rw [if_pos h3] at hm h ⊢
        rw [if_neg (by rw [may_pre h h1']; simp), if_neg h2, if_pos (h.subset h3), idx_pre h h3]
      · rw [if_neg h3] at hm h ⊢
        by_cases h4 : M ≤ N.length
        · rw [if_pos h4] at hm; simp at hm
        · rw [if_neg h4] at hm h ⊢
          have hp : N <+: N2 := (List.prefix_append N _).trans h
          have hmem : (⟨l, ks⟩ : Nd) ∈ N2 := h.subset (by simp)
          rw [if_neg (by rw [may_pre hp h1']; simp), if_neg h2, if_pos hmem, idx_pre h (by simp), List.idxOf_append, if_neg h3]
          simp
theorem make_fine (h : Good S M N) {ks : List Int} (hm : mayA S N l ks = true) : Fine S M N l (makeA S M N l ks) := by
  have hg := make_good h l ks
  have hl := may_shape hm
  have hne := may_len h.toSized hm
  refine ⟨hg, ?_, ?_, ?_⟩
  · unfold makeA
    repeat' split
    all_goals first | exact List.prefix_refl _ | exact List.prefix_append _ _
  · unfold makeA
    repeat' split
    all_goals first | (left; rfl) | (right; exact ⟨rfl, rfl⟩) | simp_all
  · unfold makeA
    rw [if_neg (by rw [hm]; simp)]
    split
    · intro _
      cases ks with
      | nil => simp at hne
      | cons y t =>
        have := may_low hm (k := y) (by simp)
        exact ⟨has_iff.2 this.1, Int.le_of_lt this.2⟩
    · split
      · rename_i h3
        intro _
        have hi := List.idxOf_lt_length_of_mem h3
        refine ⟨has_iff.2 (by show (0 : Int) ≤ (N.idxOf _ : Int) + 2 ∧ (N.idxOf _ : Int) + 2 < (N.length : Int) + 2; omega), ?_⟩
        show l ≤ lvl _ N ((N.idxOf _ : Int) + 2)
        unfold lvl
        rw [dif_pos ⟨by omega, by omega⟩]
        have e : (((N.idxOf (⟨l, ks⟩ : Nd) : Int) + 2 - 2).toNat) = N.idxOf (⟨l, ks⟩ : Nd) := by omega
        have : ∀ j (hj : j < N.length), j = N.idxOf (⟨l, ks⟩ : Nd) → l ≤ (N[j]'hj).lv := by
          rintro j hj rfl
          rw [List.getElem_idxOf]; exact Int.le_refl _
        exact this _ _ e
      · split
        · intro h; simp at h
        · intro _
          refine ⟨has_iff.2 (by rw [List.length_append, List.length_singleton]; show (0 : Int) ≤ (N.length : Int) + 2 ∧ (N.length : Int) + 2 < _; omega), ?_⟩
          show l ≤ lvl _ (N ++ [⟨l, ks⟩]) ((N.length : Int) + 2)
          unfold lvl
          rw [dif_pos ⟨by omega, by rw [List.length_append, List.length_singleton]; omega⟩]
          have e : ((N.length : Int) + 2 - 2).toNat = N.length := by omega
          have : ∀ j (hj : j < (N ++ [(⟨l, ks⟩ : Nd)]).length), j = N.length → l ≤ ((N ++ [(⟨l, ks⟩ : Nd)])[j]'hj).lv := by
            rintro j hj rfl
            simp
          exact this _ _ e
/-! class by class -/
structure Steps (S : List Int) (M : Int) (N0 : List Nd) (l : Int) (sz : Nat) (step : List Nd → Nat → Out) : Prop where
  fine : ∀ N c, c < sz → N0 <+: N → Good S M N → Fine S M N (l + 1) (step N c)
  again : ∀ N c N2, c < sz → N0 <+: N → Good S M N → (step N c).2.2 = 0 → (step N c).1 <+: N2 → Good S M N2 → step N2 c = (N2, (step N c).2.1, 0)
variable {step : List Nd → Nat → Out} {sz : Nat}
structure KFine (S : List Int) (M : Int) (N : List Nd) (l : Int) (k : Nat) (x : List Nd × List Int × Int) : Prop where
  good : Good S M x.1
  pre : N <+: x.1
  err : x.2.2 = 0 ∨ x.2.2 = 2
  len : x.2.2 = 0 → x.2.1.length = k
  low : x.2.2 = 0 → ∀ r ∈ x.2.1, lowA S x.1 l r = true
theorem low_pre (h : N <+: N') {r : Int} (hr : lowA S N l r = true) : lowA S N' l r = true := by
  unfold lowA at *
  rw [Bool.and_eq_true_iff] at *
  exact ⟨has_pre h hr.1, by rw [lvl_pre h hr.1]; exact hr.2⟩
theorem runK_fine (hs : Steps S M N l sz step) (h : Good S M N) : ∀ k, k ≤ sz → KFine S M N l k (runK step N k)
  | 0, _ => ⟨h, List.prefix_refl _, .inl rfl, fun _ => rfl, fun _ r hr => by simp [runK] at hr⟩
  | k + 1, hk => by
    have ih := runK_fine hs h k (by omega)
    unfold runK
    by_cases he : (runK step N k).2.2 = 0
    · rw [if_pos he]
      have hf := hs.fine _ k (by omega) ih.pre ih.good
      refine ⟨hf.good, ih.pre.trans hf.pre, by rcases hf.err with e | e; exact .inl e; exact .inr e.1, fun _ => by simp [ih.len he], fun e0 r hr => ?_⟩
      rcases List.mem_append.1 hr with hr | hr
      · exact low_pre hf.pre (ih.low he r hr)
      · simp at hr
        subst hr
        have := hf.ok e0
        unfold lowA
        show (hasA (step (runK step N k).1 k).1 _ && decide (l < lvl S.length (step (runK step N k).1 k).1 _)) = true
        rw [this.1, decide_eq_true (by have := this.2; omega)]
        rfl
    · rw [if_neg he]
      exact ⟨ih.good, ih.pre, ih.err, fun e => absurd e he, fun e => absurd e he⟩
theorem runK_err {k j : Nat} (hjk : k ≤ j) (h : (runK step N k).2.2 ≠ 0) : runK step N j = runK step N k := by
  induction j with
  | zero => have : k = 0 := by omega
            subst this; rfl
  | succ j ih =>
    by_cases e : k = j + 1
    · rw [e]
    · have := ih (by omega)
      conv => lhs; unfold runK
      rw [if_neg (by rw [this]; exact h), this]
theorem runK_ok {k j : Nat} (hkj : k ≤ j) (h : (runK step N j).2.2 = 0) : (runK step N k).2.2 = 0 := by
  by_cases e : (runK step N k).2.2 = 0
  · exact e
  · rw [runK_err hkj e] at h; exact absurd h e
theorem runK_pre (hs : Steps S M N l sz step) (h : Good S M N) {k j : Nat} (hkj : k ≤ j) (hj : j ≤ sz) : (runK step N k).1 <+: (runK step N j).1 := by
  induction j with
  | zero => have : k = 0 := by omega
            subst this; exact List.prefix_refl _
  | succ j ih =>
    by_cases e : k = j + 1
    · rw [e]; exact List.prefix_refl _
    · have h1 := ih (by omega) (by omega)
      have hk := runK_fine hs h j (by omega)
      conv => rhs; unfold runK
      by_cases he : (runK step N j).2.2 = 0
      · rw [if_pos he]
        exact h1.trans (hs.fine _ j (by omega) hk.pre hk.good).pre
      · rw [if_neg he]; exact h1
theorem runK_again (hs : Steps S M N l sz step) (h : Good S M N) {j : Nat} (hj : j ≤ sz) (he : (runK step N j).2.2 = 0) (hp : (runK step N j).1 <+: N2) (h2 : Good S M N2) : ∀ k, k ≤ j → runK step N2 k = (N2, (runK step N k).2.1, 0)
  | 0, _ => rfl
  | k + 1, hk => by
    have ih := runK_again hs h hj he hp h2 k (by omega)
    have e1 : (runK step N (k + 1)).2.2 = 0 := runK_ok hk he
    have e0 : (runK step N k).2.2 = 0 := runK_ok (by omega) he
    have hpk : (runK step N (k + 1)).1 <+: N2 := (runK_pre hs h hk hj).trans hp
    have hf := runK_fine hs h k (by omega)
    unfold runK at e1 hpk ⊢
    rw [if_pos e0] at e1 hpk ⊢
    rw [ih, if_pos rfl]
    have := hs.again _ k N2 (by omega) hf.pre hf.good e1 hpk h2
    rw [this]
/-- a node's kids may be -/
theorem runK_may (hs : Steps S M N l (S.getD l.toNat 0).toNat step) (h : Good S M N) (hl : 0 ≤ l ∧ l < S.length) (he : (runK step N (S.getD l.toNat 0).toNat).2.2 = 0) :
    mayA S (runK step N (S.getD l.toNat 0).toNat).1 l (runK step N (S.getD l.toNat 0).toNat).2.1 = true := by
  have hf := runK_fine hs h _ (Nat.le_refl _)
  unfold mayA
  rw [Bool.and_eq_true_iff]
  refine ⟨shape_iff.2 ⟨hl.1, hl.2, ?_⟩, List.all_eq_true.2 (hf.low he)⟩
  rw [hf.len he]
  have hi : l.toNat < S.length := by omega
  have := h.toSized.at_ l.toNat hi
  rw [getD_mem hi]
  omega
theorem build_fine (hs : Steps S M N l (S.getD l.toNat 0).toNat step) (h : Good S M N) (hl : 0 ≤ l ∧ l < S.length) : Fine S M N l (build S M step N l) := by
  have hf := runK_fine hs h _ (Nat.le_refl _)
  unfold build
  by_cases he : (runK step N (S.getD l.toNat 0).toNat).2.2 = 0
  · rw [if_pos he]
    have := make_fine hf.good (runK_may hs h hl he)
    exact ⟨this.good, hf.pre.trans this.pre, this.err, this.ok⟩
  · rw [if_neg he]
    refine ⟨hf.good, hf.pre, .inr ⟨?_, rfl⟩, fun e => absurd e he⟩
    rcases hf.err with e | e
    · exact absurd e he
    · exact e
theorem build_again (hs : Steps S M N l (S.getD l.toNat 0).toNat step) (h : Good S M N) (hl : 0 ≤ l ∧ l < S.length) (he : (build S M step N l).2.2 = 0) (hp : (build S M step N l).1 <+: N2) (h2 : Good S M N2) :
    build S M step N2 l = (N2, (build S M step N l).2.1, 0) := by
  have hf := runK_fine hs h _ (Nat.le_refl _)
  unfold build at he hp ⊢
  by_cases e : (runK step N (S.getD l.toNat 0).toNat).2.2 = 0
  · rw [if_pos e] at he hp ⊢
    have hfm := make_fine hf.good (runK_may hs h hl e)
    have := runK_again hs h (Nat.le_refl _) e (hfm.pre.trans hp) h2 _ (Nat.le_refl _)
    rw [this, if_pos rfl]
    exact make_again he hp
  · rw [if_neg e] at he
    exact absurd he e
theorem build_congr {step' : List Nd → Nat → Out} (h : ∀ N' c, c < (S.getD l.toNat 0).toNat → N <+: N' → Good S M N' → step' N' c = step N' c) (hs : Steps S M N l (S.getD l.toNat 0).toNat step) (hg : Good S M N) : build S M step' N l = build S M step N l := by
  have key : ∀ k, k ≤ (S.getD l.toNat 0).toNat → runK step' N k = runK step N k := by
    intro k
    induction k with
    | zero => intro _; rfl
    | succ k ih =>
      intro hk
      have hf := runK_fine hs hg k (by omega)
      unfold runK
      rw [ih (by omega), h _ k (by omega) hf.pre hf.good]
  unfold build
  rw [key _ (Nat.le_refl _)]
end
end Go.Proofs.Ytmfdcaalbpikpaa
namespace Go.Proofs.Ytmfdcaalbpikpaa
open Go.RowKit Go.Maps
set_option linter.unusedVariables false
set_option linter.unusedSimpArgs false
/-- the program's numbers: 0 and, 1 or, 2 xor -/
def opB (op : Int) (a b : Bool) : Bool := if op = 0 then a && b else if op = 1 then a || b else a != b
def toI (b : Bool) : Int := if b then 1 else 0
def leafV (op f g : Int) : Int := toI (opB op (decide (f = 1)) (decide (g = 1)))
def runA (op : Int) (S : List Int) (M : Int) : Nat → List Nd → Int → Int → Out
  | 0, N, _, _ => (N, 0, 0)
  | k + 1, N, f, g => if f < 2 ∧ g < 2 then (N, leafV op f g, 0)
    else build S M (fun N' c => runA op S M k N' (kidA S.length N f (min (lvl S.length N f) (lvl S.length N g)) c) (kidA S.length N g (min (lvl S.length N f) (lvl S.length N g)) c)) N (min (lvl S.length N f) (lvl S.length N g))
def cutA (S : List Int) (M : Int) (level class_ : Int) : Nat → List Nd → Int → Out
  | 0, N, _ => (N, 0, 0)
  | k + 1, N, f => if level < lvl S.length N f then (N, f, 0) else if lvl S.length N f = level then (N, (ksOf N f).getD class_.toNat 0, 0)
    else build S M (fun N' c => cutA S M level class_ k N' ((ksOf N f).getD c 0)) N (lvl S.length N f)
section
variable {S : List Int} {M : Int} {N N' N2 : List Nd} {f g l b op : Int}
theorem leaf01 : leafV op f g = 0 ∨ leafV op f g = 1 := by unfold leafV toI; split <;> simp
theorem lvlmin (h : Good S M N) (hf : hasA N f = true) (hg : hasA N g = true) (h2 : ¬ (f < 2 ∧ g < 2)) : 0 ≤ min (lvl S.length N f) (lvl S.length N g) ∧ min (lvl S.length N f) (lvl S.length N g) < S.length := by
  have a := lvl_nonneg h f
  have b := lvl_nonneg h g
  have a1 := lvl_le_n h f
  have b1 := lvl_le_n h g
  have a2 := lvl_leaf h hf
  have b2 := lvl_leaf h hg
  omega
/-- how deep there is to go -/
def deep (S : List Int) (N : List Nd) (f g : Int) : Int := S.length - min (lvl S.length N f) (lvl S.length N g)
theorem run_steps : ∀ k : Nat, (∀ N f g, Good S M N → hasA N f = true → hasA N g = true → deep S N f g < k →
      Fine S M N (min (lvl S.length N f) (lvl S.length N g)) (runA op S M k N f g)) ∧
    (∀ N N2 f g, Good S M N → hasA N f = true → hasA N g = true → deep S N f g < k → (runA op S M k N f g).2.2 = 0 → (runA op S M k N f g).1 <+: N2 → Good S M N2 →
      runA op S M k N2 f g = (N2, (runA op S M k N f g).2.1, 0))
  | 0 => ⟨fun N f g h hf hg hk => by have := lvl_le_n h f; unfold deep at hk; omega, fun N N2 f g h hf hg hk => by have := lvl_le_n h f; unfold deep at hk; omega⟩
  | k + 1 => by
    obtain ⟨ih1, ih2⟩ := run_steps k
    have hst : ∀ N f g, Good S M N → hasA N f = true → hasA N g = true → deep S N f g < (k + 1 : Nat) → ¬ (f < 2 ∧ g < 2) →
        Steps S M N (min (lvl S.length N f) (lvl S.length N g)) (S.getD (min (lvl S.length N f) (lvl S.length N g)).toNat 0).toNat
          (fun N' c => runA op S M k N' (kidA S.length N f (min (lvl S.length N f) (lvl S.length N g)) c) (kidA S.length N g (min (lvl S.length N f) (lvl S.length N g)) c)) := by
      intro N f g h hf hg hk h2
      have hl := lvlmin h hf hg h2
      have key : ∀ c, c < (S.getD (min (lvl S.length N f) (lvl S.length N g)).toNat 0).toNat → ∀ N', N <+: N' → Good S M N' →
          hasA N' (kidA S.length N f (min (lvl S.length N f) (lvl S.length N g)) c) = true ∧ hasA N' (kidA S.length N g (min (lvl S.length N f) (lvl S.length N g)) c) = true ∧
          min (lvl S.length N f) (lvl S.length N g) < lvl S.length N' (kidA S.length N f (min (lvl S.length N f) (lvl S.length N g)) c) ∧ min (lvl S.length N f) (lvl S.length N g) < lvl S.length N' (kidA S.length N g (min (lvl S.length N f) (lvl S.length N g)) c) := by
        intro c hc N' hp hgd
        have k1 := kid_fine (l := min (lvl S.length N f) (lvl S.length N g)) h hf (by omega) hl.2 hc
        have k2 := kid_fine (l := min (lvl S.length N f) (lvl S.length N g)) h hg (by omega) hl.2 hc
        exact ⟨has_pre hp k1.1, has_pre hp k2.1, by rw [lvl_pre hp k1.1]; exact k1.2, by rw [lvl_pre hp k2.1]; exact k2.2⟩
      refine ⟨fun N' c hc hp hgd => ?_, fun N' c N2 hc hp hgd he hp2 hg2 => ?_⟩
      · obtain ⟨k1, k2, k3, k4⟩ := key c hc N' hp hgd
        have := ih1 N' _ _ hgd k1 k2 (by unfold deep at hk ⊢; omega)
        exact ⟨this.good, this.pre, this.err, fun e => ⟨(this.ok e).1, by have := (this.ok e).2; omega⟩⟩
      · obtain ⟨k1, k2, k3, k4⟩ := key c hc N' hp hgd
        exact ih2 N' N2 _ _ hgd k1 k2 (by unfold deep at hk ⊢; omega) he hp2 hg2
    refine ⟨fun N f g h hf hg hk => ?_, fun N N2 f g h hf hg hk he hp hg2 => ?_⟩
    · unfold runA
      by_cases h2 : f < 2 ∧ g < 2
      · rw [if_pos h2]
        refine ⟨h, List.prefix_refl _, .inl rfl, fun _ => ⟨has01 leaf01, ?_⟩⟩
        have e : lvl S.length N (leafV op f g) = S.length := lvl01 (by have := leaf01 (op := op) (f := f) (g := g); omega)
        show _ ≤ lvl S.length N (leafV op f g)
        rw [e, lvl01 h2.1]
        omega
      · rw [if_neg h2]
        exact build_fine (hst N f g h hf hg hk h2) h (lvlmin h hf hg h2)
    · unfold runA at he hp ⊢
      by_cases h2 : f < 2 ∧ g < 2
      · rw [if_pos h2] at he hp
        rw [if_pos h2, if_pos h2]
      · rw [if_neg h2] at he hp
        rw [if_neg h2, if_neg h2]
        have hs := hst N f g h hf hg hk h2
        have hl := lvlmin h hf hg h2
        have hpN : N <+: N2 := (build_fine hs h hl).pre.trans hp
        rw [lvl_pre hpN hf, lvl_pre hpN hg]
        have e := build_again hs h hl he hp hg2
        rw [← e]
        have efun : (fun N' c => runA op S M k N' (kidA S.length N2 f (min (lvl S.length N f) (lvl S.length N g)) c) (kidA S.length N2 g (min (lvl S.length N f) (lvl S.length N g)) c)) =
            (fun N' c => runA op S M k N' (kidA S.length N f (min (lvl S.length N f) (lvl S.length N g)) c) (kidA S.length N g (min (lvl S.length N f) (lvl S.length N g)) c)) := by
          funext N' c
          rw [kid_pre hpN hf, kid_pre hpN hg]
        rw [efun]
end
end Go.Proofs.Ytmfdcaalbpikpaa
