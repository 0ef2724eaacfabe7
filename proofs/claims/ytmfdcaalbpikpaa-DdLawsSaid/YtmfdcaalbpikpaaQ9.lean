/- What DdLaws asks: the laws of what is put together, the first point, the parts of a level, nodes made again. No program in sight. -/
import Derived.Test.YtmfdcaalbpikpaaQ8
namespace Go.Proofs.Ytmfdcaalbpikpaa
open Go.RowKit Go.Maps
set_option linter.unusedVariables false
set_option linter.unusedSimpArgs false
section
variable {S : List Int} {M : Int} {N N' N2 : List Nd} {f g l op lv cl : Int} {p : List Int} {R : Out} {φ : List Int → Bool}
/-- nodes made again, one by one, are the same -/
theorem make_next (h : Good S M N) {k : Nat} (hk : k < N.length) : makeA S M (N.take k) (N[k]'hk).lv (N[k]'hk).ks = (N.take (k + 1), (k : Int) + 2, 0) := by
  have e := h.each k hk
  have hl : (N.take k).length = k := by rw [List.length_take]; omega
  have hn : (⟨(N[k]'hk).lv, (N[k]'hk).ks⟩ : Nd) = N[k]'hk := rfl
  have hm : N[k]'hk ∉ N.take k := fun hm => by
    obtain ⟨j, hj, e2⟩ := List.getElem_of_mem hm
    rw [List.getElem_take] at e2
    have := (List.getElem_inj h.nodup).1 e2
    omega
  have hM := h.len
  unfold makeA
  rw [if_neg (by rw [e.1]; simp), if_neg (by rw [e.2]; simp), hn, if_neg hm, if_neg (by rw [hl]; omega), List.take_succ_eq_append_getElem hk, hl]
/-- a result, and a ref that is there even if there was no room -/
structure Ok (S : List Int) (M : Int) (N : List Nd) (R : Out) (φ : List Int → Bool) : Prop extends Res S M N R φ where
  has : hasA R.1 R.2.1 = true
theorem outA_has {x : Out} {b : Int} (h : Fine S M N b x) : hasA (outA N x).1 (outA N x).2.1 = true := by
  unfold outA
  by_cases e : x.2.2 = 0
  · rw [if_pos e]; exact (h.ok e).1
  · rw [if_neg e]; exact has01 (.inl rfl)
theorem binA_ok (hG : Good S M N) (hf : hasA N f = true) (hg : hasA N g = true) : Ok S M N (binA op S M N f g) (fun p => opB op (den N p f) (den N p g)) where
  toRes := binA_res hG hf hg
  has := by unfold binA; rw [if_pos ⟨hf, hg⟩]; exact outA_has (runT_fine hG hf hg)
theorem resA_ok (hG : Good S M N) (hf : hasA N f = true) (hL : 0 ≤ lv ∧ lv < S.length) (hC : 0 ≤ cl ∧ cl < S.getD lv.toNat 0) : Ok S M N (resA S M lv cl N f) (fun p => den N (p.set lv.toNat cl) f) where
  toRes := resA_res hG hf hL hC
  has := by unfold resA; rw [if_pos ⟨hf, hL, hC⟩]; exact outA_has (cutT_fine hL hC hG hf)
theorem setA_ok {ins : List Bool} (hG : Good S M N) (hL : 0 ≤ lv ∧ lv < S.length) (hi : (ins.length : Int) = S.getD lv.toNat 0) : Ok S M N (setA S M N lv ins) (fun p => ins.getD (p.getD lv.toNat 0).toNat false) where
  toRes := setA_res hG hL hi
  has := by
    by_cases e : (setA S M N lv ins).2.2 = 0
    · exact ((setA_res hG hL hi).ok e).1
    · revert e
      unfold setA makeA
      intro e
      repeat' split
      all_goals first
        | exact has01 (.inl rfl)
        | (exfalso; apply e; simp_all)
theorem Ok.at (o : Ok S M N R (fun p => opB op (den N p f) (den N p g))) (hG : Good S M N) (hf : hasA N f = true) (hg : hasA N g = true) (e : R.2.2 = 0) (h2 : R.1 <+: N2) (hp : Pt S p) : den N2 p R.2.1 = opB op (den N2 p f) (den N2 p g) := by
  rw [den_ext o.good hp h2 o.has, (o.ok e).2 p hp, den_ext hG hp (o.pre.trans h2) hf, den_ext hG hp (o.pre.trans h2) hg]
theorem binA_swap (hop : 0 ≤ op ∧ op ≤ 2) : binA op S M N f g = binA op S M N g f := by
  unfold binA
  rw [runT_swap hop]
  by_cases h : hasA N f = true ∧ hasA N g = true
  · rw [if_pos h, if_pos ⟨h.2, h.1⟩]
  · rw [if_neg h, if_neg (fun e => h ⟨e.2, e.1⟩)]
theorem outA_err {x : Out} : (outA N x).2.2 = x.2.2 := by unfold outA; split <;> rfl
theorem binA_again (hG : Good S M N) (hf : hasA N f = true) (hg : hasA N g = true) (he : (binA op S M N f g).2.2 = 0) (hp : (binA op S M N f g).1 <+: N2) (h2 : Good S M N2) : binA op S M N2 f g = (N2, (binA op S M N f g).2.1, 0) := by
  have o := (binA_ok (op := op) hG hf hg).pre
  have e1 : binA op S M N f g = outA N (runT op S M N f g) := by unfold binA; rw [if_pos ⟨hf, hg⟩]
  rw [e1] at he hp o ⊢
  rw [outA_err] at he
  have e2 : outA N (runT op S M N f g) = runT op S M N f g := by unfold outA; rw [if_pos he]
  rw [e2] at hp o ⊢
  have := runT_again hG hf hg he hp h2
  unfold binA
  rw [if_pos ⟨has_pre (o.trans hp) hf, has_pre (o.trans hp) hg⟩, this]
  unfold outA
  rw [if_pos rfl]
/-- ten operations -/
structure Ten (S : List Int) (M : Int) (N : List Nd) (f g : Int) (R1 R2 R3 R4 R5 R6 R7 R8 R9 R10 : Out) : Prop where
  good : Good S M R10.1
  pre : N <+: R10.1
  errs : ∀ e ∈ [R1.2.2, R2.2.2, R3.2.2, R4.2.2, R5.2.2, R6.2.2, R7.2.2, R8.2.2, R9.2.2, R10.2.2], e = 0 ∨ e = 2
  again : R5.2.2 = 0 → ∀ K, R10.1 <+: K → Good S M K → binA 1 S M K g f = (K, R5.2.1, 0)
  laws : (∀ e ∈ [R1.2.2, R2.2.2, R3.2.2, R4.2.2, R5.2.2, R6.2.2, R7.2.2, R8.2.2, R9.2.2, R10.2.2], e = 0) → R2.2.1 = f ∧ R3.2.1 = R4.2.1 ∧ R5.2.1 = R6.2.1 ∧ R9.2.1 = R5.2.1 ∧ R10.2.1 = 0
theorem ten (hG : Good S M N) (hf : hasA N f = true) (hg : hasA N g = true) {R1 R2 R3 R4 R5 R6 R7 R8 R9 R10 : Out}
    (h1 : R1 = binA 2 S M N f 1) (h2 : R2 = binA 2 S M R1.1 R1.2.1 1) (h3 : R3 = binA 0 S M R2.1 f g) (h4 : R4 = binA 0 S M R3.1 g f) (h5 : R5 = binA 1 S M R4.1 f g) (h6 : R6 = binA 1 S M R5.1 g f)
    (h7 : R7 = binA 2 S M R6.1 g 1) (h8 : R8 = binA 0 S M R7.1 R1.2.1 R7.2.1) (h9 : R9 = binA 2 S M R8.1 R8.2.1 1) (h10 : R10 = binA 0 S M R9.1 f R1.2.1) : Ten S M N f g R1 R2 R3 R4 R5 R6 R7 R8 R9 R10 := by
  have t : ∀ K : List Nd, hasA K 1 = true := fun K => has01 (.inr rfl)
  have o1 := binA_ok (op := 2) hG hf (t _); rw [← h1] at o1
  have o2 := binA_ok (op := 2) o1.good o1.has (t _); rw [← h2] at o2
  have q2 := o1.pre.trans o2.pre
  have o3 := binA_ok (op := 0) o2.good (has_pre q2 hf) (has_pre q2 hg); rw [← h3] at o3
  have q3 := q2.trans o3.pre
  have o4 := binA_ok (op := 0) o3.good (has_pre q3 hg) (has_pre q3 hf); rw [← h4] at o4
  have q4 := q3.trans o4.pre
  have o5 := binA_ok (op := 1) o4.good (has_pre q4 hf) (has_pre q4 hg); rw [← h5] at o5
  have q5 := q4.trans o5.pre
  have o6 := binA_ok (op := 1) o5.good (has_pre q5 hg) (has_pre q5 hf); rw [← h6] at o6
  have q6 := q5.trans o6.pre
  have o7 := binA_ok (op := 2) o6.good (has_pre q6 hg) (t _); rw [← h7] at o7
  have q7 := q6.trans o7.pre
  have r17 : R1.1 <+: R7.1 := ((((o2.pre.trans o3.pre).trans o4.pre).trans o5.pre).trans o6.pre).trans o7.pre
  have o8 := binA_ok (op := 0) o7.good (has_pre r17 o1.has) o7.has; rw [← h8] at o8
  have q8 := q7.trans o8.pre
  have o9 := binA_ok (op := 2) o8.good o8.has (t _); rw [← h9] at o9
  have q9 := q8.trans o9.pre
  have r19 : R1.1 <+: R9.1 := (r17.trans o8.pre).trans o9.pre
  have o10 := binA_ok (op := 0) o9.good (has_pre q9 hf) (has_pre r19 o1.has); rw [← h10] at o10
  have q10 := q9.trans o10.pre
  have p9 := o10.pre
  have p8 := o9.pre.trans p9
  have p7 := o8.pre.trans p8
  have p6 := o7.pre.trans p7
  have p5 := o6.pre.trans p6
  have p4 := o5.pre.trans p5
  have p3 := o4.pre.trans p4
  have p2 := o3.pre.trans p3
  have p1 := o2.pre.trans p2
  refine ⟨o10.good, q10, fun e he => ?_, fun e5 K hK hKG => ?_, fun he => ?_⟩
  · simp only [List.mem_cons, List.not_mem_nil, or_false] at he
    rcases he with rfl | rfl | rfl | rfl | rfl | rfl | rfl | rfl | rfl | rfl
    · exact o1.err
    · exact o2.err
    · exact o3.err
    · exact o4.err
    · exact o5.err
    · exact o6.err
    · exact o7.err
    · exact o8.err
    · exact o9.err
    · exact o10.err
  · rw [binA_swap (by omega)]
    have := binA_again (op := 1) (N2 := K) o4.good (has_pre q4 hf) (has_pre q4 hg) (by rw [← h5]; exact e5) (by rw [← h5]; exact p5.trans hK) hKG
    rw [← h5] at this
    exact this
  · have e1 : R1.2.2 = 0 := he _ (by simp)
    have e2 : R2.2.2 = 0 := he _ (by simp)
    have e3 : R3.2.2 = 0 := he _ (by simp)
    have e4 : R4.2.2 = 0 := he _ (by simp)
    have e5 : R5.2.2 = 0 := he _ (by simp)
    have e6 : R6.2.2 = 0 := he _ (by simp)
    have e7 : R7.2.2 = 0 := he _ (by simp)
    have e8 : R8.2.2 = 0 := he _ (by simp)
    have e9 : R9.2.2 = 0 := he _ (by simp)
    have e10 : R10.2.2 = 0 := he _ (by simp)
    have hfK := has_pre q10 hf
    have s1 := fun (p : List Int) (hp : Pt S p) => o1.at hG hf (t _) e1 p1 hp
    have s2 := fun (p : List Int) (hp : Pt S p) => o2.at o1.good o1.has (t _) e2 p2 hp
    have s3 := fun (p : List Int) (hp : Pt S p) => o3.at o2.good (has_pre q2 hf) (has_pre q2 hg) e3 p3 hp
    have s4 := fun (p : List Int) (hp : Pt S p) => o4.at o3.good (has_pre q3 hg) (has_pre q3 hf) e4 p4 hp
    have s5 := fun (p : List Int) (hp : Pt S p) => o5.at o4.good (has_pre q4 hf) (has_pre q4 hg) e5 p5 hp
    have s6 := fun (p : List Int) (hp : Pt S p) => o6.at o5.good (has_pre q5 hg) (has_pre q5 hf) e6 p6 hp
    have s7 := fun (p : List Int) (hp : Pt S p) => o7.at o6.good (has_pre q6 hg) (t _) e7 p7 hp
    have s8 := fun (p : List Int) (hp : Pt S p) => o8.at o7.good (has_pre r17 o1.has) o7.has e8 p8 hp
    have s9 := fun (p : List Int) (hp : Pt S p) => o9.at o8.good o8.has (t _) e9 p9 hp
    have s10 := fun (p : List Int) (hp : Pt S p) => o10.at o9.good (has_pre q9 hf) (has_pre r19 o1.has) e10 (List.prefix_refl _) hp
    refine ⟨?_, ?_, ?_, ?_, ?_⟩
    · refine canon o10.good _ _ _ (Nat.le_refl _) (has_pre p2 o2.has) hfK fun p hp => ?_
      rw [s2 p hp, s1 p hp, den1]
      cases den R10.1 p f <;> rfl
    · refine canon o10.good _ _ _ (Nat.le_refl _) (has_pre p3 o3.has) (has_pre p4 o4.has) fun p hp => ?_
      rw [s3 p hp, s4 p hp]
      cases den R10.1 p f <;> cases den R10.1 p g <;> rfl
    · refine canon o10.good _ _ _ (Nat.le_refl _) (has_pre p5 o5.has) (has_pre p6 o6.has) fun p hp => ?_
      rw [s5 p hp, s6 p hp]
      cases den R10.1 p f <;> cases den R10.1 p g <;> rfl
    · refine canon o10.good _ _ _ (Nat.le_refl _) (has_pre p9 o9.has) (has_pre p5 o5.has) fun p hp => ?_
      rw [s9 p hp, s8 p hp, s7 p hp, s1 p hp, s5 p hp, den1]
      cases den R10.1 p f <;> cases den R10.1 p g <;> rfl
    · refine canon o10.good _ _ _ (Nat.le_refl _) o10.has (has01 (.inl rfl)) fun p hp => ?_
      rw [s10 p hp, s1 p hp, den1, den0]
      cases den R10.1 p f <;> rfl
/-! the parts of a level -/
def unitL (n k : Nat) : List Bool := (List.replicate n false).set k true
theorem unitL_length {n k : Nat} : (unitL n k).length = n := by simp [unitL]
theorem unitL_get {n k j : Nat} (hk : k < n) : (unitL n k).getD j false = decide (j = k) := by
  unfold unitL
  by_cases e : j = k
  · subst e; simp [List.getD, hk]
  · have e2 : ¬ k = j := fun h => e h.symm
    simp only [List.getD, List.getElem?_set, if_neg e2, e, decide_false]
    by_cases hj : j < n
    · simp [hj]
    · simp [hj]
theorem set_same (hp : Pt S p) {i : Nat} (hi : i < S.length) {c : Int} (e : p.getD i 0 = c) : p.set i c = p := by
  refine List.ext_getElem (by simp) fun j h1 h2 => ?_
  by_cases ej : i = j
  · subst ej
    rw [List.getElem_set_self, ← e, getD_mem h2]
  · rw [List.getElem_set_ne ej]
structure Part (S : List Int) (M : Int) (N0 : List Nd) (f : Int) (lv k : Nat) (N : List Nd) (a : Int) : Prop where
  pre : N0 <+: N
  good : Good S M N
  has : hasA N a = true
  says : ∀ p, Pt S p → den N p a = (decide (p.getD lv 0 < (k : Int)) && den N0 p f)
theorem Part.first (hG : Good S M N) {lv : Nat} (hl : lv < S.length) : Part S M N f lv 0 N 0 :=
  ⟨List.prefix_refl _, hG, has01 (.inl rfl), fun p hp => by
    have := (hp.each lv hl).1
    rw [den0, decide_eq_false (by omega)]; rfl⟩
theorem Part.last {lv : Nat} {N0 : List Nd} {a : Int} (hG0 : Good S M N0) (hf : hasA N0 f = true) (hl : lv < S.length) (h : Part S M N0 f lv (S[lv]'hl).toNat N a) : a = f :=
  canon h.good _ _ _ (Nat.le_refl _) h.has (has_pre h.pre hf) fun p hp => by
    have := hp.each lv hl
    rw [getD_mem hl] at this
    rw [h.says p hp, den_ext hG0 hp h.pre hf, decide_eq_true (by omega)]; rfl
structure PartStep (S : List Int) (M : Int) (N0 : List Nd) (f : Int) (lv k : Nat) (N : List Nd) (B D P O : Out) : Prop where
  errs : ∀ e ∈ [B.2.2, D.2.2, P.2.2, O.2.2], e = 0 ∨ e = 2
  pre : N <+: O.1
  ok : B.2.2 = 0 → D.2.2 = 0 → P.2.2 = 0 → O.2.2 = 0 → Part S M N0 f lv (k + 1) O.1 O.2.1
theorem Part.step {lv k : Nat} {N0 : List Nd} {a : Int} {B D P O : Out} (hG0 : Good S M N0) (hf : hasA N0 f = true) (hl : lv < S.length) (h : Part S M N0 f lv k N a) (hk : (k : Int) < S[lv]'hl)
    (hB : B = setA S M N lv (unitL (S[lv]'hl).toNat k)) (hD : D = resA S M lv k B.1 f) (hP : P = binA 0 S M D.1 B.2.1 D.2.1) (hO : O = binA 1 S M P.1 a P.2.1) : PartStep S M N0 f lv k N B D P O := by
  have hkn : k < (S[lv]'hl).toNat := by omega
  have hL : (0 : Int) ≤ (lv : Int) ∧ (lv : Int) < S.length := by omega
  have hC : (0 : Int) ≤ (k : Int) ∧ (k : Int) < S.getD ((lv : Int)).toNat 0 := by rw [Int.toNat_natCast, getD_mem hl]; omega
  have oB := setA_ok (lv := (lv : Int)) (ins := unitL (S[lv]'hl).toNat k) h.good hL (by rw [unitL_length, Int.toNat_natCast, getD_mem hl]; omega); rw [← hB] at oB
  have fB := has_pre (h.pre.trans oB.pre) hf
  have oD := resA_ok (lv := (lv : Int)) (cl := (k : Int)) oB.good fB hL hC; rw [← hD] at oD
  have oP := binA_ok (op := 0) oD.good (has_pre oD.pre oB.has) oD.has; rw [← hP] at oP
  have aP := has_pre ((oB.pre.trans oD.pre).trans oP.pre) h.has
  have oO := binA_ok (op := 1) oP.good aP oP.has; rw [← hO] at oO
  refine ⟨fun e he => ?_, ((oB.pre.trans oD.pre).trans oP.pre).trans oO.pre, fun eB eD eP eO => ⟨(((h.pre.trans oB.pre).trans oD.pre).trans oP.pre).trans oO.pre, oO.good, oO.has, fun p hp => ?_⟩⟩
  · simp only [List.mem_cons, List.not_mem_nil, or_false] at he
    rcases he with rfl | rfl | rfl | rfl
    · exact oB.err
    · exact oD.err
    · exact oP.err
    · exact oO.err
  · have hpl := hp.each lv hl
    rw [getD_mem hl] at hpl
    rw [(oO.ok eO).2 p hp]
    show opB 1 (den P.1 p a) (den P.1 p P.2.1) = _
    rw [den_ext h.good hp ((oB.pre.trans oD.pre).trans oP.pre) h.has, h.says p hp, (oP.ok eP).2 p hp]
    show opB 1 _ (opB 0 (den D.1 p B.2.1) (den D.1 p D.2.1)) = _
    rw [den_ext oB.good hp oD.pre oB.has, (oB.ok eB).2 p hp, (oD.ok eD).2 p hp]
    show opB 1 _ (opB 0 ((unitL _ k).getD (p.getD ((lv : Int)).toNat 0).toNat false) (den B.1 (p.set ((lv : Int)).toNat k) f)) = _
    rw [Int.toNat_natCast, unitL_get hkn]
    by_cases e : p.getD lv 0 = (k : Int)
    · rw [set_same hp hl e, den_ext hG0 hp (h.pre.trans oB.pre) hf, e]
      rw [decide_eq_false (show ¬ (k : Int) < k by omega), decide_eq_true (show ((k : Int)).toNat = k by omega), decide_eq_true (show (k : Int) < ((k + 1 : Nat) : Int) by omega)]
      cases den N0 p f <;> rfl
    · rw [decide_eq_false (show ¬ (p.getD lv 0).toNat = k by omega)]
      have : decide (p.getD lv 0 < (k : Int)) = decide (p.getD lv 0 < ((k + 1 : Nat) : Int)) := decide_eq_decide.2 (by omega)
      rw [this]
      generalize (decide (p.getD lv 0 < ((k + 1 : Nat) : Int)) && den N0 p f) = u
      cases u <;> rfl
/-! the first point -/
theorem path_run (h : Good S M N) : ∀ (n : Nat) (f : Int) (out : List Int), f.toNat ≤ n → hasA N f = true → f ≠ 0 → Pt S out → (∀ i, (lvl S.length N f).toNat ≤ i → out.getD i 0 = 0) →
    Pt S (pathA N n f out) ∧ (∀ i, i < (lvl S.length N f).toNat → (pathA N n f out).getD i 0 = out.getD i 0) ∧ den N (pathA N n f out) f = true ∧
    ∀ p, Pt S p → ∀ m, (lvl S.length N f).toNat ≤ m → (∀ i, (lvl S.length N f).toNat ≤ i → i < m → p.getD i 0 = (pathA N n f out).getD i 0) → p.getD m 0 < (pathA N n f out).getD m 0 → den N p f = false
  | 0, f, out, hn, hf, h0, ho, hz => by have := has_iff.1 hf; omega
  | n + 1, f, out, hn, hf, h0, ho, hz => by
    have hr := has_iff.1 hf
    rcases leaf_or h hf with e | ⟨l, ks, ha⟩
    · have e1 : f = 1 := by omega
      subst e1
      have hlv := lvl01 (S := S) (N := N) (f := 1) (by omega)
      have hpa : pathA N (n + 1) 1 out = out := by unfold pathA; rw [if_pos (by omega)]
      rw [hpa]
      refine ⟨ho, fun i _ => rfl, den1, fun p hp m hm _ hlt => ?_⟩
      rw [hz m hm] at hlt
      have : p.getD m 0 = 0 := by
        have := hp.len
        simp [List.getD, show p.length ≤ m by omega]
      omega
    · have hl0 := ha.l0
      obtain ⟨ln, rfl⟩ : ∃ ln : Nat, l = (ln : Int) := ⟨l.toNat, by omega⟩
      have hlv0 : lvl 0 N f = ln := by
        have := ha.lv
        unfold lvl at this ⊢
        rw [dif_pos ha.lt] at this ⊢
        exact this
      have hlv := ha.lv
      have hnz := nz_lt ha.one
      have hk := ha.low _ (List.getElem_mem hnz)
      have hk0 := nz_at hnz
      have hkr := has_iff.1 hk.1
      have hlt := ha.lt
      have hlen := ha.len
      rw [Int.toNat_natCast] at hlen
      have hpa : pathA N (n + 1) f out = pathA N n (ks[nz ks]'hnz) (out.set ln (nz ks : Nat)) := by
        conv => lhs; unfold pathA
        rw [if_neg (by omega), ha.kse, hlv0, Int.toNat_natCast, getD_mem hnz]
      have hc : (0 : Int) ≤ (nz ks : Nat) ∧ ((nz ks : Nat) : Int) < S.getD ln 0 := by omega
      have hll : ln < out.length := by have := ho.len; omega
      have ho2 := ho.set hc
      have hset : ∀ i, i ≠ ln → (out.set ln ((nz ks : Nat) : Int)).getD i 0 = out.getD i 0 := fun i hi => by
        have : ¬ ln = i := fun e => hi e.symm
        simp [List.getD, this]
      have hset2 : (out.set ln ((nz ks : Nat) : Int)).getD ln 0 = (nz ks : Nat) := by simp [List.getD, hll]
      obtain ⟨i1, i2, i3, i4⟩ := path_run h n (ks[nz ks]'hnz) (out.set ln (nz ks : Nat)) (by omega) hk.1 hk0 ho2 (fun i hi => by rw [hset i (by omega)]; exact hz i (by omega))
      rw [← hpa] at i1 i2 i3 i4
      obtain ⟨P, hP⟩ : ∃ P, P = pathA N (n + 1) f out := ⟨_, rfl⟩
      rw [← hP] at i1 i2 i3 i4 ⊢
      have hPl : P.getD ln 0 = (nz ks : Nat) := by rw [i2 ln (by omega), hset2]
      rw [hlv, Int.toNat_natCast]
      refine ⟨i1, fun i hi => by rw [i2 i (by omega), hset i (by omega)], ?_, fun p hp m hm hag hlt2 => ?_⟩
      · rw [(ha.says i1).2, Int.toNat_natCast, hPl, Int.toNat_natCast, getD_mem hnz]
        exact i3
      · rw [(ha.says hp).2, Int.toNat_natCast]
        by_cases em : m = ln
        · subst em
          rw [hPl] at hlt2
          have hp0 := (hp.each m (by omega)).1
          rw [getD_mem (by omega), nz_before (by omega) (by omega), den0]
        · rw [hag ln (Nat.le_refl _) (by omega), hPl, Int.toNat_natCast, getD_mem hnz]
          by_cases hm2 : m < (lvl S.length N (ks[nz ks]'hnz)).toNat
          · rw [i2 m hm2, hset m em, hz m (by omega)] at hlt2
            have := lvl_le_n h (ks[nz ks]'hnz)
            have := (hp.each m (by omega)).1
            omega
          · exact i4 p hp m (by omega) (fun i h1 h2 => hag i (by omega) h2) hlt2
structure PathOk (S : List Int) (N : List Nd) (f : Int) (P : List Int) : Prop where
  pt : Pt S P
  says : den N P f = true
  first : ∀ p, Pt S p → ∀ m, (∀ i, i < m → p.getD i 0 = P.getD i 0) → p.getD m 0 < P.getD m 0 → den N p f = false
theorem path_ok (h : Good S M N) (hf : hasA N f = true) (h0 : f ≠ 0) : PathOk S N f (pathA N f.toNat f (List.replicate S.length 0)) := by
  have hz : ∀ i, (List.replicate S.length (0 : Int)).getD i 0 = 0 := fun i => by
    by_cases hi : i < S.length
    · simp [List.getD, hi]
    · simp [List.getD, hi]
  obtain ⟨h1, h2, h3, h4⟩ := path_run h f.toNat f _ (Nat.le_refl _) hf h0 (Pt.zero h.toSized) (fun i _ => hz i)
  refine ⟨h1, h3, fun p hp m hag hlt => ?_⟩
  by_cases hm : m < (lvl S.length N f).toNat
  · rw [h2 m hm, hz m] at hlt
    have := lvl_le_n h f
    have := (hp.each m (by omega)).1
    omega
  · exact h4 p hp m (by omega) (fun i _ hi => hag i hi) hlt
/-- a point that begins as another -/
def preP (P : List Int) (i : Nat) (p : List Int) : List Int := (List.range P.length).map fun j => if j < i then P.getD j 0 else p.getD j 0
theorem preP_get {P : List Int} {i j : Nat} (hj : j < P.length) : (preP P i p).getD j 0 = if j < i then P.getD j 0 else p.getD j 0 := by
  have : j < (preP P i p).length := by simp [preP, hj]
  rw [getD_mem this]
  simp only [preP, List.getElem_map, List.getElem_range]
theorem preP_pt {P : List Int} {i : Nat} (hP : Pt S P) (hp : Pt S p) : Pt S (preP P i p) where
  len := by simp [preP, hP.len]
  each := fun j hj => by
    rw [preP_get (by have := hP.len; omega)]
    split
    · exact hP.each j hj
    · exact hp.each j hj
theorem preP_zero {P : List Int} (hP : Pt S P) (hp : Pt S p) : preP P 0 p = p := by
  refine List.ext_getElem (by simp [preP, hP.len, hp.len]) fun j h1 h2 => ?_
  simp only [preP, List.getElem_map, List.getElem_range]
  rw [if_neg (by omega), getD_mem h2]
theorem preP_succ {P : List Int} {i : Nat} (hP : Pt S P) (hp : Pt S p) (hi : i < S.length) : preP P i (p.set i (P.getD i 0)) = preP P (i + 1) p := by
  refine List.ext_getElem (by simp [preP]) fun j h1 h2 => ?_
  have hj : j < P.length := by simpa [preP] using h2
  simp only [preP, List.getElem_map, List.getElem_range]
  by_cases e : j < i
  · rw [if_pos e, if_pos (by omega)]
  · rw [if_neg e]
    by_cases e2 : j = i
    · subst e2
      rw [if_pos (by omega)]
      simp [List.getD, hp.len, hi]
    · rw [if_neg (by omega)]
      have : ¬ i = j := fun h => e2 h.symm
      simp [List.getD, this]
/-- a ref where the first classes are those of a point -/
structure Lead (S : List Int) (M : Int) (N0 : List Nd) (f : Int) (P : List Int) (i : Nat) (N : List Nd) (g : Int) : Prop where
  pre : N0 <+: N
  good : Good S M N
  has : hasA N g = true
  says : ∀ p, Pt S p → den N p g = den N0 (preP P i p) f
theorem Lead.first {N0 : List Nd} {P : List Int} (hG0 : Good S M N0) (hf : hasA N0 f = true) (hP : Pt S P) (hG : Good S M N) (hN : N0 <+: N) : Lead S M N0 f P 0 N f :=
  ⟨hN, hG, has_pre hN hf, fun p hp => by rw [preP_zero hP hp, den_ext hG0 hp hN hf]⟩
theorem Lead.more {N0 : List Nd} {P : List Int} {i : Nat} (h : Lead S M N0 f P i N g) (hN : N <+: N2) (hG : Good S M N2) : Lead S M N0 f P i N2 g :=
  ⟨h.pre.trans hN, hG, has_pre hN h.has, fun p hp => by rw [den_ext h.good hp hN h.has, h.says p hp]⟩
theorem Lead.res {N0 : List Nd} {P : List Int} {i : Nat} {c : Int} (h : Lead S M N0 f P i N g) {m : Nat} (hm : m < S.length) (hc : 0 ≤ c ∧ c < S.getD m 0) : Ok S M N (resA S M m c N g) (fun p => den N0 (preP P i (p.set m c)) f) := by
  have o := resA_ok (lv := (m : Int)) (cl := c) h.good h.has (by omega) (by rw [Int.toNat_natCast]; exact hc)
  refine ⟨⟨o.pre, o.err, o.good, fun e => ⟨(o.ok e).1, fun p hp => ?_⟩⟩, o.has⟩
  rw [(o.ok e).2 p hp]
  show den N (p.set ((m : Int)).toNat c) g = _
  rw [Int.toNat_natCast, h.says _ (hp.set hc)]
theorem Lead.step {N0 : List Nd} {P : List Int} {i : Nat} (h : Lead S M N0 f P i N g) (hP : Pt S P) (hi : i < S.length) (hR : R = resA S M i (P.getD i 0) N g) (e : R.2.2 = 0) : Lead S M N0 f P (i + 1) R.1 R.2.1 := by
  have o := h.res hi (hP.each i hi)
  rw [← hR] at o
  refine ⟨h.pre.trans o.pre, o.good, o.has, fun p hp => ?_⟩
  rw [(o.ok e).2 p hp, preP_succ hP hp hi]
theorem Lead.zero {N0 : List Nd} {P : List Int} {i : Nat} {c : Int} (h : Lead S M N0 f P i N g) (hP : PathOk S N0 f P) (hi : i < S.length) (hc : 0 ≤ c ∧ c < P.getD i 0) (hR : R = resA S M i c N g) (e : R.2.2 = 0) : R.2.1 = 0 := by
  have hPi := hP.pt.each i hi
  have o := h.res hi (c := c) (by omega)
  rw [← hR] at o
  refine canon o.good _ _ _ (Nat.le_refl _) o.has (has01 (.inl rfl)) fun p hp => ?_
  have hpl := hP.pt.len
  have hps := hp.set (i := i) (c := c) (by omega)
  rw [(o.ok e).2 p hp, den0]
  refine hP.first _ (preP_pt hP.pt hps) i (fun j hj => ?_) ?_
  · rw [preP_get (by omega), if_pos hj]
  · rw [preP_get (by omega), if_neg (by omega), set_get hp hi]
    exact hc.2
end
end Go.Proofs.Ytmfdcaalbpikpaa
