/- Plain law: a diagram's nodes, each once, those below ahead. -/
import Derived.Test.YtmfdcaalbpikpaaQ4
namespace Go.Proofs.Ytmfdcaalbpikpaa
open Go.RowKit Go.Maps
set_option linter.unusedVariables false
set_option linter.unusedSimpArgs false
def walkN (N : List Nd) : Nat → Int → List Bool × List Int → List Bool × List Int
  | 0, _, s => s
  | n + 1, f, s => if f < 2 ∨ s.1.getD f.toNat false = true then s else
    (((ksOf N f).foldl (fun s k => walkN N n k s) (s.1.set f.toNat true, s.2)).1, ((ksOf N f).foldl (fun s k => walkN N n k s) (s.1.set f.toNat true, s.2)).2 ++ [f])
def walksN (N : List Nd) (n : Nat) (ks : List Int) (s : List Bool × List Int) : List Bool × List Int := ks.foldl (fun s k => walkN N n k s) s
structure Fits (N : List Nd) (d : Nat) (s : List Bool × List Int) : Prop where
  len : s.1.length = N.length + 2
  cnt : s.2.length + s.1.count false + d ≤ N.length + 2
theorem Fits.mono {N : List Nd} {d d' : Nat} {s : List Bool × List Int} (h : Fits N d s) (hd : d' ≤ d) : Fits N d' s := ⟨h.len, by have := h.cnt; omega⟩
section
variable {S : List Int} {M : Int} {N : List Nd} {n : Nat} {f : Int} {s : List Bool × List Int} {d : Nat} {ks : List Int}
theorem walkN_skip (h : f < 2 ∨ s.1.getD f.toNat false = true) : walkN N n f s = s := by
  cases n with
  | zero => rfl
  | succ n => unfold walkN; rw [if_pos h]
theorem walkN_do (h1 : ¬ f < 2) (h2 : s.1.getD f.toNat false = false) : walkN N (n + 1) f s = ((walksN N n (ksOf N f) (s.1.set f.toNat true, s.2)).1, (walksN N n (ksOf N f) (s.1.set f.toNat true, s.2)).2 ++ [f]) := by
  conv => lhs; unfold walkN
  rw [if_neg (fun e => by rcases e with e | e; exact h1 e; rw [h2] at e; cases e)]
  rfl
theorem walksN_snoc (k : Int) : walksN N n (ks ++ [k]) s = walkN N n k (walksN N n ks s) := by unfold walksN; rw [List.foldl_append]; rfl
theorem walksN_take {j : Nat} (h : j < ks.length) : walksN N n (ks.take (j + 1)) s = walkN N n (ks[j]'h) (walksN N n (ks.take j) s) := by
  rw [List.take_succ_eq_append_getElem h, walksN_snoc]
theorem Fits.set (h : Fits N d s) (hf : hasA N f = true) (h2 : s.1.getD f.toNat false = false) : Fits N (d + 1) (s.1.set f.toNat true, s.2) := by
  have hr := has_iff.1 hf
  have hl : f.toNat < s.1.length := by have := h.len; omega
  have e : s.1[f.toNat]'hl = false := by rw [← h2]; simp [List.getD, hl]
  refine ⟨by simp [h.len], ?_⟩
  have h3 := List.count_set (a := true) (b := false) (l := s.1) (i := f.toNat) hl
  have h4 : 0 < s.1.count false := List.count_pos_iff.2 (by rw [← e]; exact List.getElem_mem hl)
  rw [e] at h3
  have h5 := h.cnt
  simp only [beq_self_eq_true, if_true, show (true == false) = false from rfl, if_false, Bool.false_eq_true] at h3
  show s.2.length + (s.1.set f.toNat true).count false + (d + 1) ≤ _
  rw [h3]
  omega
theorem walks_fits (hw : ∀ k ∈ ks, ∀ s, Fits N d s → Fits N d (walkN N n k s)) : ∀ s, Fits N d s → Fits N d (walksN N n ks s) := by
  induction ks with
  | nil => intro s h; exact h
  | cons k t ih =>
    intro s h
    show Fits N d (walksN N n t (walkN N n k s))
    exact ih (fun k' hk' => hw k' (by simp [hk'])) _ (hw k (by simp) s h)
theorem walk_fits (hG : Good S M N) : ∀ (n : Nat) (f : Int) (s : List Bool × List Int) (d : Nat), hasA N f = true → Fits N d s → Fits N d (walkN N n f s)
  | 0, f, s, d, hf, h => h
  | n + 1, f, s, d, hf, h => by
    by_cases h1 : f < 2
    · rw [walkN_skip (.inl h1)]; exact h
    · cases h2 : s.1.getD f.toNat false with
      | true => rw [walkN_skip (.inr h2)]; exact h
      | false =>
        rw [walkN_do h1 h2]
        rcases leaf_or hG hf with e | ⟨l, ks, ha⟩
        · omega
        · rw [ha.kse]
          have h3 := walks_fits (n := n) (ks := ks) (d := d + 1) (fun k hk s hs => walk_fits hG n k s (d + 1) (ha.low k hk).1 hs) _ (h.set hf h2)
          exact ⟨h3.len, by have := h3.cnt; simp only [List.length_append, List.length_singleton]; omega⟩
theorem walks_fits_ (hG : Good S M N) (hk : ∀ k ∈ ks, hasA N k = true) (h : Fits N d s) : Fits N d (walksN N n ks s) :=
  walks_fits (fun k hk' s hs => walk_fits hG n k s d (hk k hk') hs) s h
theorem Fits.start : Fits N 0 (List.replicate (N.length + 2) false, []) := ⟨by simp, by simp⟩
def nodesR (N : List Nd) (roots : List Int) : List Int × Int := if roots.all (fun f => hasA N f) = true then ((walksN N (N.length + 2) roots (List.replicate (N.length + 2) false, [])).2, 0) else ([], 1)
end
end Go.Proofs.Ytmfdcaalbpikpaa
