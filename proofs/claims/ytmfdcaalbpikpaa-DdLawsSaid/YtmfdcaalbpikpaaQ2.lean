/- Two diagrams put together, one cut: as plain lists of nodes. No program in sight. -/
import Derived.Test.YtmfdcaalbpikpaaQ1
namespace Go.Proofs.Ytmfdcaalbpikpaa
open Go.RowKit Go.Maps
set_option linter.unusedVariables false
set_option linter.unusedSimpArgs false
/-- the program's numbers: 0 and, 1 or, 2 xor -/
def opB (op : Int) (a b : Bool) : Bool := if op = 0 then a && b else if op = 1 then a || b else a != b
def toI (b : Bool) : Int := if b then 1 else 0
def leafV (op f g : Int) : Int := toI (opB op (decide (f = 1)) (decide (g = 1)))
def runA (op : Int) (S : List Int) (M : Int) : Nat → List Nd → Int → Int → Out
  | 0, N, _, _ => (N, 0, 0)
  | k + 1, N, f, g => if f < 2 ∧ g < 2 then (N, leafV op f g, 0)
    else build S M (fun N' c => runA op S M k N' (kidA S.length N f (min (lvl S.length N f) (lvl S.length N g)) c) (kidA S.length N g (min (lvl S.length N f) (lvl S.length N g)) c)) N (min (lvl S.length N f) (lvl S.length N g))
def cutA (S : List Int) (M : Int) (level class_ : Int) : Nat → List Nd → Int → Out
  | 0, N, _ => (N, 0, 0)
  | k + 1, N, f => if level < lvl S.length N f then (N, f, 0) else if lvl S.length N f = level then (N, (ksOf N f).getD class_.toNat 0, 0)
    else build S M (fun N' c => cutA S M level class_ k N' ((ksOf N f).getD c 0)) N (lvl S.length N f)
section
variable {S : List Int} {M : Int} {N N' N2 : List Nd} {f g l b op : Int}
theorem leaf01 : leafV op f g = 0 ∨ leafV op f g = 1 := by unfold leafV toI; split <;> simp
theorem lvlmin (h : Good S M N) (hf : hasA N f = true) (hg : hasA N g = true) (h2 : ¬ (f < 2 ∧ g < 2)) : 0 ≤ min (lvl S.length N f) (lvl S.length N g) ∧ min (lvl S.length N f) (lvl S.length N g) < S.length := by
  have a := lvl_nonneg h f
  have b := lvl_nonneg h g
  have a1 := lvl_le_n h f
  have b1 := lvl_le_n h g
  have a2 := lvl_leaf h hf
  have b2 := lvl_leaf h hg
  omega
/-- how deep there is to go -/
def deep (S : List Int) (N : List Nd) (f g : Int) : Int := S.length - min (lvl S.length N f) (lvl S.length N g)
theorem run_steps : ∀ k : Nat, (∀ N f g, Good S M N → hasA N f = true → hasA N g = true → deep S N f g < k →
      Fine S M N (min (lvl S.length N f) (lvl S.length N g)) (runA op S M k N f g)) ∧
    (∀ N N2 f g, Good S M N → hasA N f = true → hasA N g = true → deep S N f g < k → (runA op S M k N f g).2.2 = 0 → (runA op S M k N f g).1 <+: N2 → Good S M N2 →
      runA op S M k N2 f g = (N2, (runA op S M k N f g).2.1, 0))
  | 0 => ⟨fun N f g h hf hg hk => by have := lvl_le_n h f; unfold deep at hk; omega, fun N N2 f g h hf hg hk => by have := lvl_le_n h f; unfold deep at hk; omega⟩
  | k + 1 => by
    obtain ⟨ih1, ih2⟩ := run_steps k
    have hst : ∀ N f g, Good S M N → hasA N f = true → hasA N g = true → deep S N f g < (k + 1 : Nat) → ¬ (f < 2 ∧ g < 2) →
        Steps S M N (min (lvl S.length N f) (lvl S.length N g)) (S.getD (min (lvl S.length N f) (lvl S.length N g)).toNat 0).toNat
          (fun N' c => runA op S M k N' (kidA S.length N f (min (lvl S.length N f) (lvl S.length N g)) c) (kidA S.length N g (min (lvl S.length N f) (lvl S.length N g)) c)) := by
      intro N f g h hf hg hk h2
      have hl := lvlmin h hf hg h2
      have key : ∀ c, c < (S.getD (min (lvl S.length N f) (lvl S.length N g)).toNat 0).toNat → ∀ N', N <+: N' → Good S M N' →
          hasA N' (kidA S.length N f (min (lvl S.length N f) (lvl S.length N g)) c) = true ∧ hasA N' (kidA S.length N g (min (lvl S.length N f) (lvl S.length N g)) c) = true ∧
          min (lvl S.length N f) (lvl S.length N g) < lvl S.length N' (kidA S.length N f (min (lvl S.length N f) (lvl S.length N g)) c) ∧ min (lvl S.length N f) (lvl S.length N g) < lvl S.length N' (kidA S.length N g (min (lvl S.length N f) (lvl S.length N g)) c) := by
        intro c hc N' hp hgd
        have k1 := kid_fine (l := min (lvl S.length N f) (lvl S.length N g)) h hf (by omega) hl.2 hc
        have k2 := kid_fine (l := min (lvl S.length N f) (lvl S.length N g)) h hg (by omega) hl.2 hc
        exact ⟨has_pre hp k1.1, has_pre hp k2.1, by rw [lvl_pre hp k1.1]; exact k1.2, by rw [lvl_pre hp k2.1]; exact k2.2⟩
      refine ⟨fun N' c hc hp hgd => ?_, fun N' c N2 hc hp hgd he hp2 hg2 => ?_⟩
      · obtain ⟨k1, k2, k3, k4⟩ := key c hc N' hp hgd
        have := ih1 N' _ _ hgd k1 k2 (by unfold deep at hk ⊢; omega)
        exact ⟨this.good, this.pre, this.err, fun e => ⟨(this.ok e).1, by have := (this.ok e).2; omega⟩⟩
      · obtain ⟨k1, k2, k3, k4⟩ := key c hc N' hp hgd
        exact ih2 N' N2 _ _ hgd k1 k2 (by unfold deep at hk ⊢; omega) he hp2 hg2
    refine ⟨fun N f g h hf hg hk => ?_, fun N N2 f g h hf hg hk he hp hg2 => ?_⟩
    · unfold runA
      by_cases h2 : f < 2 ∧ g < 2
      · rw [if_pos h2]
        refine ⟨h, List.prefix_refl _, .inl rfl, fun _ => ⟨has01 leaf01, ?_⟩⟩
        have e : lvl S.length N (leafV op f g) = S.length := lvl01 (by have := leaf01 (op := op) (f := f) (g := g); omega)
        show _ ≤ lvl S.length N (leafV op f g)
        rw [e, lvl01 h2.1]
        omega
      · rw [if_neg h2]
        exact build_fine (hst N f g h hf hg hk h2) h (lvlmin h hf hg h2)
    · unfold runA at he hp ⊢
      by_cases h2 : f < 2 ∧ g < 2
      · rw [if_pos h2] at he hp
        rw [if_pos h2, if_pos h2]
      · rw [if_neg h2] at he hp
        rw [if_neg h2, if_neg h2]
        have hs := hst N f g h hf hg hk h2
        have hl := lvlmin h hf hg h2
        have hpN : N <+: N2 := (build_fine hs h hl).pre.trans hp
        rw [lvl_pre hpN hf, lvl_pre hpN hg]
        have e := build_again hs h hl he hp hg2
        rw [← e]
        have efun : (fun N' c => runA op S M k N' (kidA S.length N2 f (min (lvl S.length N f) (lvl S.length N g)) c) (kidA S.length N2 g (min (lvl S.length N f) (lvl S.length N g)) c)) =
            (fun N' c => runA op S M k N' (kidA S.length N f (min (lvl S.length N f) (lvl S.length N g)) c) (kidA S.length N g (min (lvl S.length N f) (lvl S.length N g)) c)) := by
          funext N' c
          rw [kid_pre hpN hf, kid_pre hpN hg]
        rw [efun]
end
end Go.Proofs.Ytmfdcaalbpikpaa
