/- The plain law of the trie: its rows cover all addresses in order, each with its label; no two are halves of one. No program in sight. -/
import Derived.Test.YtphmmpdeehfhjaaL5
namespace Go.Proofs.Ytphmmpdeehfhjaa
open Tr
set_option linter.unusedVariables false
set_option linter.unusedSimpArgs false
/-- rows one behind the other, from a to before e -/
def Chain : Int → List Row → Int → Prop
  | a, [], e => a = e
  | a, r :: rs, e => r.a = a ∧ Chain (r.hi + 1) rs e
theorem Chain.append : ∀ {a b c : Int} {l m : List Row}, Chain a l b → Chain b m c → Chain a (l ++ m) c
  | _, _, _, [], _, h, h2 => by cases h; exact h2
  | _, _, _, r :: rs, _, ⟨h1, h⟩, h2 => ⟨h1, Chain.append h h2⟩
/-- a place of the whole: d bits are asked -/
structure Spot (a : Int) (d : Nat) : Prop where
  d32 : d ≤ 32
  a0 : 0 ≤ a
  a1 : a + 2 ^ (32 - d) ≤ 4294967296
  am : a % 2 ^ (32 - d) = 0
theorem Spot.root : Spot 0 0 := ⟨by omega, by omega, by decide, by decide⟩
theorem pw_half {d : Nat} (h : d ≤ 31) : (2 : Int) ^ (32 - d) = 2 * 2 ^ (31 - d) := by
  have e : 32 - d = (31 - d) + 1 := by omega
  rw [e, Int.pow_succ, Int.mul_comm]
theorem Spot.halves {a : Int} {d : Nat} (h : Spot a d) (hd : d ≤ 31) : Spot a (d + 1) ∧ Spot (a + 2 ^ (31 - d)) (d + 1) ∧ ∃ q : Int, a = q * (2 * 2 ^ (31 - d)) := by
  have e3 : 32 - (d + 1) = 31 - d := by omega
  have p0 := pw_pos (31 - d)
  obtain ⟨_, a0, a1, am⟩ := h
  rw [pw_half hd] at a1 am
  obtain ⟨q, hq⟩ := Int.dvd_of_emod_eq_zero am
  refine ⟨⟨by omega, a0, by rw [e3]; omega, ?_⟩, ⟨by omega, by omega, by rw [e3]; omega, ?_⟩, q, by rw [hq, Int.mul_comm]⟩
  · rw [e3]; exact Int.emod_eq_zero_of_dvd ⟨2 * q, by rw [hq, Int.mul_comm 2 (2 ^ (31 - d)), Int.mul_assoc]⟩
  · rw [e3]; exact Int.emod_eq_zero_of_dvd ⟨2 * q + 1, by rw [hq, Int.mul_comm 2 (2 ^ (31 - d)), Int.mul_assoc, Int.mul_add, Int.mul_one]⟩
theorem Spot.bit_l {a : Int} {d : Nat} (h : Spot a d) (hd : d ≤ 31) {n : Int} (h0 : a ≤ n) (h1 : n < a + 2 ^ (31 - d)) : bit n d = 0 := by
  obtain ⟨_, _, q, rfl⟩ := h.halves hd
  have : n / 2 ^ (31 - d) = 2 * q := div_is (pw_pos _) (by rw [Int.mul_comm 2 q, Int.mul_assoc]; exact h0) (by rw [Int.add_mul, Int.mul_comm 2 q, Int.mul_assoc, Int.one_mul]; exact h1)
  unfold bit
  omega
theorem Spot.bit_r {a : Int} {d : Nat} (h : Spot a d) (hd : d ≤ 31) {n : Int} (h0 : a + 2 ^ (31 - d) ≤ n) (h1 : n < a + 2 ^ (32 - d)) : bit n d = 1 := by
  obtain ⟨_, _, q, rfl⟩ := h.halves hd
  rw [pw_half hd] at h1
  have : n / 2 ^ (31 - d) = 2 * q + 1 := div_is (pw_pos _) (by rw [Int.add_mul, Int.mul_comm 2 q, Int.mul_assoc, Int.one_mul]; exact h0) (by rw [Int.add_mul, Int.add_mul, Int.mul_comm 2 q, Int.mul_assoc, Int.one_mul]; omega)
  unfold bit
  omega
/-- what each row of a spot is -/
def RowIn (t : Tr) (a : Int) (d : Nat) (r : Row) : Prop :=
  rightB r.a r.b = true ∧ a ≤ r.a ∧ r.hi < a + 2 ^ (32 - d) ∧ r.a ≤ r.hi ∧ (d : Int) ≤ r.b ∧ r.l ∈ t.labels ∧ (r.b = d → t = .leaf r.l) ∧ ∀ n, r.a ≤ n → n ≤ r.hi → find n t d = r.l
theorem all_rows : ∀ (t : Tr) (a : Int) (d : Nat), Spot a d → t.ht + d ≤ 32 → Chain a (t.all a d) (a + 2 ^ (32 - d)) ∧ ∀ r ∈ t.all a d, RowIn t a d r
  | .leaf v, a, d, h, ht => by
    have p0 := pw_pos (32 - d)
    have e : (32 - (d : Int)).toNat = 32 - d := by have := h.d32; omega
    have hi : (Row.mk a d v).hi = a + 2 ^ (32 - d) - 1 := by unfold Row.hi; simp only; rw [e]
    refine ⟨⟨rfl, ?_⟩, ?_⟩
    · show (Row.mk a d v).hi + 1 = _
      rw [hi]; omega
    · intro r hr
      simp only [all, List.mem_singleton] at hr
      subst hr
      unfold RowIn
      rw [hi]
      refine ⟨?_, Int.le_refl _, by omega, by show a ≤ _; omega, Int.le_refl _, by simp [labels], fun _ => rfl, fun n _ _ => rfl⟩
      unfold rightB
      rw [decide_eq_true_eq]
      simp only [e]
      exact ⟨by omega, by have := h.d32; omega, h.a0, by have := h.a1; omega, h.am⟩
  | .node l r, a, d, h, ht => by
    have hd : d ≤ 31 := by simp [Tr.ht] at ht; omega
    have hl : l.ht + (d + 1) ≤ 32 := by simp [Tr.ht] at ht; omega
    have hr : r.ht + (d + 1) ≤ 32 := by simp [Tr.ht] at ht; omega
    have p0 := pw_pos (31 - d)
    have e3 : 32 - (d + 1) = 31 - d := by omega
    have h2 := pw_half hd
    obtain ⟨s1, s2, _⟩ := h.halves hd
    obtain ⟨c1, i1⟩ := all_rows l a (d + 1) s1 hl
    obtain ⟨c2, i2⟩ := all_rows r (a + 2 ^ (31 - d)) (d + 1) s2 hr
    rw [e3] at c1 c2
    have ee : a + 2 ^ (31 - d) + 2 ^ (31 - d) = a + 2 ^ (32 - d) := by omega
    rw [ee] at c2
    refine ⟨c1.append c2, ?_⟩
    intro q hq
    simp only [all, List.mem_append] at hq
    rcases hq with hq | hq
    · obtain ⟨k0, k1, k2, k3, k4, k5, k6, k7⟩ := i1 q hq
      rw [e3] at k2
      refine ⟨k0, k1, by omega, k3, by omega, by simp [labels, k5], fun e => by omega, fun n n0 n1 => ?_⟩
      rw [find, if_pos (h.bit_l hd (by omega) (by omega))]
      exact k7 n n0 n1
    · obtain ⟨k0, k1, k2, k3, k4, k5, k6, k7⟩ := i2 q hq
      rw [e3] at k2
      refine ⟨k0, by omega, by omega, k3, by omega, by simp [labels, k5], fun e => by omega, fun n n0 n1 => ?_⟩
      rw [find, if_neg (by rw [h.bit_r hd (by omega) (by omega)]; decide)]
      exact k7 n n0 n1
/-- no node has two halves that are one label's -/
def Tr.canon : Tr → Prop
  | .leaf _ => True
  | .node l r => l.canon ∧ r.canon ∧ ∀ v, ¬ (l = .leaf v ∧ r = .leaf v)
end Go.Proofs.Ytphmmpdeehfhjaa
