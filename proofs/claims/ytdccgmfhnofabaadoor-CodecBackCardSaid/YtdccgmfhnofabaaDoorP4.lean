/- The check tells a text from one in which bits are turned within 32. No program in sight. -/
import Derived.Test.YtdccgmfhnofabaaDoorP1
namespace Go.Proofs.YtdccgmfhnofabaaDoor
set_option linter.unusedVariables false
set_option linter.unusedSimpArgs false
theorem odd_xor (a b : Nat) : ((a ^^^ b) % 2 = 1) ↔ ¬ ((a % 2 = 1) ↔ (b % 2 = 1)) := by
  have h := Nat.testBit_xor a b 0
  simp only [Nat.testBit_zero] at h
  have h2 := congrArg (· = true) h
  simp only [decide_eq_true_eq] at h2
  by_cases ha : a % 2 = 1 <;> by_cases hb : b % 2 = 1 <;> simp [ha, hb] at h ⊢ <;> simp_all
theorem half_xor (a b : Nat) : (a ^^^ b) / 2 = a / 2 ^^^ b / 2 := by
  have h := Nat.shiftRight_xor_distrib (a := a) (b := b) (i := 1)
  simpa [Nat.shiftRight_eq_div_pow] using h
theorem crcBit_xor (a b : Nat) : crcBit (a ^^^ b) = crcBit a ^^^ crcBit b := by
  unfold crcBit
  rw [half_xor]
  have h := odd_xor a b
  by_cases ha : a % 2 = 1 <;> by_cases hb : b % 2 = 1
  · rw [if_neg (by rw [h]; simp [ha, hb]), if_pos ha, if_pos hb, Nat.xor_assoc, ← Nat.xor_assoc 3988292384, Nat.xor_comm 3988292384, Nat.xor_assoc (b / 2), Nat.xor_self, Nat.xor_zero]
  · rw [if_pos (by rw [h]; simp [ha, hb]), if_pos ha, if_neg hb, Nat.xor_assoc, Nat.xor_comm (b / 2), Nat.xor_assoc]
  · rw [if_pos (by rw [h]; simp [ha, hb]), if_neg ha, if_pos hb, Nat.xor_assoc]
  · rw [if_neg (by rw [h]; simp [ha, hb]), if_neg ha, if_neg hb]
theorem crcBits_xor (a b : Nat) : ∀ k, crcBits k (a ^^^ b) = crcBits k a ^^^ crcBits k b
  | 0 => rfl
  | k + 1 => by rw [crcBits, crcBits_xor a b k, crcBit_xor]; rfl
theorem crcBits_add (x m : Nat) : ∀ k, crcBits (k + m) x = crcBits k (crcBits m x)
  | 0 => by rw [Nat.zero_add]; rfl
  | k + 1 => by rw [Nat.add_right_comm, crcBits, crcBits_add x m k]; rfl
theorem crcBit_even2 (m : Nat) : crcBit (2 * m) = m := by
  unfold crcBit; rw [if_neg (by omega)]; omega
theorem crcBits_shift (m : Nat) : ∀ k, crcBits k (m * 2 ^ k) = m
  | 0 => by simp [crcBits]
  | k + 1 => by
    rw [crcBits_add (m * 2 ^ (k + 1)) 1 k, show crcBits 1 (m * 2 ^ (k + 1)) = m * 2 ^ k by
      show crcBit (m * 2 ^ (k + 1)) = _
      rw [Nat.pow_succ, ← Nat.mul_assoc, Nat.mul_comm _ 2]
      exact crcBit_even2 _, crcBits_shift m k]
def numE : List UInt8 → Nat
  | [] => 0
  | c :: l => 2 ^ 8 * numE l + c.toNat
theorem numE_bit : ∀ (l : List UInt8) (m : Nat), (numE l).testBit m = (if h : m / 8 < l.length then (l[m / 8]'h).toNat.testBit (m % 8) else false)
  | [], m => by simp [numE]
  | c :: l, m => by
    rw [numE, Nat.testBit_two_pow_mul_add _ (by have := c.toNat_lt; omega)]
    by_cases h : m < 8
    · rw [if_pos h]
      have e0 : m / 8 = 0 := by omega
      have e1 : m % 8 = m := by omega
      rw [dif_pos (by rw [e0]; simp)]
      simp only [e0, e1, List.getElem_cons_zero]
    · rw [if_neg h, numE_bit l (m - 8)]
      have e0 : m / 8 = (m - 8) / 8 + 1 := by omega
      have e1 : (m - 8) % 8 = m % 8 := by omega
      by_cases h2 : (m - 8) / 8 < l.length
      · rw [dif_pos h2, dif_pos (by rw [e0]; simpa using h2)]
        simp only [e0, e1, List.getElem_cons_succ]
      · rw [dif_neg h2, dif_neg (by rw [e0]; simpa using h2)]
theorem add_xor_low (m : Nat) (c : UInt8) : 2 ^ 8 * m + c.toNat = c.toNat ^^^ m * 2 ^ 8 := by
  apply Nat.eq_of_testBit_eq
  intro i
  rw [Nat.testBit_two_pow_mul_add _ (by have := c.toNat_lt; omega), Nat.testBit_xor, Nat.testBit_mul_two_pow]
  by_cases h : i < 8
  · rw [if_pos h]
    have : decide (8 ≤ i) = false := decide_eq_false (by omega)
    simp [this]
  · rw [if_neg h]
    have h1 : c.toNat.testBit i = false := Nat.testBit_lt_two_pow (Nat.lt_of_lt_of_le c.toNat_lt (Nat.pow_le_pow_right (by omega) (by omega)))
    have h2 : decide (8 ≤ i) = true := decide_eq_true (by omega)
    simp [h1, h2]
/-- the whole text as one number -/
theorem crcL_num : ∀ (l : List UInt8) (x : Nat), crcL x l = crcBits (8 * l.length) (x ^^^ numE l)
  | [], x => by simp [crcL, crcBits, numE]
  | c :: l, x => by
    show crcL (crcByte x c) l = _
    rw [crcL_num l, List.length_cons, show 8 * (l.length + 1) = 8 * l.length + 8 by omega, crcBits_add, numE, add_xor_low, ← Nat.xor_assoc, crcBits_xor _ _ 8, crcBits_shift]
    rfl
theorem crcBit_pos {x : Nat} (h : x < 4294967296) (h0 : x ≠ 0) : crcBit x ≠ 0 := by
  unfold crcBit
  split
  · intro e
    have h1 : (x / 2 ^^^ 3988292384).testBit 31 = true := by
      rw [Nat.testBit_xor, Nat.testBit_lt_two_pow (show x / 2 < 2 ^ 31 by omega)]
      decide +kernel
    rw [e] at h1
    simp at h1
  · omega
theorem crcBits_pos {x : Nat} (h : x < 4294967296) (h0 : x ≠ 0) : ∀ k, crcBits k x ≠ 0
  | 0 => h0
  | k + 1 => crcBit_pos (crcBits_lt h k) (crcBits_pos h h0 k)
theorem crc_turned {l m : List UInt8} {k t : Nat} (hl : l.length = m.length) (hk : k ≤ 8 * l.length) (ht : t < 4294967296) (ht0 : t ≠ 0) (hx : numE m = numE l ^^^ t * 2 ^ k) : crc m ≠ crc l := by
  intro e
  unfold crc at e
  have e2 : crcL 4294967295 m = crcL 4294967295 l := by
    have := congrArg (· ^^^ 4294967295) e
    simpa [Nat.xor_assoc] using this
  rw [crcL_num, crcL_num, hx, ← hl, ← Nat.xor_assoc, crcBits_xor _ (t * 2 ^ k)] at e2
  have e3 : crcBits (8 * l.length) (t * 2 ^ k) = 0 := by
    have := congrArg (crcBits (8 * l.length) (4294967295 ^^^ numE l) ^^^ ·) e2
    simpa [← Nat.xor_assoc] using this
  rw [show 8 * l.length = (8 * l.length - k) + k by omega, crcBits_add, crcBits_shift] at e3
  exact crcBits_pos ht ht0 _ e3
/-- one bit turned -/
theorem numE_set {l : List UInt8} {j r : Nat} (hj : j < l.length) (hr : r < 8) (c : UInt8) (hc : c.toNat = (l[j]'hj).toNat ^^^ 2 ^ r) : numE (l.set j c) = numE l ^^^ 2 ^ (8 * j + r) := by
  apply Nat.eq_of_testBit_eq
  intro i
  rw [Nat.testBit_xor, numE_bit, numE_bit, Nat.testBit_two_pow]
  by_cases h : i / 8 < l.length
  · rw [dif_pos (by simpa using h), dif_pos h, List.getElem_set]
    by_cases hji : j = i / 8
    · rw [if_pos hji, hc, Nat.testBit_xor, Nat.testBit_two_pow]
      simp only [hji]
      congr 1
      rw [Bool.eq_iff_iff, decide_eq_true_iff, decide_eq_true_iff]
      omega
    · rw [if_neg hji]
      have : decide (8 * j + r = i) = false := decide_eq_false (by omega)
      simp [this]
  · rw [dif_neg (by simpa using h), dif_neg h]
    have : decide (8 * j + r = i) = false := decide_eq_false (by omega)
    simp [this]
theorem turn_step (t k i : Nat) : (t % 2 ^ (i + 1)) * 2 ^ k = (t % 2 ^ i) * 2 ^ k ^^^ (if t / 2 ^ i % 2 = 1 then 2 ^ (k + i) else 0) := by
  apply Nat.eq_of_testBit_eq
  intro j
  rw [Nat.testBit_xor, Nat.testBit_mul_two_pow, Nat.testBit_mul_two_pow, Nat.testBit_mod_two_pow, Nat.testBit_mod_two_pow]
  have hb : t.testBit i = decide (t / 2 ^ i % 2 = 1) := by rw [Nat.testBit_eq_decide_div_mod_eq]
  by_cases hk : k ≤ j
  · by_cases h : j - k = i
    · have e : j = k + i := by omega
      subst e
      have e2 : k + i - k = i := by omega
      rw [e2, hb]
      by_cases hc : t / 2 ^ i % 2 = 1
      · rw [if_pos hc, Nat.testBit_two_pow]; simp [hc]
      · rw [if_neg hc]; simp [hc]
    · have e1 : (if t / 2 ^ i % 2 = 1 then 2 ^ (k + i) else 0).testBit j = false := by
        split
        · rw [Nat.testBit_two_pow]; exact decide_eq_false (by omega)
        · simp
      rw [e1]
      have e2 : decide (j - k < i + 1) = decide (j - k < i) := by rw [Bool.eq_iff_iff, decide_eq_true_iff, decide_eq_true_iff]; omega
      simp [e2]
  · have e1 : (if t / 2 ^ i % 2 = 1 then 2 ^ (k + i) else 0).testBit j = false := by
      split
      · rw [Nat.testBit_two_pow]; exact decide_eq_false (by omega)
      · simp
    simp [hk, e1]
end Go.Proofs.YtdccgmfhnofabaaDoor
