/- Numbers as bytes, plain. No program in sight. -/
import Derived.Test.YtdccgmfhnofabaaDoorP1
import Derived.RowKit
namespace Go.Proofs.YtdccgmfhnofabaaDoor
set_option linter.unusedVariables false
set_option linter.unusedSimpArgs false
def byteV (b : UInt8) : Value := .int .u8 (b.toNat : Int)
/-- the k lowest bytes of a number, the highest one first -/
def byL : Nat → Nat → List UInt8
  | 0, _ => []
  | k + 1, n => UInt8.ofNat (n / 256 ^ k % 256) :: byL k n
theorem byL_length (n : Nat) : ∀ k, (byL k n).length = k
  | 0 => rfl
  | k + 1 => by rw [byL, List.length_cons, byL_length n k]
def numL (l : List UInt8) : Nat := l.foldl (fun n c => n * 256 + c.toNat) 0
theorem fold_num (l : List UInt8) : ∀ a, l.foldl (fun n c => n * 256 + c.toNat) a = a * 256 ^ l.length + numL l := by
  unfold numL
  induction l with
  | nil => intro a; simp
  | cons c l ih =>
    intro a
    rw [List.foldl_cons, ih, List.foldl_cons, ih (0 * 256 + c.toNat), List.length_cons, Nat.pow_succ]
    rw [Nat.zero_mul, Nat.zero_add, Nat.add_mul, Nat.mul_assoc a 256, Nat.mul_comm 256, Nat.add_assoc]
theorem numL_cons (c : UInt8) (l : List UInt8) : numL (c :: l) = c.toNat * 256 ^ l.length + numL l := by
  have h := fold_num l (0 * 256 + c.toNat)
  rw [Nat.zero_mul, Nat.zero_add] at h
  rw [← h]
  show (c :: l).foldl (fun n c => n * 256 + c.toNat) 0 = _
  rw [List.foldl_cons, Nat.zero_mul, Nat.zero_add]
theorem numL_snoc (l : List UInt8) (c : UInt8) : numL (l ++ [c]) = numL l * 256 + c.toNat := by
  unfold numL; rw [List.foldl_append]; rfl
theorem numL_lt : ∀ l : List UInt8, numL l < 256 ^ l.length
  | [] => by simp [numL]
  | c :: l => by
    have h := numL_lt l
    have hc := c.toNat_lt
    rw [numL_cons, List.length_cons, Nat.pow_succ]
    have : c.toNat * 256 ^ l.length ≤ 255 * 256 ^ l.length := Nat.mul_le_mul_right _ (by omega)
    omega
theorem ofNat_toNat (x : Nat) (h : x < 256) : (UInt8.ofNat x).toNat = x := by rw [UInt8.toNat_ofNat']; omega
theorem numL_byL (n : Nat) : ∀ k, numL (byL k n) = n % 256 ^ k
  | 0 => by simp [byL, numL, Nat.mod_one]
  | k + 1 => by
    rw [byL, numL_cons, numL_byL n k, byL_length, ofNat_toNat _ (Nat.mod_lt _ (by omega)), Nat.pow_succ, Nat.mod_mul]
    rw [Nat.mul_comm, Nat.add_comm]
theorem numL_inj : ∀ {a b : List UInt8}, a.length = b.length → numL a = numL b → a = b
  | [], [], _, _ => rfl
  | [], _ :: _, h, _ => by simp at h
  | _ :: _, [], h, _ => by simp at h
  | c :: a, d :: b, hl, h => by
    have hl2 : a.length = b.length := by simpa using hl
    rw [numL_cons, numL_cons, hl2] at h
    have ha := numL_lt a
    have hb := numL_lt b
    rw [hl2] at ha
    have hp : 0 < 256 ^ b.length := Nat.pow_pos (by omega)
    have e1 : c.toNat = d.toNat := by
      have h1 : (c.toNat * 256 ^ b.length + numL a) / 256 ^ b.length = c.toNat := by
        rw [Nat.mul_comm, Nat.mul_add_div hp, Nat.div_eq_of_lt ha, Nat.add_zero]
      have h2 : (d.toNat * 256 ^ b.length + numL b) / 256 ^ b.length = d.toNat := by
        rw [Nat.mul_comm, Nat.mul_add_div hp, Nat.div_eq_of_lt hb, Nat.add_zero]
      rw [← h1, h, h2]
    have e2 : numL a = numL b := by rw [e1] at h; omega
    rw [UInt8.toNat_inj.1 e1, numL_inj hl2 e2]
/-- what is taken up is laid down as the same bytes -/
theorem byL_numL (l : List UInt8) : byL l.length (numL l) = l :=
  numL_inj (byL_length _ _) (by rw [numL_byL, Nat.mod_eq_of_lt (numL_lt l)])
def fitsB (size n : Int) : Bool := decide (1 ≤ size ∧ size ≤ 8 ∧ 0 ≤ n ∧ (size = 8 ∨ n < 256 ^ size.toNat))
theorem byte_of (n : Nat) : byteV (UInt8.ofNat (n % 256)) = .int .u8 ((n : Int) % 256) := by
  unfold byteV
  rw [ofNat_toNat _ (Nat.mod_lt _ (by omega))]
  congr 1
theorem numL_take_le (l : List UInt8) (k : Nat) : numL (l.take k) ≤ numL l := by
  have h : numL l = numL (l.take k) * 256 ^ (l.drop k).length + numL (l.drop k) := by
    conv => lhs; rw [← List.take_append_drop k l]
    unfold numL
    rw [List.foldl_append, fold_num]
    rfl
  have : 1 ≤ 256 ^ (l.drop k).length := Nat.pow_pos (by omega)
  have := Nat.mul_le_mul_left (numL (l.take k)) this
  omega
theorem or_byte {N : Nat} (c : UInt8) (h : N * 256 < 18446744073709551616) : bits .or .u64 ((N : Int) * 256) (c.toNat : Int) = ((N * 256 + c.toNat : Nat) : Int) := by
  have hc := c.toNat_lt
  rw [show ((N : Int) * 256) = ((N * 256 : Nat) : Int) by omega, u64_or_nat _ _ h (by omega)]
  congr 1
  have e := Nat.two_pow_add_eq_or_of_lt (i := 8) (b := c.toNat) (by omega) N
  rw [Nat.mul_comm N 256, ← e]
theorem numL_hi (l : List UInt8) (h8 : l.length = 8) (h : 0 < l.length) : 9223372036854775807 < numL l ↔ 127 < (l[0]'h).toNat := by
  cases l with
  | nil => simp at h
  | cons c l =>
    have hl : l.length = 7 := by simpa using h8
    have h1 := numL_lt l
    rw [numL_cons, hl]
    rw [hl] at h1
    show _ ↔ 127 < c.toNat
    omega
theorem numL_lo (l : List UInt8) (h8 : l.length < 8) : numL l ≤ 9223372036854775807 := by
  have h1 := numL_lt l
  have h2 : 256 ^ l.length ≤ 256 ^ 7 := Nat.pow_le_pow_right (by omega) (by omega)
  omega
theorem fits_at {size n P : Int} (h1 : 1 ≤ size) (h2 : size < 8) (h3 : 0 ≤ n) (e1 : (2 : Int) ^ (8 * size).toNat = P) (e2 : (256 : Int) ^ size.toNat = P) (hP : 0 < P) : (n / 2 ^ (8 * size).toNat == 0) = fitsB size n := by
  rw [e1]
  unfold fitsB
  rw [e2, Bool.eq_iff_iff, beq_iff_eq, decide_eq_true_iff]
  constructor
  · intro h
    have h4 := Int.mul_ediv_add_emod n P
    have h5 := Int.emod_lt_of_pos n hP
    rw [h, Int.mul_zero] at h4
    exact ⟨h1, by omega, h3, .inr (by omega)⟩
  · intro ⟨_, _, _, h⟩
    rcases h with h | h
    · omega
    · exact Int.ediv_eq_zero_of_lt h3 h
theorem fits_mid {size n : Int} (h1 : 1 ≤ size) (h2 : size < 8) (h3 : 0 ≤ n) : (n / 2 ^ (8 * size).toNat == 0) = fitsB size n := by
  rcases (by omega : size = 1 ∨ size = 2 ∨ size = 3 ∨ size = 4 ∨ size = 5 ∨ size = 6 ∨ size = 7) with rfl | rfl | rfl | rfl | rfl | rfl | rfl
  · exact fits_at (P := 256) h1 h2 h3 (by decide +kernel) (by decide +kernel) (by omega)
  · exact fits_at (P := 65536) h1 h2 h3 (by decide +kernel) (by decide +kernel) (by omega)
  · exact fits_at (P := 16777216) h1 h2 h3 (by decide +kernel) (by decide +kernel) (by omega)
  · exact fits_at (P := 4294967296) h1 h2 h3 (by decide +kernel) (by decide +kernel) (by omega)
  · exact fits_at (P := 1099511627776) h1 h2 h3 (by decide +kernel) (by decide +kernel) (by omega)
  · exact fits_at (P := 281474976710656) h1 h2 h3 (by decide +kernel) (by decide +kernel) (by omega)
  · exact fits_at (P := 72057594037927936) h1 h2 h3 (by decide +kernel) (by decide +kernel) (by omega)
theorem rfits_mid {size n : Int} (h1 : 1 ≤ size) (h2 : size < 8) (h3 : 0 ≤ n) : decide (n < 2 ^ (8 * size).toNat) = fitsB size n ∧ (2 : Int) ^ (8 * size).toNat ≤ 72057594037927936 ∧ 0 ≤ (2 : Int) ^ (8 * size).toNat := by
  have key : ∀ (P : Int), (2 : Int) ^ (8 * size).toNat = P → (256 : Int) ^ size.toNat = P → 0 < P → P ≤ 72057594037927936 → decide (n < 2 ^ (8 * size).toNat) = fitsB size n ∧ (2 : Int) ^ (8 * size).toNat ≤ 72057594037927936 ∧ 0 ≤ (2 : Int) ^ (8 * size).toNat := fun P e1 e2 hP hm => by
    rw [e1]
    refine ⟨?_, hm, by omega⟩
    unfold fitsB
    rw [e2, Bool.eq_iff_iff, decide_eq_true_iff, decide_eq_true_iff]
    exact ⟨fun h => ⟨h1, by omega, h3, .inr h⟩, fun ⟨_, _, _, h⟩ => by rcases h with h | h <;> omega⟩
  rcases (by omega : size = 1 ∨ size = 2 ∨ size = 3 ∨ size = 4 ∨ size = 5 ∨ size = 6 ∨ size = 7) with rfl | rfl | rfl | rfl | rfl | rfl | rfl
  · exact key 256 (by decide +kernel) (by decide +kernel) (by omega) (by omega)
  · exact key 65536 (by decide +kernel) (by decide +kernel) (by omega) (by omega)
  · exact key 16777216 (by decide +kernel) (by decide +kernel) (by omega) (by omega)
  · exact key 4294967296 (by decide +kernel) (by decide +kernel) (by omega) (by omega)
  · exact key 1099511627776 (by decide +kernel) (by decide +kernel) (by omega) (by omega)
  · exact key 281474976710656 (by decide +kernel) (by decide +kernel) (by omega) (by omega)
  · exact key 72057594037927936 (by decide +kernel) (by decide +kernel) (by omega) (by omega)
theorem fits_no {size n : Int} (h : ¬ (1 ≤ size ∧ size ≤ 8 ∧ 0 ≤ n)) : fitsB size n = false := decide_eq_false fun ⟨a, b, c, _⟩ => h ⟨a, b, c⟩
theorem fits_8 {n : Int} (h : 0 ≤ n) : fitsB 8 n = true := decide_eq_true ⟨by omega, by omega, h, .inl rfl⟩
theorem fits_nat {size n : Int} (h : fitsB size n = true) : 1 ≤ size ∧ size ≤ 8 ∧ 0 ≤ n := by
  obtain ⟨a, b, c, _⟩ := of_decide_eq_true h
  exact ⟨a, b, c⟩
end Go.Proofs.YtdccgmfhnofabaaDoor
