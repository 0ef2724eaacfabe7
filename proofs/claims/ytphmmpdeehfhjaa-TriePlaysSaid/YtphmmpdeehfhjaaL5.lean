/- The plain law of the trie: what is found after puts; the rows; the one trie of what is found. No program in sight. -/
import Derived.Test.YtphmmpdeehfhjaaL2
namespace Go.Proofs.Ytphmmpdeehfhjaa
set_option linter.unusedVariables false
set_option linter.unusedSimpArgs false
theorem div_is {n p k : Int} (hp : 0 < p) (h0 : k * p ≤ n) (h1 : n < (k + 1) * p) : n / p = k :=
  Int.le_antisymm (Int.lt_add_one_iff.1 (Int.ediv_lt_of_lt_mul hp h1)) (Int.le_ediv_of_mul_le hp h0)
theorem pw_pos (k : Nat) : (0 : Int) < 2 ^ k := Int.pow_pos (by decide)
theorem pw_split (a b : Nat) : (2 : Int) ^ (a + b) = 2 ^ a * 2 ^ b := Int.pow_add ..
theorem pw_div (n : Int) (a b : Nat) : n / 2 ^ (a + b) = n / 2 ^ a / 2 ^ b := by rw [pw_split, Int.ediv_ediv_of_nonneg (Int.le_of_lt (pw_pos a))]
/-- the next k bits are alike -/
def agree (n x : Int) : Nat → Nat → Prop
  | 0, _ => True
  | k + 1, d => Tr.bit n d = Tr.bit x d ∧ agree n x k (d + 1)
theorem find_join (n : Int) (l r : Tr) (d : Nat) : Tr.find n (Tr.join l r) d = if Tr.bit n d = 0 then Tr.find n l (d + 1) else Tr.find n r (d + 1) := by
  cases l <;> cases r <;> simp [Tr.join, Tr.find]
  rename_i a b
  by_cases h : a = b <;> simp [h, Tr.find]
theorem find_left {n : Int} {d : Nat} (t : Tr) (h : Tr.bit n d = 0) : Tr.find n t.left (d + 1) = Tr.find n t d := by cases t <;> simp [Tr.left, Tr.find, h]
theorem find_right {n : Int} {d : Nat} (t : Tr) (h : ¬ Tr.bit n d = 0) : Tr.find n t.right (d + 1) = Tr.find n t d := by cases t <;> simp [Tr.right, Tr.find, h]
theorem find_put (n x v : Int) : ∀ (k d : Nat) (t : Tr), (agree n x k d → Tr.find n (Tr.put x v k d t) d = v) ∧ (¬ agree n x k d → Tr.find n (Tr.put x v k d t) d = Tr.find n t d)
  | 0, d, t => ⟨fun _ => rfl, fun h => absurd trivial h⟩
  | k + 1, d, t => by
    have b1 := bit_01 n d
    have b2 := bit_01 x d
    simp only [agree, Tr.put]
    by_cases hx : Tr.bit x d = 0
    · rw [if_pos hx, find_join]
      by_cases hn : Tr.bit n d = 0
      · rw [if_pos hn]
        obtain ⟨i1, i2⟩ := find_put n x v k (d + 1) t.left
        exact ⟨fun h => i1 h.2, fun h => (i2 (fun h2 => h ⟨by omega, h2⟩)).trans (find_left t hn)⟩
      · rw [if_neg hn]
        exact ⟨fun h => by omega, fun _ => find_right t hn⟩
    · rw [if_neg hx, find_join]
      by_cases hn : Tr.bit n d = 0
      · rw [if_pos hn]
        exact ⟨fun h => by omega, fun _ => find_left t hn⟩
      · rw [if_neg hn]
        obtain ⟨i1, i2⟩ := find_put n x v k (d + 1) t.right
        exact ⟨fun h => i1 h.2, fun h => (i2 (fun h2 => h ⟨by omega, h2⟩)).trans (find_right t hn)⟩
theorem agree_iff (n x : Int) : ∀ (k d : Nat), d + k ≤ 32 → n / 2 ^ (32 - d) = x / 2 ^ (32 - d) → (agree n x k d ↔ n / 2 ^ (32 - d - k) = x / 2 ^ (32 - d - k))
  | 0, d, _, h => by simp [agree, h]
  | k + 1, d, hd, h => by
    have e1 : 32 - d = (31 - d) + 1 := by omega
    have e2 : 31 - d = (32 - d - (k + 1)) + k := by omega
    have e3 : 32 - (d + 1) = 31 - d := by omega
    rw [e1, pw_div, pw_div] at h
    simp only [Int.pow_succ, Int.pow_zero, Int.one_mul] at h
    have ih := agree_iff n x k (d + 1) (by omega)
    rw [e3] at ih
    have e4 : 31 - d - k = 32 - d - (k + 1) := by omega
    rw [e4] at ih
    have hn := pw_div n (32 - d - (k + 1)) k
    have hx := pw_div x (32 - d - (k + 1)) k
    rw [← e2] at hn hx
    simp only [agree, Tr.bit]
    constructor
    · rintro ⟨hb, ha⟩
      exact (ih (by omega)).1 ha
    · intro he
      rw [he] at hn
      have hs : n / 2 ^ (31 - d) = x / 2 ^ (31 - d) := by rw [hn, hx]
      exact ⟨by rw [hs], (ih hs).2 he⟩
theorem agree_row (r : Row) (n : Int) (h : rightB r.a r.b = true) (n0 : 0 ≤ n) (n1 : n ≤ 4294967295) : agree n r.a r.b.toNat 0 ↔ r.a ≤ n ∧ n ≤ r.hi := by
  have hh : 0 ≤ r.b ∧ r.b ≤ 32 ∧ 0 ≤ r.a ∧ r.a ≤ 4294967295 ∧ r.a % 2 ^ (32 - r.b).toNat = 0 := of_decide_eq_true h
  obtain ⟨b0, b1, a0, a1, am⟩ := hh
  have e : (32 - r.b).toNat = 32 - 0 - r.b.toNat := by omega
  rw [agree_iff n r.a r.b.toNat 0 (by omega) (by rw [Int.ediv_eq_zero_of_lt n0 (by simp; omega), Int.ediv_eq_zero_of_lt a0 (by simp; omega)])]
  unfold Row.hi
  rw [e] at am ⊢
  obtain ⟨p, hp⟩ : ∃ p : Int, p = 2 ^ (32 - 0 - r.b.toNat) := ⟨_, rfl⟩
  have pp : 0 < p := hp ▸ pw_pos _
  rw [← hp] at am ⊢
  have hd := Int.mul_ediv_add_emod r.a p
  have hd2 := Int.mul_ediv_add_emod n p
  have m1 := Int.emod_lt_of_pos n pp
  have m0 := Int.emod_nonneg n (show p ≠ 0 by omega)
  rw [am] at hd
  constructor
  · intro he
    rw [he] at hd2
    omega
  · rintro ⟨h1, h2⟩
    refine div_is pp ?_ ?_
    · rw [Int.mul_comm]; omega
    · rw [Int.add_mul, Int.mul_comm]; omega
def putRow (t : Tr) (r : Row) : Tr := Tr.put r.a r.l r.b.toNat 0 t
theorem find_row (t : Tr) (r : Row) (n : Int) (h : rightB r.a r.b = true) (n0 : 0 ≤ n) (n1 : n ≤ 4294967295) : Tr.find n (putRow t r) 0 = if r.a ≤ n ∧ n ≤ r.hi then r.l else Tr.find n t 0 := by
  obtain ⟨h1, h2⟩ := find_put n r.a r.l r.b.toNat 0 t
  have h3 := agree_row r n h n0 n1
  split
  · exact h1 (h3.2 ‹_›)
  · exact h2 (fun h => ‹¬ _› (h3.1 h))
theorem find_puts (n : Int) (n0 : 0 ≤ n) (n1 : n ≤ 4294967295) : ∀ (L : List Row) (t : Tr), (∀ r ∈ L, rightB r.a r.b = true) → Tr.find n (L.foldl putRow t) 0 = lastI L (Tr.find n t 0) n
  | [], t, _ => rfl
  | r :: L, t, h => by
    rw [List.foldl_cons, find_puts n n0 n1 L (putRow t r) (fun q hq => h q (List.mem_cons_of_mem _ hq)), find_row t r n (h r (List.mem_cons_self ..)) n0 n1]
    rfl
theorem ht_puts : ∀ (L : List Row) (t : Tr), (∀ r ∈ L, rightB r.a r.b = true) → t.ht ≤ 32 → (L.foldl putRow t).ht ≤ 32
  | [], t, _, h => h
  | r :: L, t, h, ht => ht_puts L _ (fun q hq => h q (List.mem_cons_of_mem _ hq)) (Tr.ht_put _ _ _ _ _ _ ht (by
      have hh : 0 ≤ r.b ∧ r.b ≤ 32 ∧ _ := of_decide_eq_true (h r (List.mem_cons_self ..))
      omega))
end Go.Proofs.Ytphmmpdeehfhjaa
