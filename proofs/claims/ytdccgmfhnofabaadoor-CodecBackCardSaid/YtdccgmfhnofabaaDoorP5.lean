/- What is taken up is laid down as the same bytes. No program in sight. -/
import Derived.Test.YtdccgmfhnofabaaDoorP3
namespace Go.Proofs.YtdccgmfhnofabaaDoor
set_option linter.unusedVariables false
set_option linter.unusedSimpArgs false
structure Inv (S : List UInt8) (r : Rd) (W : Wr) : Prop where
  e : r.e = 0
  we : W.e = 0
  cat : W.l ++ r.s = S
  room : W.room = (r.s.length : Int)
theorem fits_num {l : List UInt8} (h1 : 1 ≤ l.length) (h8 : l.length ≤ 8) : fitsB (l.length : Int) (numL l : Int) = true := by
  unfold fitsB
  refine decide_eq_true ⟨by omega, by omega, by omega, .inr ?_⟩
  have h := Int.ofNat_lt.2 (numL_lt l)
  rw [Int.toNat_natCast]
  rw [Int.natCast_pow] at h
  exact h
theorem lay_ok {W : Wr} {t : List UInt8} (he : W.e = 0) (hr : (t.length : Int) ≤ W.room) : W.lay t 0 = ⟨W.room - t.length, W.l ++ t, 0⟩ := by
  unfold Wr.lay
  rw [if_neg (by simp [he]), if_neg (by simp), if_neg (by omega)]
theorem Inv.lay {S : List UInt8} {r : Rd} {W : Wr} (h : Inv S r W) {k : Nat} (hk : k ≤ r.s.length) : Inv S ⟨r.s.drop k, 0⟩ (W.lay (r.s.take k) 0) := by
  have hl : (r.s.take k).length = k := by rw [List.length_take]; omega
  rw [lay_ok h.we (by rw [hl, h.room]; omega)]
  refine ⟨rfl, rfl, ?_, ?_⟩
  · show (W.l ++ r.s.take k) ++ r.s.drop k = S
    rw [List.append_assoc, List.take_append_drop]; exact h.cat
  · show W.room - _ = _
    rw [hl, h.room, List.length_drop]; omega
theorem Inv.num {S : List UInt8} {r : Rd} {W : Wr} (h : Inv S r W) (size : Int) (he : (r.num size).2.e = 0) : Inv S (r.num size).2 (W.num size (r.num size).1) := by
  unfold Rd.num at he ⊢
  rw [if_neg (by simp [h.e])] at he ⊢
  by_cases h1 : size < 1 ∨ 8 < size
  · rw [if_pos h1] at he; simp at he
  · rw [if_neg h1] at he ⊢
    by_cases h2 : (r.s.length : Int) < size
    · rw [if_pos h2] at he; simp at he
    · rw [if_neg h2] at he ⊢
      by_cases h3 : 9223372036854775807 < numL (r.s.take size.toNat)
      · rw [if_pos h3] at he; simp at he
      · rw [if_neg h3] at he ⊢
        obtain ⟨k, rfl⟩ : ∃ k : Nat, size = k := ⟨size.toNat, by omega⟩
        rw [Int.toNat_natCast] at *
        have hl : (r.s.take k).length = k := by rw [List.length_take]; omega
        have hf := fits_num (l := r.s.take k) (by omega) (by omega)
        rw [hl] at hf
        show Inv S ⟨r.s.drop k, 0⟩ (W.num k (numL (r.s.take k) : Int))
        unfold Wr.num
        rw [if_pos hf, Int.toNat_natCast, Int.toNat_natCast]
        have hb := byL_numL (r.s.take k)
        rw [hl] at hb
        rw [hb]
        exact h.lay (by omega)
theorem Inv.raw {S : List UInt8} {r : Rd} {W : Wr} (h : Inv S r W) (n : Int) (he : (r.raw n).2.e = 0) : Inv S (r.raw n).2 (W.raw (r.raw n).1) := by
  unfold Rd.raw at he ⊢
  rw [if_neg (by simp [h.e])] at he ⊢
  by_cases h1 : n < 0
  · rw [if_pos h1] at he; simp at he
  · rw [if_neg h1] at he ⊢
    by_cases h2 : (r.s.length : Int) < n
    · rw [if_pos h2] at he; simp at he
    · rw [if_neg h2] at he ⊢
      exact h.lay (by omega)
theorem Inv.text {S : List UInt8} {r : Rd} {W : Wr} (h : Inv S r W) (most : Int) (he : (r.text most).2.e = 0) : Inv S (r.text most).2 (W.text (r.text most).1) := by
  unfold Rd.text at he ⊢
  rw [if_neg (by simp [h.e])] at he ⊢
  by_cases h1 : r.s.length < 2
  · rw [if_pos h1] at he; simp at he
  · rw [if_neg h1] at he ⊢
    by_cases h2 : most < (numL (r.s.take 2) : Int)
    · rw [if_pos h2] at he; simp at he
    · rw [if_neg h2] at he ⊢
      by_cases h3 : r.s.length - 2 < numL (r.s.take 2)
      · rw [if_pos h3] at he; simp at he
      · rw [if_neg h3] at he ⊢
        have hN := num2_lt r.s
        obtain ⟨N, hNe⟩ : ∃ N, N = numL (r.s.take 2) := ⟨_, rfl⟩
        rw [← hNe] at h3 hN ⊢
        have hl : ((r.s.drop 2).take N).length = N := by rw [List.length_take, List.length_drop]; omega
        have hl2 : (r.s.take 2).length = 2 := by rw [List.length_take]; omega
        show Inv S ⟨r.s.drop (2 + N), 0⟩ (W.text ((r.s.drop 2).take N))
        unfold Wr.text
        rw [if_neg (by omega), hl]
        have hb := byL_numL (r.s.take 2)
        rw [hl2, ← hNe] at hb
        rw [hb, ← List.take_add]
        exact h.lay (by omega)
def agR (r : Rd) (k size n : Int) : Rd := if k = 1 then (r.num size).2 else if k = 2 then (r.text n).2 else (r.raw n).2
def agW (W : Wr) (r : Rd) (k size n : Int) : Wr := if k = 1 then W.num size (r.num size).1 else if k = 2 then W.text (r.text n).1 else W.raw (r.raw n).1
theorem Inv.again {S : List UInt8} {r : Rd} {W : Wr} (h : Inv S r W) (k size n : Int) (he : (agR r k size n).e = 0) : Inv S (agR r k size n) (agW W r k size n) := by
  unfold agR at he ⊢
  unfold agW
  by_cases h1 : k = 1
  · simp only [if_pos h1] at he ⊢; exact h.num size he
  · by_cases h2 : k = 2
    · simp only [if_neg h1, if_pos h2] at he ⊢; exact h.text n he
    · simp only [if_neg h1, if_neg h2] at he ⊢; exact h.raw n he
theorem again_err {r : Rd} (h : r.e = 0) (k size n : Int) : (agR r k size n).e = 0 ∨ (agR r k size n).e = 10 ∨ (agR r k size n).e = 11 ∨ (agR r k size n).e = 12 := by
  unfold agR
  by_cases h1 : k = 1
  · rw [if_pos h1]
    unfold Rd.num
    rw [if_neg (by simp [h])]
    repeat' split
    all_goals simp
  · rw [if_neg h1]
    by_cases h2 : k = 2
    · rw [if_pos h2]
      unfold Rd.text
      rw [if_neg (by simp [h])]
      repeat' split
      all_goals simp
    · rw [if_neg h2]
      unfold Rd.raw
      rw [if_neg (by simp [h])]
      repeat' split
      all_goals simp
theorem num_val {r : Rd} {size : Int} : 0 ≤ (r.num size).1 ∧ (r.num size).1 ≤ 9223372036854775807 := by
  unfold Rd.num
  repeat' split
  all_goals (try simp)
  all_goals omega
theorem text_val {r : Rd} {n : Int} : (r.text n).1.length ≤ r.s.length := by
  unfold Rd.text
  repeat' split
  all_goals (try simp)
  all_goals omega
theorem raw_val {r : Rd} {n : Int} : (r.raw n).1.length ≤ r.s.length := by
  unfold Rd.raw
  repeat' split
  all_goals (try simp)
  all_goals omega
theorem Inv.len {S : List UInt8} {r : Rd} {W : Wr} (h : Inv S r W) : W.l.length + r.s.length = S.length := by rw [← h.cat, List.length_append]
theorem Inv.out {S : List UInt8} {r : Rd} {W : Wr} (h : Inv S r W) : W.l = S.take (S.length - r.s.length) := by
  have hl := h.len
  rw [← h.cat, List.length_append, Nat.add_sub_cancel, List.take_left]
end Go.Proofs.YtdccgmfhnofabaaDoor
