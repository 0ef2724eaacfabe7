/- Numbers out of bytes; what fits: the walks. -/
import Derived.Test.YtdccgmfhnofabaaDoorC2
namespace Go.Proofs.YtdccgmfhnofabaaDoor
open Go.RowKit
set_option linter.unusedVariables false
set_option linter.unusedSimpArgs false
theorem number_any (s : ByteArray) (w : World) (hs : s.size ≤ 8) :
    Calls Tryd.prog 48 #[.string s] w fun e w' => e = .returned (.tuple #[.int .i64 (wrap64 (numL s.data.toList : Int)), .bool (decide (numL s.data.toList ≤ 9223372036854775807))]) ∧ w = w' := by
  go_enter Tryd.func48, Tryd.ntmps48
  go_wp2_with fail
  go_loop [4, 5, 8] (fun x4 x5 x8 => ∃ (k N : Nat), k ≤ s.size ∧ x8 = .int .i64 (k : Int) ∧ x4 = .int .u64 (N : Int) ∧ N < 18446744073709551616 ∧ Hid (N = numL (s.data.toList.take k))) (fun _ _ x8 => s.size - (intOf x8).toNat)
  case atStart => exact ⟨0, 0, Nat.zero_le _, rfl, rfl, by omega, Hid.mk_ rfl⟩
  case round =>
    obtain ⟨k, N, hk, rfl, rfl, hN, HN⟩ := hrel
    by_cases hlt : k < s.size
    · have hlt1 : (k : Int) < s.size := by omega
      have hnl := numL_lt (s.data.toList.take k)
      rw [← HN.out] at hnl
      have hp : 256 ^ (s.data.toList.take k).length ≤ 256 ^ 7 := Nat.pow_le_pow_right (by omega) (by rw [List.length_take]; omega)
      have hN7 : N < 72057594037927936 := by omega
      have hor := Hid.mk_ (or_byte s[k] (N := N) (by omega))
      have hc := (s[k]).toNat_lt
      clear hnl hp
      go_wp2_with fail
      refine ⟨⟨k + 1, N * 256 + s[k].toNat, by omega, by go_num, ?_, by omega, Hid.mk_ ?_⟩, by simp [intOf]; omega⟩
      · rw [hor.out]
      · rw [take_snoc8 s k hlt, numL_snoc, HN.out]
    · have hge : ¬ ((k : Int) < s.size) := by omega
      have e : N = numL s.data.toList := by
        rw [HN.out, List.take_of_length_le (by simp; omega)]
      have HE := Hid.mk_ e
      clear e
      go_wp2_with fail
      go_ret2
      refine ⟨?_, rfl⟩
      rw [← HE.out]
      have e2 : decide (N ≤ 9223372036854775807) = decide ((N : Int) ≤ 9223372036854775807) := by
        rw [Bool.eq_iff_iff, decide_eq_true_iff, decide_eq_true_iff]; omega
      rw [e2]
      rfl
def saidV (n : Nat) : Value := .tuple #[.int .i64 (if n ≤ 9223372036854775807 then (n : Int) else 0), .bool (decide (n ≤ 9223372036854775807))]
theorem said_any (s : ByteArray) (w : World) (hs : s.size ≤ 8) :
    Calls Tryd.prog 56 #[.string s] w fun e w' => e = .returned (saidV (numL s.data.toList)) ∧ w = w' := by
  obtain ⟨V, hV⟩ : ∃ V, V = numL s.data.toList := ⟨_, rfl⟩
  have HV := Hid.mk_ hV
  have hds : s.data.toList.length = s.size := by simp
  by_cases h8 : s.size = 8 ∧ 9223372036854775807 < V
  · obtain ⟨h8, hb⟩ := h8
    have h0 : 0 < s.size := by omega
    have t0 : ((s.size : Int) == 8) = true := by simp; omega
    have hb2 : 127 < (s[0]'h0).toNat := by
      rw [hV] at hb
      exact (numL_hi s.data.toList (by omega) (by omega)).1 hb
    have t1 : decide ((127 : Int) < ((s[0]'h0).toNat : Int)) = true := decide_eq_true (by omega)
    have HB := Hid.mk_ hb
    clear hV hds hb
    rw [← HV.out]
    go_enter Tryd.func56, Tryd.ntmps56
    go_wp2_with fail
    go_ret2
    refine ⟨?_, rfl⟩
    unfold saidV
    rw [if_neg (by have := HB.out; omega), decide_eq_false (show ¬ V ≤ 9223372036854775807 by have := HB.out; omega)]
    rfl
  · have hVm : V ≤ 9223372036854775807 := by
      by_cases h : s.size = 8
      · have : ¬ 9223372036854775807 < V := fun h2 => h8 ⟨h, h2⟩
        omega
      · rw [hV]; exact numL_lo _ (by omega)
    have t1 : s.size = 8 → ∀ h0 : 0 < s.size, decide ((127 : Int) < ((s[0]'h0).toNat : Int)) = false := fun h h0 => by
      refine decide_eq_false fun h2 => ?_
      have := (numL_hi s.data.toList (by omega) (by omega)).2 (by show 127 < (s[0]'h0).toNat; omega)
      omega
    have hle : ∀ k, numL (s.data.toList.take k) ≤ V := fun k => by rw [hV]; exact numL_take_le _ k
    have HLE := Hid.mk_ hle
    clear hV hds hle h8
    rw [← HV.out]
    by_cases h : s.size = 8
    · have h0 : 0 < s.size := by omega
      have t0 : ((s.size : Int) == 8) = true := by simp; omega
      have t2 := t1 h h0
      have HH := Hid.mk_ h
      clear t1 h
      go_enter Tryd.func56, Tryd.ntmps56
      go_wp2_with fail
      go_loop [4, 5] (fun x4 x5 => ∃ (k N : Nat), k ≤ s.size ∧ x5 = .int .i64 (k : Int) ∧ x4 = .int .i64 (N : Int) ∧ N ≤ 9223372036854775807 ∧ Hid (N = numL (s.data.toList.take k))) (fun _ x5 => s.size - (intOf x5).toNat)
      case atStart => exact ⟨0, 0, Nat.zero_le _, rfl, rfl, by omega, Hid.mk_ rfl⟩
      case round =>
        obtain ⟨k, N, hk, rfl, rfl, hN, HN⟩ := hrel
        by_cases hlt : k < s.size
        · have hlt1 : (k : Int) < s.size := by omega
          have hnx : numL (s.data.toList.take (k + 1)) = N * 256 + s[k].toNat := by rw [take_snoc8 s k hlt, numL_snoc, ← HN.out]
          have hl := HLE.out (k + 1)
          rw [hnx] at hl
          have HNX := Hid.mk_ hnx
          clear hnx
          have hb : 256 * (N : Int) + (s[k].toNat : Int) ≤ 9223372036854775807 := by omega
          have hc := (s[k]).toNat_lt
          go_wp2_with fail
          refine ⟨⟨k + 1, N * 256 + s[k].toNat, by omega, by go_num, by go_num, by omega, Hid.mk_ HNX.out.symm⟩, by simp [intOf]; omega⟩
        · have hge : ¬ ((k : Int) < s.size) := by omega
          have e : N = V := by
            rw [HN.out, List.take_of_length_le (by simp; omega), HV.out]
          have HE := Hid.mk_ e
          clear e
          go_wp2_with fail
          go_ret2
          refine ⟨?_, rfl⟩
          rw [← HE.out]
          unfold saidV
          rw [if_pos hN, decide_eq_true hN]
          rfl
    · have t0 : ((s.size : Int) == 8) = false := by simp; omega
      clear t1
      have HH := Hid.mk_ h
      clear h
      go_enter Tryd.func56, Tryd.ntmps56
      go_wp2_with fail
      go_loop [4, 5] (fun x4 x5 => ∃ (k N : Nat), k ≤ s.size ∧ x5 = .int .i64 (k : Int) ∧ x4 = .int .i64 (N : Int) ∧ N ≤ 9223372036854775807 ∧ Hid (N = numL (s.data.toList.take k))) (fun _ x5 => s.size - (intOf x5).toNat)
      case atStart => exact ⟨0, 0, Nat.zero_le _, rfl, rfl, by omega, Hid.mk_ rfl⟩
      case round =>
        obtain ⟨k, N, hk, rfl, rfl, hN, HN⟩ := hrel
        by_cases hlt : k < s.size
        · have hlt1 : (k : Int) < s.size := by omega
          have hnx : numL (s.data.toList.take (k + 1)) = N * 256 + s[k].toNat := by rw [take_snoc8 s k hlt, numL_snoc, ← HN.out]
          have hl := HLE.out (k + 1)
          rw [hnx] at hl
          have HNX := Hid.mk_ hnx
          clear hnx
          have hb : 256 * (N : Int) + (s[k].toNat : Int) ≤ 9223372036854775807 := by omega
          have hc := (s[k]).toNat_lt
          go_wp2_with fail
          refine ⟨⟨k + 1, N * 256 + s[k].toNat, by omega, by go_num, by go_num, by omega, Hid.mk_ HNX.out.symm⟩, by simp [intOf]; omega⟩
        · have hge : ¬ ((k : Int) < s.size) := by omega
          have e : N = V := by
            rw [HN.out, List.take_of_length_le (by simp; omega), HV.out]
          have HE := Hid.mk_ e
          clear e
          go_wp2_with fail
          go_ret2
          refine ⟨?_, rfl⟩
          rw [← HE.out]
          unfold saidV
          rw [if_pos hN, decide_eq_true hN]
          rfl
theorem fits_any (size n : Int) (w : World) (hs0 : -9223372036854775808 ≤ size) (hs : size ≤ 9223372036854775807) (hn0 : -9223372036854775808 ≤ n) (hn : n ≤ 9223372036854775807) :
    Calls Tryd.prog 49 #[.int .i64 size, .int .i64 n] w fun e w' => e = .returned (.bool (fitsB size n)) ∧ w = w' := by
  by_cases h1 : 1 ≤ size
  · by_cases h2 : size ≤ 8
    · by_cases h3 : 0 ≤ n
      · by_cases h8 : size = 8
        · subst h8
          have HF := Hid.mk_ (fits_8 h3)
          go_enter Tryd.func49, Tryd.ntmps49
          go_wp2_with fail
          go_ret
          exact ⟨by rw [HF.out]; rfl, rfl⟩
        · have HF := Hid.mk_ (fits_mid h1 (by omega) h3)
          have t8 : (size == 8) = false := by simpa using h8
          go_enter Tryd.func49, Tryd.ntmps49
          go_wp2_with fail
          go_ret
          exact ⟨by rw [← HF.out]; rfl, rfl⟩
      · have HF := Hid.mk_ (fits_no (size := size) (n := n) (fun ⟨_, _, h⟩ => h3 h))
        have t3 : decide (0 ≤ n) = false := decide_eq_false h3
        go_enter Tryd.func49, Tryd.ntmps49
        go_wp2_with fail
        go_ret
        exact ⟨by rw [HF.out]; rfl, rfl⟩
    · have HF := Hid.mk_ (fits_no (size := size) (n := n) (fun ⟨_, h, _⟩ => h2 h))
      have t2 : decide (size ≤ 8) = false := decide_eq_false h2
      go_enter Tryd.func49, Tryd.ntmps49
      go_wp2_with fail
      go_ret
      exact ⟨by rw [HF.out]; rfl, rfl⟩
  · have HF := Hid.mk_ (fits_no (size := size) (n := n) (fun ⟨h, _, _⟩ => h1 h))
    have t1 : decide (1 ≤ size) = false := decide_eq_false h1
    go_enter Tryd.func49, Tryd.ntmps49
    go_wp2_with fail
    go_ret
    exact ⟨by rw [HF.out]; rfl, rfl⟩
theorem rfits_any (size n : Int) (w : World) (hs0 : -9223372036854775808 ≤ size) (hs : size ≤ 9223372036854775807) (hn0 : -9223372036854775808 ≤ n) (hn : n ≤ 9223372036854775807) :
    Calls Tryd.prog 52 #[.int .i64 size, .int .i64 n] w fun e w' => e = .returned (.bool (fitsB size n)) ∧ w = w' := by
  by_cases h1 : 1 ≤ size
  · by_cases h2 : size ≤ 8
    · by_cases h3 : 0 ≤ n
      · by_cases h8 : size = 8
        · subst h8
          have HF := Hid.mk_ (fits_8 h3)
          go_enter Tryd.func52, Tryd.ntmps52
          go_wp2_with fail
          go_ret
          exact ⟨by rw [HF.out]; rfl, rfl⟩
        · obtain ⟨hf, hp, hq⟩ := rfits_mid h1 (by omega) h3
          have HF := Hid.mk_ hf
          have t8 : (size == 8) = false := by simpa using h8
          obtain ⟨P, hP⟩ : ∃ P, P = (2 : Int) ^ (8 * size).toNat := ⟨_, rfl⟩
          rw [← hP] at hp hq HF
          have hw : wrap64 ((2 : Int) ^ (8 * size).toNat) = P := by rw [← hP]; unfold wrap64; omega
          clear hf hP
          go_enter Tryd.func52, Tryd.ntmps52
          go_wp2_with fail
          go_ret
          exact ⟨by rw [← HF.out]; rfl, rfl⟩
      · have HF := Hid.mk_ (fits_no (size := size) (n := n) (fun ⟨_, _, h⟩ => h3 h))
        have t3 : decide (n < 0) = true := decide_eq_true (by omega)
        go_enter Tryd.func52, Tryd.ntmps52
        go_wp2_with fail
        go_ret
        exact ⟨by rw [HF.out]; rfl, rfl⟩
    · have HF := Hid.mk_ (fits_no (size := size) (n := n) (fun ⟨_, h, _⟩ => h2 h))
      have t2 : decide (8 < size) = true := decide_eq_true (by omega)
      go_enter Tryd.func52, Tryd.ntmps52
      go_wp2_with fail
      go_ret
      exact ⟨by rw [HF.out]; rfl, rfl⟩
  · have HF := Hid.mk_ (fits_no (size := size) (n := n) (fun ⟨h, _, _⟩ => h1 h))
    have t1 : decide (size < 1) = true := decide_eq_true (by omega)
    go_enter Tryd.func52, Tryd.ntmps52
    go_wp2_with fail
    go_ret
    exact ⟨by rw [HF.out]; rfl, rfl⟩
end Go.Proofs.YtdccgmfhnofabaaDoor
