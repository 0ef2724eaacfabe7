/- Sum of both: their walks. -/
import Derived.Test.YtdccgmfhnofabaaDoorProg
import Derived.Test.YtdccgmfhnofabaaDoorM
import Derived.Test.YtdccgmfhnofabaaDoorP1
import Derived.WalkKit
import Derived.Deep.QuietTactic
import Derived.BigQuiet
import Derived.Outline
import Derived.Deep.DeepFit
import Derived.Deep.CutBlock
import Derived.Deep.RegionHeld3
import Derived.Deep.RegionLaw
namespace Go.Proofs.YtdccgmfhnofabaaDoor
open Go.RowKit
set_option linter.unusedVariables false
set_option linter.unusedSimpArgs false
theorem sum_any (s : ByteArray) (w : World) (hs : s.size ≤ 9223372036854775807) :
    Calls Tryd.prog 10 #[.string s] w fun e w' => e = .returned (.int .u32 (crc s.data.toList : Int)) ∧ w = w' := by
  go_enter Tryd.func10, Tryd.ntmps10
  go_wp2_with fail
  go_loop [3, 4, 5, 8, 17] (fun x3 x4 x5 x8 x17 => ∃ (k X : Nat), k ≤ s.size ∧ x8 = .int .i64 (k : Int) ∧ x3 = .int .u32 (X : Int) ∧ X < 4294967296 ∧ Hid (X = crcL 4294967295 (s.data.toList.take k))) (fun _ _ _ x8 _ => s.size - (intOf x8).toNat)
  case atStart => exact ⟨0, 4294967295, Nat.zero_le _, rfl, rfl, by omega, Hid.mk_ rfl⟩
  case round =>
    obtain ⟨k, X, hk, rfl, rfl, hX, HX⟩ := hrel
    by_cases hlt : k < s.size
    · have hlt1 : (k : Int) < s.size := by omega
      obtain ⟨c, hc⟩ : ∃ c, c = s[k] := ⟨_, rfl⟩
      have hx := xor_byte hX c
      rw [hc] at hx
      obtain ⟨Y, hY⟩ : ∃ Y, Y = X ^^^ c.toNat := ⟨_, rfl⟩
      rw [← hc, ← hY, hc] at hx
      have hYl : Y < 4294967296 := by rw [hY]; exact xor_lt hX (by have := c.toNat_lt; omega)
      have HY := Hid.mk_ hY
      have HC := Hid.mk_ hc
      clear hc hY
      go_wp2_with fail
      clear hx
      go_loop [3, 5, 17] (fun x3 x5 x17 => ∃ (j Z : Nat), j ≤ 8 ∧ x17 = .int .i64 (j : Int) ∧ x3 = .int .u32 (Z : Int) ∧ Z < 4294967296 ∧ Hid (Z = crcBits j Y)) (fun _ _ x17 => 8 - (intOf x17).toNat)
      case atStart => exact ⟨0, Y, Nat.zero_le _, rfl, rfl, hYl, Hid.mk_ rfl⟩
      case round =>
        obtain ⟨j, Z, hj, rfl, rfl, hZ, HZ⟩ := hrel
        by_cases hj8 : j < 8
        · have hj1 : (j : Int) < 8 := by omega
          have hnx : crcBit Z = crcBits (j + 1) Y := by rw [HZ.out]; rfl
          have HN := Hid.mk_ hnx
          clear hnx
          by_cases ho : Z % 2 = 1
          · have hb := bit_odd hZ ho
            have hp := xor_poly (x := Z / 2) (by omega)
            rw [← crcBit_odd ho, show ((Z / 2 : Nat) : Int) = (Z : Int) / 2 by omega] at hp
            have hl := crcBit_lt hZ
            obtain ⟨V, hV⟩ : ∃ V, V = crcBit Z := ⟨_, rfl⟩
            rw [← hV] at hp hl HN
            clear hV ho
            go_wp2_with fail
            go_round
            case rel => exact ⟨j + 1, V, by omega, by go_num, rfl, hl, HN⟩
            case measure => simp [intOf]; omega
          · have ho2 : Z % 2 = 0 := by omega
            have hb := bit_even hZ ho2
            rw [crcBit_even ho2] at HN
            clear ho ho2
            go_wp2_with fail
            go_round
            case rel => exact ⟨j + 1, Z / 2, by omega, by go_num, by go_num, by omega, HN⟩
            case measure => simp [intOf]; omega
        · have hj1 : ¬ ((j : Int) < 8) := by omega
          obtain rfl : j = 8 := by omega
          go_wp2_with fail
          go_round
          case rel => exact ⟨k + 1, Z, by omega, by go_num, rfl, hZ, Hid.mk_ (by rw [take_snoc8 s k hlt, crcL_snoc, ← HX.out, ← HC.out, HZ.out, HY.out]; rfl)⟩
          case measure => simp [intOf]; omega
    · have hge : ¬ ((k : Int) < s.size) := by omega
      have hx := xor_ones' hX
      rw [show (4294967295 : Int) = IntKind.u32.max by decide +kernel] at hx
      have e : X ^^^ 4294967295 = crc s.data.toList := by
        rw [HX.out, List.take_of_length_le (by simp; omega)]; rfl
      rw [e] at hx
      have HE := Hid.mk_ e
      clear e
      go_wp2_with fail
      go_ret
      exact ⟨rfl, rfl⟩
theorem rsum_any (s : ByteArray) (w : World) (hs : s.size ≤ 9223372036854775807) :
    Calls Tryd.prog 11 #[.string s] w fun e w' => e = .returned (.int .u32 (crc s.data.toList : Int)) ∧ w = w' := by
  go_enter Tryd.func11, Tryd.ntmps11
  go_wp2_with fail
  go_loop [3, 4, 5, 6] (fun x3 x4 x5 x6 => ∃ (k X : Nat), k ≤ s.size ∧ x4 = .int .i64 (k : Int) ∧ x3 = .int .u32 (X : Int) ∧ X < 4294967296 ∧ Hid (X = crcL 4294967295 (s.data.toList.take k))) (fun _ x4 _ _ => s.size - (intOf x4).toNat)
  case atStart => exact ⟨0, 4294967295, Nat.zero_le _, rfl, rfl, by omega, Hid.mk_ rfl⟩
  case round =>
    obtain ⟨k, X, hk, rfl, rfl, hX, HX⟩ := hrel
    by_cases hlt : k < s.size
    · have hlt1 : (k : Int) < s.size := by omega
      obtain ⟨c, hc⟩ : ∃ c, c = s[k] := ⟨_, rfl⟩
      have hx := xor_byte hX c
      rw [hc] at hx
      obtain ⟨Y, hY⟩ : ∃ Y, Y = X ^^^ c.toNat := ⟨_, rfl⟩
      rw [← hc, ← hY, hc] at hx
      have hYl : Y < 4294967296 := by rw [hY]; exact xor_lt hX (by have := c.toNat_lt; omega)
      have HY := Hid.mk_ hY
      have HC := Hid.mk_ hc
      clear hc hY
      go_wp2_with fail
      clear hx
      go_loop [3, 5, 6] (fun x3 x5 x6 => ∃ (j Z : Nat), j ≤ 8 ∧ x5 = .int .i64 (j : Int) ∧ x3 = .int .u32 (Z : Int) ∧ Z < 4294967296 ∧ Hid (Z = crcBits j Y)) (fun _ x5 _ => 8 - (intOf x5).toNat)
      case atStart => exact ⟨0, Y, Nat.zero_le _, rfl, rfl, hYl, Hid.mk_ rfl⟩
      case round =>
        obtain ⟨j, Z, hj, rfl, rfl, hZ, HZ⟩ := hrel
        by_cases hj8 : j < 8
        · have hj1 : (j : Int) < 8 := by omega
          have hnx : crcBit Z = crcBits (j + 1) Y := by rw [HZ.out]; rfl
          have HN := Hid.mk_ hnx
          clear hnx
          by_cases ho : Z % 2 = 1
          · have hb : (Z : Int) % 2 = 1 := by omega
            have hp := xor_poly (x := Z / 2) (by omega)
            rw [← crcBit_odd ho, show ((Z / 2 : Nat) : Int) = (Z : Int) / 2 by omega] at hp
            have hl := crcBit_lt hZ
            obtain ⟨V, hV⟩ : ∃ V, V = crcBit Z := ⟨_, rfl⟩
            rw [← hV] at hp hl HN
            clear hV ho
            go_wp2_with fail
            go_round
            case rel => exact ⟨j + 1, V, by omega, by go_num, rfl, hl, HN⟩
            case measure => simp [intOf]; omega
          · have ho2 : Z % 2 = 0 := by omega
            have hb : (Z : Int) % 2 = 0 := by omega
            rw [crcBit_even ho2] at HN
            clear ho ho2
            go_wp2_with fail
            go_round
            case rel => exact ⟨j + 1, Z / 2, by omega, by go_num, by go_num, by omega, HN⟩
            case measure => simp [intOf]; omega
        · have hj1 : ¬ ((j : Int) < 8) := by omega
          obtain rfl : j = 8 := by omega
          go_wp2_with fail
          go_round
          case rel => exact ⟨k + 1, Z, by omega, by go_num, rfl, hZ, Hid.mk_ (by rw [take_snoc8 s k hlt, crcL_snoc, ← HX.out, ← HC.out, HZ.out, HY.out]; rfl)⟩
          case measure => simp [intOf]; omega
    · have hge : ¬ ((k : Int) < s.size) := by omega
      have hx := xor_ones hX
      have e : X ^^^ 4294967295 = crc s.data.toList := by
        rw [HX.out, List.take_of_length_le (by simp; omega)]; rfl
      rw [e] at hx
      have HE := Hid.mk_ e
      clear e
      go_wp2_with fail
      go_ret
      exact ⟨rfl, rfl⟩
end Go.Proofs.YtdccgmfhnofabaaDoor
