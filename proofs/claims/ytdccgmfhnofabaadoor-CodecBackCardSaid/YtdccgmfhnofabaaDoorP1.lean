/- The check of bytes as a plain function. No program in sight. -/
import Derived.Laws.BitsAllLaws
namespace Go.Proofs.YtdccgmfhnofabaaDoor
set_option linter.unusedVariables false
set_option linter.unusedSimpArgs false
def crcBit (x : Nat) : Nat := if x % 2 = 1 then (x / 2) ^^^ 3988292384 else x / 2
def crcBits : Nat → Nat → Nat
  | 0, x => x
  | k + 1, x => crcBit (crcBits k x)
def crcByte (x : Nat) (c : UInt8) : Nat := crcBits 8 (x ^^^ c.toNat)
def crcL (x : Nat) (l : List UInt8) : Nat := l.foldl crcByte x
def crc (l : List UInt8) : Nat := crcL 4294967295 l ^^^ 4294967295
theorem xor_lt {a b : Nat} (ha : a < 4294967296) (hb : b < 4294967296) : a ^^^ b < 4294967296 := Nat.xor_lt_two_pow (n := 32) ha hb
theorem crcBit_lt {x : Nat} (h : x < 4294967296) : crcBit x < 4294967296 := by
  unfold crcBit
  split
  · exact xor_lt (by omega) (by omega)
  · omega
theorem crcBits_lt {x : Nat} (h : x < 4294967296) : ∀ k, crcBits k x < 4294967296
  | 0 => h
  | k + 1 => crcBit_lt (crcBits_lt h k)
theorem crcByte_lt {x : Nat} (h : x < 4294967296) (c : UInt8) : crcByte x c < 4294967296 := crcBits_lt (xor_lt h (by have := c.toNat_lt; omega)) 8
theorem crcL_lt {l : List UInt8} : ∀ {x : Nat}, x < 4294967296 → crcL x l < 4294967296 := by
  induction l with
  | nil => exact fun h => h
  | cons c l ih => exact fun h => ih (crcByte_lt h c)
theorem crc_lt (l : List UInt8) : crc l < 4294967296 := xor_lt (crcL_lt (by omega)) (by omega)
theorem crcL_snoc (x : Nat) (l : List UInt8) (c : UInt8) : crcL x (l ++ [c]) = crcByte (crcL x l) c := by unfold crcL; rw [List.foldl_append]; rfl
theorem crcL_append (x : Nat) (l m : List UInt8) : crcL x (l ++ m) = crcL (crcL x l) m := by unfold crcL; rw [List.foldl_append]
theorem bit_odd {x : Nat} (h : x < 4294967296) (ho : x % 2 = 1) : bits .and .u32 (x : Int) 1 = 1 := by
  have := u32_and_nat x 1 h (by omega)
  rw [show ((1 : Nat) : Int) = 1 from rfl] at this
  rw [this, Nat.and_one_is_mod, ho]; rfl
theorem bit_even {x : Nat} (h : x < 4294967296) (ho : x % 2 = 0) : bits .and .u32 (x : Int) 1 = 0 := by
  have := u32_and_nat x 1 h (by omega)
  rw [show ((1 : Nat) : Int) = 1 from rfl] at this
  rw [this, Nat.and_one_is_mod, ho]; rfl
theorem xor_byte {x : Nat} (h : x < 4294967296) (c : UInt8) : bits .xor .u32 (x : Int) ((c.toNat : Int) % 4294967296) = ((x ^^^ c.toNat : Nat) : Int) := by
  have hc := c.toNat_lt
  rw [show ((c.toNat : Int) % 4294967296) = (c.toNat : Int) by omega]
  exact u32_xor_nat x c.toNat h (by omega)
theorem xor_poly {x : Nat} (h : x < 4294967296) : bits .xor .u32 (x : Int) 3988292384 = ((x ^^^ 3988292384 : Nat) : Int) := u32_xor_nat x 3988292384 h (by omega)
theorem xor_ones {x : Nat} (h : x < 4294967296) : bits .xor .u32 (x : Int) 4294967295 = ((x ^^^ 4294967295 : Nat) : Int) := u32_xor_nat x 4294967295 h (by omega)
theorem xor_ones' {x : Nat} (h : x < 4294967296) : bits .xor .u32 4294967295 (x : Int) = ((x ^^^ 4294967295 : Nat) : Int) := by
  rw [Nat.xor_comm]; exact u32_xor_nat 4294967295 x (by omega) h
theorem crcBit_odd {x : Nat} (h : x % 2 = 1) : crcBit x = (x / 2) ^^^ 3988292384 := if_pos h
theorem crcBit_even {x : Nat} (h : x % 2 = 0) : crcBit x = x / 2 := if_neg (by omega)
theorem take_snoc8 (s : ByteArray) (k : Nat) (h : k < s.size) : s.data.toList.take (k + 1) = s.data.toList.take k ++ [s[k]] := by
  rw [List.take_succ_eq_append_getElem (by simpa using h)]; rfl
end Go.Proofs.YtdccgmfhnofabaaDoor
