/- Readers and writers as plain states. No program in sight. -/
import Derived.Test.YtdccgmfhnofabaaDoorP2
namespace Go.Proofs.YtdccgmfhnofabaaDoor
set_option linter.unusedVariables false
set_option linter.unusedSimpArgs false
abbrev str (l : List UInt8) : Value := .string ⟨l.toArray⟩
theorem extract_list (l : List UInt8) (a b : Nat) : (⟨l.toArray⟩ : ByteArray).extract a b = ⟨((l.take b).drop a).toArray⟩ := by
  apply ByteArray.ext
  apply Array.ext'
  simp [ByteArray.data_extract, List.extract_eq_take_drop, List.drop_take]
theorem extract_to (l : List UInt8) (b : Nat) : (⟨l.toArray⟩ : ByteArray).extract 0 b = ⟨(l.take b).toArray⟩ := by rw [extract_list, List.drop_zero]
theorem extract_from (l : List UInt8) (a : Nat) : (⟨l.toArray⟩ : ByteArray).extract a l.length = ⟨(l.drop a).toArray⟩ := by rw [extract_list, List.take_length]
structure Rd where
  s : List UInt8
  e : Int
def Rd.fail (r : Rd) (e : Int) : Rd := if r.e = 0 then ⟨r.s, e⟩ else r
def Rd.num (r : Rd) (size : Int) : Int × Rd :=
  if r.e ≠ 0 then (0, r)
  else if size < 1 ∨ 8 < size then (0, ⟨r.s, 10⟩)
  else if (r.s.length : Int) < size then (0, ⟨r.s, 12⟩)
  else if 9223372036854775807 < numL (r.s.take size.toNat) then (0, ⟨r.s, 10⟩)
  else ((numL (r.s.take size.toNat) : Int), ⟨r.s.drop size.toNat, 0⟩)
def Rd.raw (r : Rd) (n : Int) : List UInt8 × Rd :=
  if r.e ≠ 0 then ([], r)
  else if n < 0 then ([], ⟨r.s, 10⟩)
  else if (r.s.length : Int) < n then ([], ⟨r.s, 12⟩)
  else (r.s.take n.toNat, ⟨r.s.drop n.toNat, 0⟩)
def Rd.text (r : Rd) (most : Int) : List UInt8 × Rd :=
  if r.e ≠ 0 then ([], r)
  else if r.s.length < 2 then ([], ⟨r.s, 12⟩)
  else if most < (numL (r.s.take 2) : Int) then ([], ⟨r.s, 11⟩)
  else if r.s.length - 2 < numL (r.s.take 2) then ([], ⟨r.s, 12⟩)
  else ((r.s.drop 2).take (numL (r.s.take 2)), ⟨r.s.drop (2 + numL (r.s.take 2)), 0⟩)
def Rd.left (r : Rd) : Int := if r.e ≠ 0 then 0 else (r.s.length : Int)
def Rd.done (r : Rd) : Int := if r.e ≠ 0 then r.e else if r.s = [] then 0 else 13
theorem num2_lt (l : List UInt8) : numL (l.take 2) < 65536 := by
  have h := numL_lt (l.take 2)
  have h2 : 256 ^ (l.take 2).length ≤ 256 ^ 2 := Nat.pow_le_pow_right (by omega) (List.length_take_le _ _)
  omega
/-- room; what lies there; what is wrong -/
structure Wr where
  room : Int
  l : List UInt8
  e : Int
def Wr.lay (r : Wr) (s : List UInt8) (e : Int) : Wr :=
  if r.e ≠ 0 then r
  else if e ≠ 0 then ⟨r.room, r.l, e⟩
  else if r.room < (s.length : Int) then ⟨r.room, r.l, 11⟩
  else ⟨r.room - s.length, r.l ++ s, 0⟩
def Wr.num (r : Wr) (size n : Int) : Wr := if fitsB size n = true then r.lay (byL size.toNat n.toNat) 0 else r.lay [] 10
def Wr.text (r : Wr) (s : List UInt8) : Wr := if 65535 < s.length then r.lay [] 11 else r.lay (byL 2 s.length ++ s) 0
def Wr.raw (r : Wr) (s : List UInt8) : Wr := r.lay s 0
def Wr.done (r : Wr) : List UInt8 × Int := if r.e ≠ 0 then ([], r.e) else (r.l, 0)
end Go.Proofs.YtdccgmfhnofabaaDoor
