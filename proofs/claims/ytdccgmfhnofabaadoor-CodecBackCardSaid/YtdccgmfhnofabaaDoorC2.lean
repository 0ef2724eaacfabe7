/- Numbers as bytes: the walks. -/
import Derived.Test.YtdccgmfhnofabaaDoorC1
import Derived.Test.YtdccgmfhnofabaaDoorP2
import Derived.Deep.OwnRows
import Derived.Laws.OwnMore
import Derived.ProofKit
namespace Go.Proofs.YtdccgmfhnofabaaDoor
open Go.RowKit
set_option linter.unusedVariables false
set_option linter.unusedSimpArgs false
theorem Tryd.info5 : (Tryd.prog.info? 5).map (fun i => (i.zero, i.size, i.bytes)) = some (some (.int .u8 0), 1, 1) := by kernel_rfl
theorem make_row' {P : Program} (w : World) {ops : Array Oper} {rest : List Oper} {o : Oper} {a : Act} {Q : Exit → Act → World → Prop}
    (hg : o.guard = none) (l c : Operand) (t : TypeId) (hop : o.op = Op.makeSlice t l c)
    (e : TypeId) (i : TypeInfo) (z : Value) (ht : P.underlying t = some (.slice e)) (hi : P.info? e = some i) (hz : i.zero = some z) (hsize : i.size = 1) (hz1 : z.cells = #[z])
    (kl kc : IntKind) (n : Nat) (x : Int) (hx : x = (n : Int)) (hl : a.eval l = .int kl x) (hc : a.eval c = .int kc x) (hbytes : i.bytes * n ≤ 281474976710656) (h63 : n ≤ 9223372036854775807)
    (hK : wpList P ops Q rest (a.put o.dst (.slice (some ⟨w.heap.size, 0, none⟩) n n)) (w.alloc (.cells (List.replicate n z).toArray e))) : wpList P ops Q (o :: rest) a w := by
  subst hx
  refine wpList_make_row w hg l c t hop e i z ht hi hz hsize hz1 kl kc n hl hc hbytes h63 ?_
  have e : madeCells #[z] n = (List.replicate n z).toArray := by
    refine Array.ext' ?_
    simp [toList_madeCells_one]
  rw [e]
  exact hK
theorem by_step (i size n : Nat) (h : i + 1 ≤ size) : (List.replicate (i + 1) (Value.int .u8 0) ++ (byL (size - (i + 1)) n).map byteV).set i (byteV (UInt8.ofNat (n / 256 ^ (size - (i + 1)) % 256))) = List.replicate i (Value.int .u8 0) ++ (byL (size - i) n).map byteV := by
  have e : size - i = (size - (i + 1)) + 1 := by omega
  rw [e, byL, List.map_cons, List.replicate_succ', List.append_assoc, List.set_append_right _ _ (by simp)]
  simp
theorem bytes_any (size n : Nat) (hs : size ≤ 8) (hn : n ≤ 9223372036854775807) (w : World) :
    Calls Tryd.prog 51 #[.int .i64 (size : Int), .int .i64 (n : Int)] w fun e w' => e = .returned (.string ⟨(byL size n).toArray⟩) ∧ Below w.heap.size w w' := by
  obtain ⟨i0, hi, hz0, hz1, hz2⟩ := info_parts Tryd.info5
  go_enter Tryd.func51, Tryd.ntmps51
  go_wp2_with (at_make; refine make_row' _ rfl (.tmp 7) (.tmp 7) 40 rfl 5 i0 (.int .u8 0) Tryd.underlying40 hi hz0 hz1 rfl .i64 .i64 size (size : Int) rfl rfl rfl (by rw [hz2]; omega) (by omega) ?_)
  go_loopw [1, 6] (fun x1 x6 wr => ∃ (i N : Nat) (y : Int), i ≤ size ∧ y = (i : Int) - 1 ∧ x6 = .int .i64 y ∧ x1 = .int .i64 (N : Int) ∧ N ≤ n ∧ Hid (N = n / 256 ^ (size - i)) ∧ Hid (Blk wr w.heap.size (List.replicate i (.int .u8 0) ++ (byL (size - i) n).map byteV) 5) ∧ Hid (Below w.heap.size w wr)) (fun _ x6 _ => (intOf x6 + 1).toNat)
  case atStart => exact ⟨size, n, _, Nat.le_refl _, rfl, rfl, rfl, Nat.le_refl _, Hid.mk_ (by simp), Hid.mk_ (by simp only [Nat.sub_self, byL, List.map_nil, List.append_nil]; exact Blk.new w _ 5), (Below.refl _ _).alloc (Nat.le_refl _) _⟩
  case round =>
    obtain ⟨i, N, y, hi8, hy, rfl, rfl, hN, HN, HB, HW⟩ := hrel
    cases i with
    | zero =>
      obtain rfl : y = -1 := by omega
      have hcv := run_convert_bytes_back (P := Tryd.prog) wr 40 9 5 ⟨w.heap.size, 0, none⟩ size (byL size n) Tryd.underlying40 Tryd.underlying5 Tryd.underlying9 (fun j hj => by
        have h := HB.out.cell j
        simp only [List.replicate_zero, List.nil_append, Nat.sub_zero] at h
        rw [Addr.add_lit, Nat.zero_add, h, List.getElem?_map, List.getElem?_eq_getElem hj]
        rfl)
      rw [byL_length] at hcv
      clear hy
      go_wp2_with fail
      go_ret
      exact ⟨rfl, HW.out⟩
    | succ i =>
      obtain rfl : y = (i : Int) := by omega
      have f0 := HB.out.free i
      have c0 := HB.out.cell i
      have hbl := HB.out.lt
      rw [List.getElem?_append_left (by simp)] at c0
      simp only [List.getElem?_replicate, if_pos (Nat.lt_succ_self i)] at c0
      have h1 : (i : Int) < size := by omega
      clear hy
      go_wp2_with fail
      go_roundw
      case rel => exact ⟨i, N / 256, (i : Int) - 1, by omega, rfl, by go_num, by go_num, by omega, Hid.mk_ (by rw [HN.out, Nat.div_div_eq_div_mul, show size - i = (size - (i + 1)) + 1 by omega, Nat.pow_succ]), Hid.mk_ (by rw [← by_step i size n (by omega), ← HN.out, byte_of]; exact HB.out.set i _), HW.out.setCell (Nat.le_refl _) _⟩
      case measure => simp [intOf]
theorem by_any (size n : Nat) (hs : size ≤ 8) (hn : n ≤ 9223372036854775807) (w : World) :
    Calls Tryd.prog 54 #[.int .i64 (size : Int), .int .i64 (n : Int)] w fun e w' => e = .returned (.string ⟨(byL size n).toArray⟩) ∧ Below w.heap.size w w' := by
  obtain ⟨i0, hi, hz0, hz1, hz2⟩ := info_parts Tryd.info5
  go_enter Tryd.func54, Tryd.ntmps54
  go_wp2_with (at_make; refine make_row' _ rfl (.tmp 7) (.tmp 7) 40 rfl 5 i0 (.int .u8 0) Tryd.underlying40 hi hz0 hz1 rfl .i64 .i64 size (size : Int) rfl rfl rfl (by rw [hz2]; omega) (by omega) ?_)
  go_loopw [1, 6] (fun x1 x6 wr => ∃ (i N : Nat) (y : Int), i ≤ size ∧ y = (i : Int) - 1 ∧ x6 = .int .i64 y ∧ x1 = .int .i64 (N : Int) ∧ N ≤ n ∧ Hid (N = n / 256 ^ (size - i)) ∧ Hid (Blk wr w.heap.size (List.replicate i (.int .u8 0) ++ (byL (size - i) n).map byteV) 5) ∧ Hid (Below w.heap.size w wr)) (fun _ x6 _ => (intOf x6 + 1).toNat)
  case atStart => exact ⟨size, n, _, Nat.le_refl _, rfl, rfl, rfl, Nat.le_refl _, Hid.mk_ (by simp), Hid.mk_ (by simp only [Nat.sub_self, byL, List.map_nil, List.append_nil]; exact Blk.new w _ 5), (Below.refl _ _).alloc (Nat.le_refl _) _⟩
  case round =>
    obtain ⟨i, N, y, hi8, hy, rfl, rfl, hN, HN, HB, HW⟩ := hrel
    cases i with
    | zero =>
      obtain rfl : y = -1 := by omega
      have hcv := run_convert_bytes_back (P := Tryd.prog) wr 40 9 5 ⟨w.heap.size, 0, none⟩ size (byL size n) Tryd.underlying40 Tryd.underlying5 Tryd.underlying9 (fun j hj => by
        have h := HB.out.cell j
        simp only [List.replicate_zero, List.nil_append, Nat.sub_zero] at h
        rw [Addr.add_lit, Nat.zero_add, h, List.getElem?_map, List.getElem?_eq_getElem hj]
        rfl)
      rw [byL_length] at hcv
      clear hy
      go_wp2_with fail
      go_ret
      exact ⟨rfl, HW.out⟩
    | succ i =>
      obtain rfl : y = (i : Int) := by omega
      have f0 := HB.out.free i
      have c0 := HB.out.cell i
      have hbl := HB.out.lt
      rw [List.getElem?_append_left (by simp)] at c0
      simp only [List.getElem?_replicate, if_pos (Nat.lt_succ_self i)] at c0
      have h1 : (i : Int) < size := by omega
      clear hy
      go_wp2_with fail
      go_roundw
      case rel => exact ⟨i, N / 256, (i : Int) - 1, by omega, rfl, by go_num, by go_num, by omega, Hid.mk_ (by rw [HN.out, Nat.div_div_eq_div_mul, show size - i = (size - (i + 1)) + 1 by omega, Nat.pow_succ]), Hid.mk_ (by rw [← by_step i size n (by omega), ← HN.out, byte_of]; exact HB.out.set i _), HW.out.setCell (Nat.le_refl _) _⟩
      case measure => simp [intOf]
end Go.Proofs.YtdccgmfhnofabaaDoor
