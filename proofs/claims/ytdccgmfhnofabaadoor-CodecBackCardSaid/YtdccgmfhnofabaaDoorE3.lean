/- CodecTurned: its walk. -/
import Derived.Test.YtdccgmfhnofabaaDoorE2
import Derived.Test.YtdccgmfhnofabaaDoorP4
namespace Go.Proofs.YtdccgmfhnofabaaDoor
open Go.RowKit
set_option linter.unusedVariables false
set_option linter.unusedSimpArgs false
def pickI (c n : Int) : Int := (if c < 0 then -(c + 1) else c) % n
theorem pickI_range (c n : Int) (h : 0 < n) : 0 ≤ pickI c n ∧ pickI c n < n := ⟨Int.emod_nonneg _ (by omega), Int.emod_lt_of_pos _ h⟩
theorem pick_any (c n : Int) (hn : 0 < n) (h0 : -9223372036854775808 ≤ c) (h1 : c ≤ 9223372036854775807) (w : World) :
    Calls Tryd.prog 15 #[.int .i64 c, .int .i64 n] w fun e w' => e = .returned (.int .i64 (pickI c n)) ∧ w = w' := by
  have hz : ¬ n = 0 := by omega
  by_cases h : c < 0
  · have e : pickI c n = (-(c + 1)).tmod n := by unfold pickI; rw [if_pos h, Int.tmod_eq_emod_of_nonneg (by omega)]
    have m0 : 0 ≤ -(c + 1) := by omega
    go_enter Tryd.func15, Tryd.ntmps15
    go_wp2_with fail
    go_ret
    exact ⟨by rw [e, Int.neg_tmod]; rfl, rfl⟩
  · have m0 : 0 ≤ c := by omega
    go_enter Tryd.func15, Tryd.ntmps15
    go_wp2_with fail
    go_ret
    exact ⟨by unfold pickI; rw [if_neg (by omega)]; rfl, rfl⟩
theorem pick_at {c n p : Int} (hp : p = pickI c n) (hn : 0 < n) (h : i64 c) (w : World) : Calls Tryd.prog 15 #[.int .i64 c, .int .i64 n] w fun e w' => e = .returned (.int .i64 p) ∧ w = w' := hp ▸ pick_any c n hn h.1 h.2 w
/-- a row of bytes of one's own; what is frozen lies behind it -/
def BRow (w : World) (g : Nat) (l : List UInt8) : Prop := ∃ (cur : Array Value) (fz : Nat × Nat), w.heap[g]? = some (.cells cur 5 fz) ∧ l.length ≤ fz.1 ∧ cur.toList.take l.length = l.map byteV
section
variable {w w' : World} {g : Nat} {l : List UInt8}
theorem BRow.lt (h : BRow w g l) : g < w.heap.size := by obtain ⟨cur, fz, h1, _⟩ := h; exact (Array.getElem?_eq_some_iff.1 h1).1
theorem BRow.move (h : BRow w g l) (hm : w'.heap[g]? = w.heap[g]?) : BRow w' g l := by obtain ⟨cur, fz, h1, h2⟩ := h; exact ⟨cur, fz, hm.trans h1, h2⟩
theorem BRow.cell (h : BRow w g l) (j : Nat) (hj : j < l.length) : w.cell? ⟨g, j, none⟩ = some (.int .u8 ((l[j]'hj).toNat : Int)) := by
  obtain ⟨cur, fz, h1, _, h2⟩ := h
  have e : cur[j]? = some (byteV (l[j]'hj)) := by
    have h3 := congrArg (·[j]?) h2
    simp only [List.getElem?_take, if_pos hj, List.getElem?_map, List.getElem?_eq_getElem hj] at h3
    simpa using h3
  simp [World.cell?, h1, e, byteV]
theorem BRow.free (h : BRow w g l) (j : Nat) (hj : j < l.length) : w.frozen? ⟨g, j, none⟩ = false := by
  obtain ⟨cur, ⟨lo, hi⟩, h1, h2, _⟩ := h
  simp only [World.frozen?, h1, Bool.and_eq_false_iff, decide_eq_false_iff_not]
  left
  simp only at h2
  omega
theorem BRow.set (h : BRow w g l) (j : Nat) (hj : j < l.length) (c : UInt8) : BRow (w.setCell ⟨g, j, none⟩ (.int .u8 (c.toNat : Int))) g (l.set j c) := by
  obtain ⟨cur, fz, h1, h2, h3⟩ := h
  refine ⟨cur.setIfInBounds j (byteV c), fz, ?_, by simpa using h2, ?_⟩
  · simp only [World.setCell, Array.getElem?_modify, if_pos, h1, Option.map_some]
    rfl
  · rw [List.length_set, Array.toList_setIfInBounds, List.map_set, ← h3, List.take_set]
theorem BRow.of_string (w : World) (s : ByteArray) (cap : Nat) : BRow (w.drew.alloc (.cells (bytesRow s cap) 5 ((bytesRow s cap).size, (bytesRow s cap).size + 1))) w.heap.size s.data.toList := by
  refine ⟨bytesRow s cap, ((bytesRow s cap).size, (bytesRow s cap).size + 1), heap_alloc_new w.drew _, by simp [bytesRow], ?_⟩
  unfold bytesRow
  rw [Array.toList_append, List.take_append_of_le_length (by simp), List.take_of_length_le (by simp), Array.toList_map]
  rfl
end
theorem and1_i64 (n : Int) : bits .and .i64 n 1 = n % 2 := by
  have h1 : (BitVec.ofInt 64 1).toNat = 2 ^ 1 - 1 := by decide
  have key : (BitVec.ofInt 64 n &&& BitVec.ofInt 64 1).toNat = (n % ((2 ^ 64 : Nat) : Int)).toNat % 2 ^ 1 := by
    rw [BitVec.toNat_and, BitVec.toNat_ofInt, h1, Nat.and_two_pow_sub_one_eq_mod]
  show IntKind.i64.wrap ((BitVec.ofInt 64 n &&& BitVec.ofInt 64 1).toNat : Nat) = n % 2
  rw [key, IntKind.wrap_i64]
  omega
theorem bit_at (T i : Nat) : bits .and .i64 ((1 + (T : Int)) / 2 ^ i) 1 = (((1 + T) / 2 ^ i % 2 : Nat) : Int) := by
  rw [and1_i64, show (1 + (T : Int)) / 2 ^ i = (((1 + T) / 2 ^ i : Nat) : Int) by
    rw [Int.natCast_ediv, Int.natCast_pow]; rfl]
  rfl
theorem xor_bit (c : UInt8) (R : Nat) (h : R < 8) : ∃ c2 : UInt8, bits .xor .u8 (c.toNat : Int) (2 ^ R % 256) = (c2.toNat : Int) ∧ c2.toNat = c.toNat ^^^ 2 ^ R := by
  have hp : 2 ^ R ≤ 2 ^ 7 := Nat.pow_le_pow_right (by omega) (by omega)
  have hc := c.toNat_lt
  have hx : c.toNat ^^^ 2 ^ R < 256 := Nat.xor_lt_two_pow (n := 8) (by omega) (by omega)
  refine ⟨UInt8.ofNat (c.toNat ^^^ 2 ^ R), ?_, ofNat_toNat _ hx⟩
  rw [ofNat_toNat _ hx, show (2 : Int) ^ R % 256 = ((2 ^ R : Nat) : Int) by
    rw [show (2 : Int) ^ R = ((2 ^ R : Nat) : Int) by rw [Int.natCast_pow]; rfl]
    exact (show ∀ P : Nat, P ≤ 2 ^ 7 → (P : Int) % 256 = (P : Int) from fun P hP => by omega) _ hp]
  exact u8_xor_nat _ _ hc (by omega)
set_option maxRecDepth 100000 in
set_option maxHeartbeats 4000000 in
theorem turned_any (s : ByteArray) (at_ pat : Int) {w : World} (hs : s.size ≤ 9223372036854775807) (h1 : i64 at_) (h2 : i64 pat) (hG : Glob w) :
    Calls Tryd.prog 5 #[.string s, .int .i64 at_, .int .i64 pat] w fun e w' => e = .returned (.bool true) ∧ Below w.heap.size w w' := by
  have HA := Hid.mk_ (awake_any hG)
  by_cases hsz : s.size < 4 ∨ 16777216 < s.size
  · have t0 : (decide ((s.size : Int) < 4) || decide (16777216 < (s.size : Int))) = true := by
      rcases hsz with h | h
      · simp; omega
      · simp; omega
    clear hsz
    go_enter Tryd.func5, Tryd.ntmps5
    go_wp2_with (go_at_call 9; (with_reducible refine HA.out.mono ?_); rintro e w1 ⟨rfl, hb⟩)
    all_goals (
      go_ret
      exact ⟨rfl, hb⟩)
  · have hs4 : ¬ s.size < 4 := fun e => hsz (.inl e)
    have hs24 : ¬ 16777216 < s.size := fun e => hsz (.inr e)
    have q1 : ¬ (s.size : Int) < 4 := by omega
    have q2 : ¬ (16777216 : Int) < s.size := by omega
    have hn0 : (0 : Int) < 8 * (s.size : Int) - 31 := by omega
    have hr1 := pickI_range at_ (8 * (s.size : Int) - 31) hn0
    have hr2 := pickI_range pat 4294967295 (by omega)
    have HP1 := Hid.mk_ (fun W => pick_at (c := at_) (n := 8 * (s.size : Int) - 31) rfl hn0 h1 W)
    have HP2 := Hid.mk_ (fun W => pick_at (c := pat) (n := 4294967295) rfl (by omega) h2 W)
    obtain ⟨K, hK⟩ : ∃ K : Nat, (K : Int) = pickI at_ (8 * (s.size : Int) - 31) := ⟨(pickI at_ (8 * (s.size : Int) - 31)).toNat, by omega⟩
    obtain ⟨T, hT⟩ : ∃ T : Nat, (T : Int) = pickI pat 4294967295 := ⟨(pickI pat 4294967295).toNat, by omega⟩
    rw [← hK] at HP1 hr1
    rw [← hT] at HP2 hr2
    have HC := Hid.mk_ (fun W => run_bytes_of_string (P := Tryd.prog) W 9 40 5 s Tryd.underlying9 Tryd.underlying40 Tryd.underlying5)
    clear hK hT hsz hn0 hG
    go_enter Tryd.func5, Tryd.ntmps5
    go_upto_region 4 with (go_at_call 9; (with_reducible refine HA.out.mono ?_); rintro e w1 ⟨rfl, hb⟩)
    have hc := HC.out w1
    have hrow := BRow.of_string w1 s (grownCap w1 s.size 0 5)
    obtain ⟨w2, hw2⟩ : ∃ w2, w2 = w1.drew.alloc (.cells (bytesRow s (grownCap w1 s.size 0 5)) 5 ((bytesRow s (grownCap w1 s.size 0 5)).size, (bytesRow s (grownCap w1 s.size 0 5)).size + 1)) := ⟨_, rfl⟩
    obtain ⟨cp, hcp⟩ : ∃ cp, cp = grownCap w1 s.size 0 5 := ⟨_, rfl⟩
    have hb2 : Below w1.heap.size w1 w2 := by rw [hw2]; exact (Below.drew (Below.refl _ w1)).alloc (Nat.le_refl _) _
    rw [← hw2] at hc hrow
    rw [← hcp] at hc
    have HROW := Hid.mk_ hrow
    have HB2 := Hid.mk_ hb2
    have HB1 := Hid.mk_ hb
    obtain ⟨g, hg⟩ : ∃ g, g = w1.heap.size := ⟨_, rfl⟩
    rw [← hg] at HROW HB2 hc
    have HG := Hid.mk_ hg
    clear hw2 hcp hrow hb2 hb hg
    go_upto_region 7 with (first
      | (go_at_call 15; (with_reducible refine (HP1.out _).mono ?_); rintro e w' ⟨rfl, rfl⟩)
      | (go_at_call 15; (with_reducible refine (HP2.out _).mono ?_); rintro e w' ⟨rfl, rfl⟩))
    go_wp2_with fail
    go_loopw [11] (fun x11 wr => ∃ (i : Nat) (l : List UInt8), i ≤ 32 ∧ x11 = .int .i64 (i : Int) ∧ Hid (l.length = s.size ∧ numE l = numE s.data.toList ^^^ ((1 + T) % 2 ^ i) * 2 ^ K) ∧ Hid (BRow wr g l) ∧ Hid (Below g w1 wr)) (fun x11 _ => 32 - (intOf x11).toNat)
    case atStart => exact ⟨0, s.data.toList, by omega, rfl, Hid.mk_ ⟨by simp, by simp [Nat.mod_one]⟩, HROW, HB2⟩
    case round =>
      obtain ⟨i, l, hi, rfl, HL, HR, HB⟩ := hrel
      by_cases hi32 : i < 32
      · have hi1 : (i : Int) < 32 := by omega
        have hX : K + i < 8 * s.size := by omega
        obtain ⟨X, hXe⟩ : ∃ X, X = K + i := ⟨_, rfl⟩
        have hJ : X / 8 < s.size := by omega
        have hlen := HL.out.1
        have k0 := HR.out.cell (X / 8) (by omega)
        have f0 := HR.out.free (X / 8) (by omega)
        have hgl := HR.out.lt
        obtain ⟨c, hce⟩ : ∃ c, c = l[X / 8]'(by omega) := ⟨_, rfl⟩
        rw [← hce] at k0
        obtain ⟨J, hJe⟩ : ∃ J, J = X / 8 := ⟨_, rfl⟩
        obtain ⟨R, hRe⟩ : ∃ R, R = X % 8 := ⟨_, rfl⟩
        rw [← hJe] at k0 f0 hJ
        have b1 : IntKind.i64.wrap (X : Int) = (X : Int) := by rw [IntKind.wrap_i64]; omega
        have b2 : IntKind.i64.wrap (J : Int) = (J : Int) := by rw [IntKind.wrap_i64]; omega
        have b3 : IntKind.i64.wrap (R : Int) = (R : Int) := by rw [IntKind.wrap_i64]; omega
        have a1' : (K : Int) + i = (X : Int) := by omega
        have a2 : (X : Int).tdiv 8 = (J : Int) := by rw [Int.tdiv_eq_ediv_of_nonneg (by omega)]; omega
        have a3 : (X : Int).tmod 8 = (R : Int) := by rw [Int.tmod_eq_emod_of_nonneg (by omega)]; omega
        have hJ1 : (J : Int) < s.size := by omega
        have hR8 : R < 8 := by omega
        have HC2 := Hid.mk_ hce
        have HJ := Hid.mk_ hJe
        have HR2 := Hid.mk_ hRe
        have HX := Hid.mk_ hXe
        clear hXe hce hJe hRe
        go_upto_if 41 with fail
        by_cases hbit : (1 + T) / 2 ^ i % 2 = 1
        · have hb1 : (bits .and .i64 ((1 + (T : Int)) / 2 ^ i) 1 == 1) = true := by rw [bit_at, hbit]; rfl
          have HBIT := Hid.mk_ hbit
          clear hbit
          go_wp2_with fail
          refine still_tail_drew 19 (by kernel_rfl) (by kernel_rfl) ?_
          simp only [List.take_succ_cons, List.take_zero, List.drop_succ_cons, List.drop_zero]
          repeat still_step
          refine wpStill_nil ?_
          go_wp2_with fail
          obtain ⟨c2, hc2, hc3⟩ := xor_bit c R hR8
          rw [hc2]
          have hgB := HB.out
          refine ⟨⟨i + 1, l.set J c2, by omega, by go_num, Hid.mk_ ⟨by rw [List.length_set]; exact hlen, ?_⟩, HR.out.set J (by omega) c2, Below.drew (hgB.setCell (p := ⟨g, J, none⟩) (Nat.le_refl _) _)⟩, by simp [intOf]; omega⟩
          have hJl : J < l.length := by omega
          have hcJ : c = l[J]'hJl := by rw [HC2.out]; simp only [HJ.out]
          rw [numE_set hJl hR8 c2 (by rw [hc3, hcJ]), HL.out.2, Nat.xor_assoc, turn_step, if_pos HBIT.out, show 8 * J + R = K + i by have := HJ.out; have := HR2.out; have := HX.out; omega]
        · have hb1 : (bits .and .i64 ((1 + (T : Int)) / 2 ^ i) 1 == 1) = false := by
            rw [bit_at]
            have : (1 + T) / 2 ^ i % 2 = 0 := by omega
            rw [this]; rfl
          have HBIT := Hid.mk_ hbit
          clear hbit
          go_wp2_with fail
          refine ⟨⟨i + 1, l, by omega, by go_num, Hid.mk_ ⟨hlen, ?_⟩, HR, HB⟩, by simp [intOf]; omega⟩
          rw [HL.out.2, turn_step, if_neg HBIT.out, Nat.xor_zero]
      · have hi1 : ¬ (i : Int) < 32 := by omega
        obtain rfl : i = 32 := by omega
        have hlen := HL.out.1
        have hds : s.data.toList.length = s.size := by simp
        have hT2 : (1 + T) % 2 ^ 32 = 1 + T := Nat.mod_eq_of_lt (by omega)
        have hnl := HL.out.2
        rw [hT2] at hnl
        have hcr := crc_turned (l := s.data.toList) (m := l) (k := K) (t := 1 + T) (by rw [hds, hlen]) (by rw [hds]; omega) (by omega) (by omega) hnl
        have hcv := run_convert_bytes_back (P := Tryd.prog) wr 40 9 5 ⟨g, 0, none⟩ cp l Tryd.underlying40 Tryd.underlying5 Tryd.underlying9 (fun j hj => by rw [Addr.add_lit, Nat.zero_add]; exact HR.out.cell j hj)
        rw [hlen] at hcv
        have H1 := Hid.mk_ (fun W => sum_l l _ rfl (by rw [hlen]; omega) W)
        have H2 := Hid.mk_ (fun W => sum_any s W hs)
        have t9 : ((crc l : Int) != (crc s.data.toList : Int)) = true := by simp; omega
        obtain ⟨x, hx⟩ : ∃ x : Int, x = (crc l : Int) := ⟨_, rfl⟩
        obtain ⟨y, hy⟩ : ∃ y : Int, y = (crc s.data.toList : Int) := ⟨_, rfl⟩
        rw [← hx] at H1 t9
        rw [← hy] at H2 t9
        clear hx hy hcr hnl hT2 hds
        go_wp2_with (first
          | (go_at_call 10; (with_reducible refine (H1.out _).mono ?_); rintro e w1 ⟨rfl, rfl⟩)
          | (go_at_call 10; (with_reducible refine (H2.out _).mono ?_); rintro e w1 ⟨rfl, rfl⟩))
        go_ret
        have hgB := HB.out
        rw [HG.out] at hgB
        exact ⟨rfl, HB1.out.trans (hgB.mono HB1.out.size)⟩
end Go.Proofs.YtdccgmfhnofabaaDoor
