/- awake: the chapter's examples. -/
import Derived.Test.YtdccgmfhnofabaaDoorD5
namespace Go.Proofs.YtdccgmfhnofabaaDoor
open Go.RowKit
set_option linter.unusedVariables false
set_option linter.unusedSimpArgs false
theorem sum_l (l : List UInt8) (x : Int) (hx : (crc l : Int) = x) (hl : l.length ≤ 9223372036854775807) (w : World) : Calls Tryd.prog 10 #[str l] w fun e w' => e = .returned (.int .u32 x) ∧ w = w' := by
  have h := sum_any ⟨l.toArray⟩ w (by rw [size_l]; exact hl)
  rw [← hx]
  simpa using h
theorem rsum_l (l : List UInt8) (hl : l.length ≤ 9223372036854775807) (w : World) : Calls Tryd.prog 11 #[str l] w fun e w' => e = .returned (.int .u32 (crc l : Int)) ∧ w = w' := by
  have h := rsum_any ⟨l.toArray⟩ w (by rw [size_l]; exact hl)
  simpa using h
def aw0 : Wr := ⟨max 20 0, [], 0⟩
def aw1 : Wr := aw0.num 2 258
def aw2 : Wr := aw1.text [104, 105]
def aw3 : Wr := aw2.num 1 7
def aw4 : Wr := aw3.raw [122]
def av0 : Wr := ⟨max 3 0, [], 0⟩
def av1 : Wr := av0.num 2 1
def av2 : Wr := av1.num 2 1
def ar0 : Rd := ⟨[0, 2, 97, 98, 99], 0⟩
def ar1 : Rd := (ar0.text 2).2
theorem aw_done : aw4.done = ([1, 2, 0, 2, 104, 105, 7, 122], 0) := by decide +kernel
theorem av_done : av2.done = ([], 11) := by decide +kernel
theorem ar_text : (ar0.text 2).1 = [97, 98] := by decide +kernel
theorem ar_left : ar1.left = 1 := by decide +kernel
theorem ar_done : ar1.done = 13 := by decide +kernel
theorem crc_9 : (crc [49, 50, 51, 52, 53, 54, 55, 56, 57] : Int) = 3421780262 := by decide +kernel
theorem crc_0 : (crc [] : Int) = 0 := by decide +kernel
section
variable {w : World} {o : Nat → Nat} {i b : Nat}
theorem wdone_val {r : Wr} {d : List UInt8 × Int} (hG : Glob w) (h : WSt w o i b r) (hd : r.done = d) : Calls Tryd.prog 27 #[.pointer (some ⟨b, 0, none⟩)] w fun e w' => e = .returned (.tuple #[str d.1, .int .i64 d.2]) ∧ WSt w' (upd o w.heap.size i) i b r ∧ Mods (fun k => o k = i) w w' := by
  subst hd; exact wdone_st hG h
theorem rtext_val {r : Rd} {d : List UInt8} (h : RSt w o i b r) (n : Int) (hd : (r.text n).1 = d) : Calls Tryd.prog 35 #[.pointer (some ⟨b, 0, none⟩), .int .i64 n] w (ROp w o i b (str d) (r.text n).2) := by
  subst hd; exact rtext_st h n
theorem rleft_val {r : Rd} {d : Int} (h : RSt w o i b r) (hd : r.left = d) : Calls Tryd.prog 22 #[.pointer (some ⟨b, 0, none⟩)] w fun e w' => e = .returned (.int .i64 d) ∧ w = w' := by
  subst hd; exact rleft_st h
theorem rdone_val {r : Rd} {d : Int} (hG : Glob w) (h : RSt w o i b r) (hd : r.done = d) : Calls Tryd.prog 24 #[.pointer (some ⟨b, 0, none⟩)] w fun e w' => e = .returned (.int .i64 d) ∧ Below w.heap.size w w' := by
  subst hd; exact rdone_st hG h
end
set_option maxRecDepth 100000 in
set_option maxHeartbeats 4000000 in
theorem awake_any {w : World} (hG : Glob w) : Calls Tryd.prog 9 #[] w fun e w' => e = .returned (.bool true) ∧ Below w.heap.size w w' := by
  obtain ⟨o0, ho0⟩ : ∃ o : Nat → Nat, o = fun _ => 0 := ⟨_, rfl⟩
  have S0 := Hid.mk_ (Sys.start hG)
  rw [← ho0] at S0
  clear hG ho0
  obtain ⟨w0, rfl⟩ : ∃ w0 : World, w0 = w := ⟨_, rfl⟩
  have C1 := Hid.mk_ (wnew_st 20 (by unfold i64; omega) S0.out.glob o0 1)
  go_enter Tryd.func9, Tryd.ntmps9
  go_upto_region 2 with (go_at_call 13; (with_reducible refine C1.out.mono ?_); rintro e w1 ⟨b1, rfl, hx, hm⟩)
  clear C1
  have S1 := Hid.mk_ (S0.out.step (i := 1) (by omega) hm)
  have A1 := Hid.mk_ hx
  obtain ⟨o1, ho⟩ : ∃ o, o = upd o0 w0.heap.size 1 := ⟨_, rfl⟩
  rw [← ho] at S1 A1
  clear hx hm ho S0
  have C2 := Hid.mk_ (rnew_st [0, 2, 97, 98, 99] (by decide) S1.out.glob o1 2)
  go_upto_region 3 with (go_at_call 19; (with_reducible refine C2.out.mono ?_); rintro e w2 ⟨b2, rfl, hx, hm⟩)
  clear C2
  have S2 := Hid.mk_ (S1.out.step (i := 2) (by omega) hm)
  have R2 := Hid.mk_ hx
  have A2 := Hid.mk_ (A1.out.other (i := 2) (by omega) hm)
  obtain ⟨o2, ho⟩ : ∃ o, o = upd o1 w1.heap.size 2 := ⟨_, rfl⟩
  rw [← ho] at S2 R2 A2
  clear hx hm ho S1 A1
  have C3 := Hid.mk_ (wnew_st 3 (by unfold i64; omega) S2.out.glob o2 3)
  go_upto_region 4 with (go_at_call 13; (with_reducible refine C3.out.mono ?_); rintro e w3 ⟨b3, rfl, hx, hm⟩)
  clear C3
  have S3 := Hid.mk_ (S2.out.step (i := 3) (by omega) hm)
  have V3 := Hid.mk_ hx
  have A3 := Hid.mk_ (A2.out.other (i := 3) (by omega) hm)
  have R3 := Hid.mk_ (R2.out.other (i := 3) (by omega) hm)
  obtain ⟨o3, ho⟩ : ∃ o, o = upd o2 w2.heap.size 3 := ⟨_, rfl⟩
  rw [← ho] at S3 V3 A3 R3
  clear hx hm ho S2 A2 R2
  have C4 := Hid.mk_ (wnum_st A3.out 2 258 (by unfold i64; omega) (by unfold i64; omega) (by decide +kernel))
  go_upto_region 7 with (go_at_call 32; (with_reducible refine C4.out.mono ?_); rintro e w4 ⟨rfl, hx, hm⟩)
  clear C4
  have S4 := Hid.mk_ (S3.out.step (i := 1) (by omega) hm)
  have A4 := Hid.mk_ hx
  have R4 := Hid.mk_ (R3.out.other (i := 1) (by omega) hm)
  have V4 := Hid.mk_ (V3.out.other (i := 1) (by omega) hm)
  obtain ⟨o4, ho⟩ : ∃ o, o = upd o3 w3.heap.size 1 := ⟨_, rfl⟩
  rw [← ho] at S4 A4 R4 V4
  clear hx hm ho S3 R3 V3 A3
  have C5 := Hid.mk_ (wtext_st A4.out [104, 105] (by decide +kernel))
  go_upto_region 8 with (go_at_call 33; (with_reducible refine C5.out.mono ?_); rintro e w5 ⟨rfl, hx, hm⟩)
  clear C5
  have S5 := Hid.mk_ (S4.out.step (i := 1) (by omega) hm)
  have A5 := Hid.mk_ hx
  have R5 := Hid.mk_ (R4.out.other (i := 1) (by omega) hm)
  have V5 := Hid.mk_ (V4.out.other (i := 1) (by omega) hm)
  obtain ⟨o5, ho⟩ : ∃ o, o = upd o4 w4.heap.size 1 := ⟨_, rfl⟩
  rw [← ho] at S5 A5 R5 V5
  clear hx hm ho S4 R4 V4 A4
  have C6 := Hid.mk_ (wnum_st A5.out 1 7 (by unfold i64; omega) (by unfold i64; omega) (by decide +kernel))
  go_upto_region 9 with (go_at_call 32; (with_reducible refine C6.out.mono ?_); rintro e w6 ⟨rfl, hx, hm⟩)
  clear C6
  have S6 := Hid.mk_ (S5.out.step (i := 1) (by omega) hm)
  have A6 := Hid.mk_ hx
  have R6 := Hid.mk_ (R5.out.other (i := 1) (by omega) hm)
  have V6 := Hid.mk_ (V5.out.other (i := 1) (by omega) hm)
  obtain ⟨o6, ho⟩ : ∃ o, o = upd o5 w5.heap.size 1 := ⟨_, rfl⟩
  rw [← ho] at S6 A6 R6 V6
  clear hx hm ho S5 R5 V5 A5
  have C7 := Hid.mk_ (wraw_st A6.out [122] (by decide +kernel))
  go_upto_region 10 with (go_at_call 34; (with_reducible refine C7.out.mono ?_); rintro e w7 ⟨rfl, hx, hm⟩)
  clear C7
  have S7 := Hid.mk_ (S6.out.step (i := 1) (by omega) hm)
  have A7 := Hid.mk_ hx
  have R7 := Hid.mk_ (R6.out.other (i := 1) (by omega) hm)
  have V7 := Hid.mk_ (V6.out.other (i := 1) (by omega) hm)
  obtain ⟨o7, ho⟩ : ∃ o, o = upd o6 w6.heap.size 1 := ⟨_, rfl⟩
  rw [← ho] at S7 A7 R7 V7
  clear hx hm ho S6 R6 V6 A6
  have C8 := Hid.mk_ (wdone_val S7.out.glob A7.out aw_done)
  go_upto_region 11 with (go_at_call 27; (with_reducible refine C8.out.mono ?_); rintro e w8 ⟨rfl, hx, hm⟩)
  clear C8
  have S8 := Hid.mk_ (S7.out.step (i := 1) (by omega) hm)
  have A8 := Hid.mk_ hx
  have R8 := Hid.mk_ (R7.out.other (i := 1) (by omega) hm)
  have V8 := Hid.mk_ (V7.out.other (i := 1) (by omega) hm)
  obtain ⟨o8, ho⟩ : ∃ o, o = upd o7 w7.heap.size 1 := ⟨_, rfl⟩
  rw [← ho] at S8 A8 R8 V8
  clear hx hm ho S7 R7 V7 A7
  have C9 := Hid.mk_ (rtext_val R8.out 2 ar_text)
  go_upto_region 12 with (go_at_call 35; (with_reducible refine C9.out.mono ?_); rintro e w9 ⟨rfl, hx, hm⟩)
  clear C9
  have S9 := Hid.mk_ (S8.out.step (i := 2) (by omega) hm)
  have R9 := Hid.mk_ hx
  have A9 := Hid.mk_ (A8.out.other (i := 2) (by omega) hm)
  have V9 := Hid.mk_ (V8.out.other (i := 2) (by omega) hm)
  obtain ⟨o9, ho⟩ : ∃ o, o = upd o8 w8.heap.size 2 := ⟨_, rfl⟩
  rw [← ho] at S9 R9 A9 V9
  clear hx hm ho S8 A8 V8 R8
  have C10 := Hid.mk_ (rleft_val R9.out ar_left)
  go_upto_region 13 with (go_at_call 22; (with_reducible refine C10.out.mono ?_); rintro e w10 ⟨rfl, rfl⟩)
  clear C10
  have C10 := Hid.mk_ (rdone_val S9.out.glob R9.out ar_done)
  go_upto_region 14 with (go_at_call 24; (with_reducible refine C10.out.mono ?_); rintro e w10 ⟨rfl, hb⟩)
  clear C10
  have S10 := Hid.mk_ (S9.out.new hb)
  have A10 := Hid.mk_ (A9.out.new hb)
  have R10 := Hid.mk_ (R9.out.new hb)
  have V10 := Hid.mk_ (V9.out.new hb)
  obtain ⟨o10, ho⟩ : ∃ o, o = o9 := ⟨_, rfl⟩
  rw [← ho] at S10 A10 R10 V10
  clear hb ho S9 A9 R9 V9
  have C11 := Hid.mk_ (wnum_st V10.out 2 1 (by unfold i64; omega) (by unfold i64; omega) (by decide +kernel))
  go_upto_region 15 with (go_at_call 32; (with_reducible refine C11.out.mono ?_); rintro e w11 ⟨rfl, hx, hm⟩)
  clear C11
  have S11 := Hid.mk_ (S10.out.step (i := 3) (by omega) hm)
  have V11 := Hid.mk_ hx
  have A11 := Hid.mk_ (A10.out.other (i := 3) (by omega) hm)
  have R11 := Hid.mk_ (R10.out.other (i := 3) (by omega) hm)
  obtain ⟨o11, ho⟩ : ∃ o, o = upd o10 w10.heap.size 3 := ⟨_, rfl⟩
  rw [← ho] at S11 V11 A11 R11
  clear hx hm ho S10 A10 R10 V10
  have C12 := Hid.mk_ (wnum_st V11.out 2 1 (by unfold i64; omega) (by unfold i64; omega) (by decide +kernel))
  go_upto_region 16 with (go_at_call 32; (with_reducible refine C12.out.mono ?_); rintro e w12 ⟨rfl, hx, hm⟩)
  clear C12
  have S12 := Hid.mk_ (S11.out.step (i := 3) (by omega) hm)
  have V12 := Hid.mk_ hx
  have A12 := Hid.mk_ (A11.out.other (i := 3) (by omega) hm)
  have R12 := Hid.mk_ (R11.out.other (i := 3) (by omega) hm)
  obtain ⟨o12, ho⟩ : ∃ o, o = upd o11 w11.heap.size 3 := ⟨_, rfl⟩
  rw [← ho] at S12 V12 A12 R12
  clear hx hm ho S11 A11 R11 V11
  have C13 := Hid.mk_ (wdone_val S12.out.glob V12.out av_done)
  go_upto_region 17 with (go_at_call 27; (with_reducible refine C13.out.mono ?_); rintro e w13 ⟨rfl, hx, hm⟩)
  clear C13
  have S13 := Hid.mk_ (S12.out.step (i := 3) (by omega) hm)
  have V13 := Hid.mk_ hx
  have A13 := Hid.mk_ (A12.out.other (i := 3) (by omega) hm)
  have R13 := Hid.mk_ (R12.out.other (i := 3) (by omega) hm)
  obtain ⟨o13, ho⟩ : ∃ o, o = upd o12 w12.heap.size 3 := ⟨_, rfl⟩
  rw [← ho] at S13 V13 A13 R13
  clear hx hm ho S12 A12 R12 V12
  have SUM := Hid.mk_ (fun W => sum_l [49, 50, 51, 52, 53, 54, 55, 56, 57] _ crc_9 (by decide) W)
  have SU0 := Hid.mk_ (fun W => sum_l [] _ crc_0 (by decide) W)
  go_wp2_with (first | (go_at_call 10; (with_reducible refine (SUM.out _).mono ?_); rintro e w' ⟨rfl, rfl⟩) | (go_at_call 10; (with_reducible refine (SU0.out _).mono ?_); rintro e w' ⟨rfl, rfl⟩))
  go_ret
  exact ⟨rfl, S13.out.below⟩
end Go.Proofs.YtdccgmfhnofabaaDoor
