/- CodecBack: a thing laid down, a thing taken up. -/
import Derived.Test.YtdccgmfhnofabaaDoorE8
import Derived.Test.YtdccgmfhnofabaaDoorP6
namespace Go.Proofs.YtdccgmfhnofabaaDoor
open Go.RowKit
set_option linter.unusedVariables false
set_option linter.unusedSimpArgs false
def itAbs (n : Int) : Int := if n < 0 then -(n + 1) else n
def itN (x : OpC) : Int := if pickI x.on 8 = 7 then itAbs x.size else itAbs x.size % (256 : Int) ^ (pickI x.on 8 + 1).toNat
theorem itAbs_range {n : Int} (h : i64 n) : 0 ≤ itAbs n ∧ itAbs n ≤ 9223372036854775807 := by
  obtain ⟨h1, h2⟩ := h
  unfold itAbs
  split <;> omega
theorem itN_range {x : OpC} (h : i64 x.size) : 0 ≤ itN x ∧ itN x ≤ 9223372036854775807 ∧ itN x < (256 : Int) ^ (pickI x.on 8 + 1).toNat := by
  have h1 := itAbs_range h
  have hp := pickI_range x.on 8 (by omega)
  unfold itN
  split
  · rename_i e
    refine ⟨h1.1, h1.2, ?_⟩
    rw [e]
    have : (256 : Int) ^ ((7 : Int) + 1).toNat = 18446744073709551616 := by decide
    omega
  · have hpos : (0 : Int) < 256 ^ (pickI x.on 8 + 1).toNat := Int.pow_pos (by omega)
    have a1 := Int.emod_nonneg (itAbs x.size) (show (256 : Int) ^ (pickI x.on 8 + 1).toNat ≠ 0 by omega)
    have a2 := Int.emod_lt_of_pos (itAbs x.size) hpos
    refine ⟨a1, ?_, a2⟩
    have e := Int.mul_ediv_add_emod (itAbs x.size) (256 ^ (pickI x.on 8 + 1).toNat)
    have m := Int.mul_nonneg (Int.le_of_lt hpos) (Int.ediv_nonneg h1.1 (Int.le_of_lt hpos))
    omega
section
variable {w w' : World} {o : Nat → Nat} {i j b c : Nat} {r : Rd} {W : Wr} {x : OpC}
set_option maxRecDepth 100000 in
set_option maxHeartbeats 4000000 in
theorem itnum_any (w : World) (hx : OpOk x) : Calls Tryd.prog 44 #[x.agg] w fun e w' => e = .returned (.int .i64 (itN x)) ∧ Below w.heap.size w w' := by
  obtain ⟨w1, hw1⟩ : ∃ w1, w1 = w.alloc (.cells x.cells.toArray 55) := ⟨_, rfl⟩
  have hb1 : Below w.heap.size w w1 := by rw [hw1]; exact (Below.refl _ _).alloc (Nat.le_refl _) _
  have hk := Blk.new w x.cells 55
  rw [← hw1] at hk
  obtain ⟨ws, hws⟩ : ∃ ws, ws = w.heap.size := ⟨_, rfl⟩
  rw [← hws] at hk
  have HWS := Hid.mk_ hws
  have HB := Hid.mk_ hb1
  have hwl : ws < w1.heap.size := hk.lt
  have c1 := hk.cell 1
  have c2 := hk.cell 2
  have hpr := pickI_range x.on 8 (by omega)
  have HP := Hid.mk_ (pick_any x.on 8 (by omega) hx.on.1 hx.on.2)
  obtain ⟨R, hR⟩ : ∃ R, R = itN x := ⟨_, rfl⟩
  rw [← hR]
  have hN := hR
  unfold itN itAbs at hN
  have hsz := hx.size
  obtain ⟨kd, on, n, mo, s⟩ := x
  simp only at hN HP hpr hsz
  obtain ⟨p, hp⟩ : ∃ p, p = pickI on 8 := ⟨_, rfl⟩
  rw [← hp] at hN HP hpr
  simp only [OpC.cells] at c1 c2 hw1
  obtain ⟨hn0, hn1⟩ := hsz
  have HW1 := Hid.mk_ hw1
  unfold OpC.agg
  clear hx hb1 hk hws hw1 hR hp
  have HN := Hid.mk_ hN
  clear hN
  rcases (by omega : p = 0 ∨ p = 1 ∨ p = 2 ∨ p = 3 ∨ p = 4 ∨ p = 5 ∨ p = 6 ∨ p = 7) with rfl | rfl | rfl | rfl | rfl | rfl | rfl | rfl
  all_goals (
    by_cases hn : n < 0
    all_goals (
      have hN := HN.out
      simp only [hn, if_pos, if_neg, if_true, if_false] at hN
      (try rw [if_neg (by decide)] at hN)
      go_enter Tryd.func44, Tryd.ntmps44
      go_upto_region 1 with fail
      rw [← HW1.out, ← HWS.out]
      go_wp2_with (go_at_call 15; (with_reducible refine (HP.out _).mono ?_); rintro e w' ⟨rfl, rfl⟩)
      go_ret
      refine ⟨?_, HB.out⟩
      rw [hN]
      first
        | rfl
        | (rw [← Int.neg_tmod, Int.tmod_eq_emod_of_nonneg (by omega)]; rfl)))
theorem ittext_any (w : World) (s : List UInt8) (hs : s.length ≤ 9223372036854775807) : Calls Tryd.prog 45 #[str s] w fun e w' => e = .returned (str (s.take 65535)) ∧ w = w' := by
  by_cases h : 65535 < s.length
  · have hi : (65535 : Int) < (s.length : Int) := by omega
    have hsz : (⟨s.toArray⟩ : ByteArray).size = s.length := size_l s
    have hext : (⟨s.toArray⟩ : ByteArray).extract 0 65535 = ⟨(s.take 65535).toArray⟩ := extract_to s 65535
    have h65 : (65535 : Int) ≤ ((⟨s.toArray⟩ : ByteArray).size : Int) := by rw [hsz]; omega
    go_enter Tryd.func45, Tryd.ntmps45
    go_wp2_with fail
    go_ret
    exact ⟨rfl, rfl⟩
  · have hi : ¬ (65535 : Int) < (s.length : Int) := by omega
    have e : s.take 65535 = s := List.take_of_length_le (by omega)
    rw [e]
    clear e
    go_enter Tryd.func45, Tryd.ntmps45
    go_wp2_with fail
    go_ret
    exact ⟨rfl, rfl⟩
def itemOf (x : OpC) : It := if pickI x.kind 3 = 0 then .num (1 + pickI x.on 8).toNat (itN x).toNat else if pickI x.kind 3 = 1 then .text (x.s.take 65535) (pickI x.n 70000).toNat else .raw x.s
theorem itemOf_ok (h : OpOk x) : (itemOf x).ok := by
  unfold itemOf
  split
  · have h1 := itN_range h.size
    have h2 := pickI_range x.on 8 (by omega)
    refine ⟨by omega, by omega, by omega, ?_⟩
    have h3 := h1.2.2
    rw [show pickI x.on 8 + 1 = 1 + pickI x.on 8 by omega] at h3
    have h4 : ((itN x).toNat : Int) < ((256 ^ (1 + pickI x.on 8).toNat : Nat) : Int) := by rw [Int.natCast_pow, Int.toNat_of_nonneg h1.1]; exact h3
    exact Int.ofNat_lt.1 h4
  · split
    · show (x.s.take 65535).length ≤ 65535
      exact List.length_take_le _ _
    · trivial
theorem itemOf_len : (itemOf x).enc.length ≤ 100 + x.s.length := by
  unfold itemOf
  have h2 := pickI_range x.on 8 (by omega)
  split
  · show (byL _ _).length ≤ _
    rw [byL_length]; omega
  · split
    · show (byL 2 _ ++ x.s.take 65535).length ≤ _
      rw [List.length_append, byL_length, List.length_take]; omega
    · show x.s.length ≤ _
      omega
def PutPost (w : World) (o : Nat → Nat) (j c : Nat) (W : Wr) (e : Ending) (w' : World) : Prop := e = .returned (.tuple #[]) ∧ ∃ o', Ch (· = j) o o' w w' ∧ WSt w' o' j c W
def P5 (ws : Nat) (x : OpC) (w : World) : Prop := w.cell? ⟨ws, 0, none⟩ = some (.int .i64 x.kind) ∧ w.cell? ⟨ws, 1, none⟩ = some (.int .i64 x.on) ∧ w.cell? ⟨ws, 2, none⟩ = some (.int .i64 x.size) ∧ w.cell? ⟨ws, 3, none⟩ = some (.int .i64 x.n) ∧ w.cell? ⟨ws, 4, none⟩ = some (str x.s)
theorem Blk.p5 {ws : Nat} (h : Blk w ws x.cells 55) : P5 ws x w := ⟨h.cell 0, h.cell 1, h.cell 2, h.cell 3, h.cell 4⟩
set_option maxRecDepth 100000 in
set_option maxHeartbeats 4000000 in
theorem puts_st (hB : WSt w o j c W) (hj8 : j ≠ 8) (ho : OpOk x) (hlen : W.l.length + x.s.length ≤ 140737488355200) :
    Calls Tryd.prog 26 #[.pointer (some ⟨c, 0, none⟩), x.agg] w (PutPost w o j c ((itemOf x).put W)) := by
  obtain ⟨w1, hw1⟩ : ∃ w1, w1 = w.alloc (.cells x.cells.toArray 55) := ⟨_, rfl⟩
  obtain ⟨o1, ho1⟩ : ∃ o1, o1 = upd o w.heap.size 8 := ⟨_, rfl⟩
  have hb1 : Below w.heap.size w w1 := by rw [hw1]; exact (Below.refl _ _).alloc (Nat.le_refl _) _
  have hk := Blk.new w x.cells 55
  rw [← hw1] at hk
  have hcf : ∀ P, Ch P o o1 w w1 := fun P => by rw [ho1]; exact Ch.fresh P 8 hb1
  obtain ⟨ws, hws⟩ : ∃ ws, ws = w.heap.size := ⟨_, rfl⟩
  have ho8 : o1 ws = 8 := by rw [ho1, hws, upd_new (Nat.le_refl _)]
  rw [← hws] at hk
  have HWS := Hid.mk_ hws
  have HNE := Hid.mk_ (show ¬ o1 ws = j from by rw [ho8]; exact fun e => hj8 e.symm)
  have hwl : ws < w1.heap.size := hk.lt
  have hB1 := hB.ch (hcf (fun _ => False)) id
  have HQ := Hid.mk_ (hcf (· = j))
  have HFIN : Hid (∀ (W2 : Wr) e2 u W3, Below w1.heap.size w1 u → WOp u o1 j c W2 e2 W3 → e2 = .returned (.tuple #[]) ∧ P5 ws x W3 ∧ Hid (∃ o', Ch (· = j) o o' w W3 ∧ WSt W3 o' j c W2)) := fun W2 e2 u W3 hu h1 =>
    ⟨h1.1, Blk.p5 ((hk.below hu hk.lt).mods h1.2.2 HNE.out), _, HQ.out.trans ((Ch.quiet _ hu).trans (Ch.one h1.2.2)), h1.2.1⟩
  have HNUM : Hid (∀ u, Below w1.heap.size w1 u → Calls Tryd.prog 44 #[x.agg] u fun e w' => e = .returned (.int .i64 (itN x)) ∧ P5 ws x w' ∧ Below w1.heap.size w1 w') := fun u hu => (itnum_any u ho).mono fun e w' ⟨h1, h2⟩ => ⟨h1, Blk.p5 (hk.below (hu.trans (h2.mono hu.size)) hk.lt), hu.trans (h2.mono hu.size)⟩
  have hN := itN_range ho.size
  obtain ⟨N, hNe⟩ : ∃ N, N = itN x := ⟨_, rfl⟩
  rw [← hNe] at hN HNUM
  have hpr := pickI_range x.on 8 (by omega)
  have HP := Hid.mk_ (pick_any x.on 8 (by omega) ho.on.1 ho.on.2)
  have HP3 := Hid.mk_ (pick_any x.kind 3 (by omega) ho.kind.1 ho.kind.2)
  have hp3 := pickI_range x.kind 3 (by omega)
  have hit : itemOf x = if pickI x.kind 3 = 0 then .num (1 + pickI x.on 8).toNat N.toNat else if pickI x.kind 3 = 1 then .text (x.s.take 65535) (pickI x.n 70000).toNat else .raw x.s := by rw [hNe]; rfl
  obtain ⟨X, hX⟩ : ∃ X, X = itemOf x := ⟨_, rfl⟩
  rw [← hX] at hit ⊢
  have HNU : Hid (∀ u, Below w1.heap.size w1 u → ∀ sz, 1 ≤ sz → sz ≤ 8 → Calls Tryd.prog 32 #[.pointer (some ⟨c, 0, none⟩), .int .i64 sz, .int .i64 N] u fun e2 W3 => e2 = .returned (.tuple #[]) ∧ P5 ws x W3 ∧ Hid (∃ o', Ch (· = j) o o' w W3 ∧ WSt W3 o' j c (W.num sz N))) := fun u hu sz h1 h2 =>
    (wnum_st (hB1.new hu) sz N ⟨by omega, by omega⟩ ⟨by omega, hN.2.1⟩ (by omega)).mono fun e2 W3 h => HFIN.out _ _ _ _ hu h
  have HTX : Hid (Calls Tryd.prog 33 #[.pointer (some ⟨c, 0, none⟩), str (x.s.take 65535)] w1 fun e2 W3 => e2 = .returned (.tuple #[]) ∧ P5 ws x W3 ∧ Hid (∃ o', Ch (· = j) o o' w W3 ∧ WSt W3 o' j c (W.text (x.s.take 65535)))) :=
    (wtext_st hB1 _ (by rw [List.length_take]; omega)).mono fun e2 W3 h => HFIN.out _ _ _ _ (Below.refl _ _) h
  have HRW : Hid (Calls Tryd.prog 34 #[.pointer (some ⟨c, 0, none⟩), str x.s] w1 fun e2 W3 => e2 = .returned (.tuple #[]) ∧ P5 ws x W3 ∧ Hid (∃ o', Ch (· = j) o o' w W3 ∧ WSt W3 o' j c (W.raw x.s))) :=
    (wraw_st hB1 _ (by omega)).mono fun e2 W3 h => HFIN.out _ _ _ _ (Below.refl _ _) h
  have hP5 := Blk.p5 hk
  have HTT := Hid.mk_ (fun u => ittext_any u x.s ho.len)
  have hP50 : P5 ws x w1.drew := Blk.p5 hk.drew
  have hbd : Below w1.heap.size w1 w1.drew := Below.drew (Below.refl _ w1)
  have HBD := Hid.mk_ hbd
  obtain ⟨p, hp⟩ : ∃ p, p = pickI x.on 8 := ⟨_, rfl⟩
  rw [← hp] at hpr HP hit
  obtain ⟨kd, on, sz, n, s⟩ := x
  unfold OpC.agg at HNUM ⊢
  unfold P5 at HFIN HNUM HNU HTX HRW hP5 hP50
  obtain ⟨c0, c1, c2, c3, c4⟩ := hP5
  simp only [OpC.cells] at c0 c1 c2 c3 c4 hw1 HNUM HNU HTX HRW HP HP3 HTT hp3 hit
  obtain ⟨q, hq⟩ : ∃ q, q = pickI kd 3 := ⟨_, rfl⟩
  rw [← hq] at hp3 HP3 hit
  have HW1 := Hid.mk_ hw1
  have HIT := Hid.mk_ hit
  clear hB hb1 hw1 hk hcf hws ho1 hB1 ho hit hX hNe hp hq HFIN
  rcases (by omega : q = 0 ∨ q = 1 ∨ q = 2) with rfl | rfl | rfl
  · have hX := HIT.out
    rw [if_pos rfl] at hX
    have HX := Hid.mk_ hX
    clear hX
    go_enter Tryd.func26, Tryd.ntmps26
    go_upto_region 1 with fail
    rw [← HW1.out, ← HWS.out]
    go_upto_region 4 with (go_at_call 15; (with_reducible refine (HP3.out _).mono ?_); rintro e w' ⟨rfl, rfl⟩)
    have hwr : IntKind.i64.wrap (1 + p) = 1 + p := by rw [IntKind.wrap_i64]; omega
    have HS1 := Hid.mk_ (show 1 ≤ IntKind.i64.wrap (1 + p) by rw [hwr]; omega)
    have HS2 := Hid.mk_ (show IntKind.i64.wrap (1 + p) ≤ 8 by rw [hwr]; omega)
    have HWR := Hid.mk_ hwr
    clear hwr
    have hsz : (((1 + p).toNat : Nat) : Int) = 1 + p := by omega
    have hNN : ((N.toNat : Nat) : Int) = N := by omega
    go_wp2_with fail
    go_region_held3 (fun w' => w'.cell? ⟨ws, 0, none⟩ = some (.int .i64 kd) ∧ w'.cell? ⟨ws, 1, none⟩ = some (.int .i64 on) ∧ w'.cell? ⟨ws, 2, none⟩ = some (.int .i64 sz) ∧ w'.cell? ⟨ws, 3, none⟩ = some (.int .i64 n) ∧ w'.cell? ⟨ws, 4, none⟩ = some (str s)) (first | exact hP50 | assumption)
      (first
        | (go_at_call 15; (with_reducible refine (HP.out _).mono ?_); rintro e w' ⟨rfl, rfl⟩)
        | (go_at_call 44; (with_reducible refine (HNUM.out _ (by assumption)).mono ?_); rintro e w2 ⟨rfl, hS, hB2⟩)
        | (go_at_call 32; (with_reducible refine (HNU.out _ (by assumption) _ HS1.out HS2.out).mono ?_); rintro e w3 ⟨rfl, hS3, hF⟩))
    all_goals go_wp2_with fail
    go_end0
    show PutPost _ _ _ _ _ _ _
    rw [HX.out]
    show PutPost _ _ _ _ (W.num ((1 + p).toNat : Int) (N.toNat : Int)) _ _
    rw [hsz, hNN, ← HWR.out]
    exact ⟨rfl, hF.out⟩
  · have hX := HIT.out
    rw [if_neg (by decide), if_pos rfl] at hX
    have HX := Hid.mk_ hX
    clear hX hP50
    go_enter Tryd.func26, Tryd.ntmps26
    go_upto_region 1 with fail
    rw [← HW1.out, ← HWS.out]
    go_wp2_with (first
      | (go_at_call 15; (with_reducible refine (HP3.out _).mono ?_); rintro e w' ⟨rfl, rfl⟩)
      | (go_at_call 45; (with_reducible refine (HTT.out _).mono ?_); rintro e w' ⟨rfl, rfl⟩)
      | (go_at_call 33; (with_reducible refine HTX.out.mono ?_); rintro e w3 ⟨rfl, hS3, hF⟩))
    go_end0
    rw [HX.out]
    exact ⟨rfl, hF.out⟩
  · have hX := HIT.out
    rw [if_neg (by decide), if_neg (by decide)] at hX
    have HX := Hid.mk_ hX
    clear hX hP50
    go_enter Tryd.func26, Tryd.ntmps26
    go_upto_region 1 with fail
    rw [← HW1.out, ← HWS.out]
    go_wp2_with (first
      | (go_at_call 15; (with_reducible refine (HP3.out _).mono ?_); rintro e w' ⟨rfl, rfl⟩)
      | (go_at_call 34; (with_reducible refine HRW.out.mono ?_); rintro e w3 ⟨rfl, hS3, hF⟩))
    go_end0
    rw [HX.out]
    exact ⟨rfl, hF.out⟩
def GetPost (w : World) (o : Nat → Nat) (i b : Nat) (p : Bool × Rd) (e : Ending) (w' : World) : Prop := e = .returned (.bool p.1) ∧ ∃ o', Ch (· = i) o o' w w' ∧ RSt w' o' i b p.2
set_option maxRecDepth 100000 in
set_option maxHeartbeats 4000000 in
theorem gets_st (hA : RSt w o i b r) (hi8 : i ≠ 8) (ho : OpOk x) (hsl : x.s.length ≤ 140737488355328) :
    Calls Tryd.prog 28 #[.pointer (some ⟨b, 0, none⟩), x.agg] w (GetPost w o i b ((itemOf x).get r)) := by
  obtain ⟨w1, hw1⟩ : ∃ w1, w1 = w.alloc (.cells x.cells.toArray 55) := ⟨_, rfl⟩
  obtain ⟨o1, ho1⟩ : ∃ o1, o1 = upd o w.heap.size 8 := ⟨_, rfl⟩
  have hb1 : Below w.heap.size w w1 := by rw [hw1]; exact (Below.refl _ _).alloc (Nat.le_refl _) _
  have hk := Blk.new w x.cells 55
  rw [← hw1] at hk
  have hcf : ∀ P, Ch P o o1 w w1 := fun P => by rw [ho1]; exact Ch.fresh P 8 hb1
  obtain ⟨ws, hws⟩ : ∃ ws, ws = w.heap.size := ⟨_, rfl⟩
  have ho8 : o1 ws = 8 := by rw [ho1, hws, upd_new (Nat.le_refl _)]
  rw [← hws] at hk
  have HWS := Hid.mk_ hws
  have HNE := Hid.mk_ (show ¬ o1 ws = i from by rw [ho8]; exact fun e => hi8 e.symm)
  have hwl : ws < w1.heap.size := hk.lt
  have hA1 := hA.ch (hcf (fun _ => False)) id
  have HQ := Hid.mk_ (hcf (· = i))
  have hbd : Below w1.heap.size w1 w1.drew := Below.drew (Below.refl _ w1)
  have HFIN : Hid (∀ (v : Value) (r2 : Rd) e2 u W3, Below w1.heap.size w1 u → ROp u o1 i b v r2 e2 W3 → e2 = .returned v ∧ P5 ws x W3 ∧ Hid (∀ w4, Below W3.heap.size W3 w4 → ∃ o', Ch (· = i) o o' w w4 ∧ RSt w4 o' i b r2)) := fun v r2 e2 u W3 hu h1 =>
    ⟨h1.1, Blk.p5 ((hk.below hu hk.lt).mods h1.2.2 HNE.out), fun w4 hb4 => ⟨_, (HQ.out.trans ((Ch.quiet _ hu).trans (Ch.one h1.2.2))).trans (Ch.quiet _ hb4), h1.2.1.new hb4⟩⟩
  have HNUM := Hid.mk_ (fun u => itnum_any u ho)
  have hpr := pickI_range x.on 8 (by omega)
  have HP := Hid.mk_ (pick_any x.on 8 (by omega) ho.on.1 ho.on.2)
  have HPM := Hid.mk_ (pick_any x.n 70000 (by omega) ho.n.1 ho.n.2)
  have hpm := pickI_range x.n 70000 (by omega)
  have HP3 := Hid.mk_ (pick_any x.kind 3 (by omega) ho.kind.1 ho.kind.2)
  have hp3 := pickI_range x.kind 3 (by omega)
  have hN := itN_range ho.size
  have HTT := Hid.mk_ (fun u => ittext_any u x.s ho.len)
  have hit : itemOf x = if pickI x.kind 3 = 0 then .num (1 + pickI x.on 8).toNat (itN x).toNat else if pickI x.kind 3 = 1 then .text (x.s.take 65535) (pickI x.n 70000).toNat else .raw x.s := rfl
  obtain ⟨N, hNe⟩ : ∃ N, N = itN x := ⟨_, rfl⟩
  obtain ⟨X, hX⟩ : ∃ X, X = itemOf x := ⟨_, rfl⟩
  obtain ⟨p, hp⟩ : ∃ p, p = pickI x.on 8 := ⟨_, rfl⟩
  obtain ⟨m, hm⟩ : ∃ m, m = pickI x.n 70000 := ⟨_, rfl⟩
  obtain ⟨q, hq⟩ : ∃ q, q = pickI x.kind 3 := ⟨_, rfl⟩
  obtain ⟨T, hT⟩ : ∃ T, T = x.s.take 65535 := ⟨_, rfl⟩
  have hTl : T.length ≤ 65535 := by rw [hT]; exact List.length_take_le _ _
  rw [← hX] at hit ⊢
  rw [← hNe] at hN HNUM hit
  rw [← hp] at hpr HP hit
  rw [← hm] at hpm HPM hit
  rw [← hq] at hp3 HP3 hit
  rw [← hT] at HTT hit
  have HRN : Hid (∀ sz, Calls Tryd.prog 30 #[.pointer (some ⟨b, 0, none⟩), .int .i64 sz] w1 fun e2 W3 => e2 = .returned (.int .i64 (r.num sz).1) ∧ P5 ws x W3 ∧ Hid (∀ w4, Below W3.heap.size W3 w4 → ∃ o', Ch (· = i) o o' w w4 ∧ RSt w4 o' i b (r.num sz).2)) := fun sz =>
    (rnum_st hA1 sz).mono fun e2 W3 h => HFIN.out _ _ _ _ _ (Below.refl _ _) h
  have HRT : Hid (∀ n, Calls Tryd.prog 35 #[.pointer (some ⟨b, 0, none⟩), .int .i64 n] w1.drew fun e2 W3 => e2 = .returned (str (r.text n).1) ∧ P5 ws x W3 ∧ Hid (∀ w4, Below W3.heap.size W3 w4 → ∃ o', Ch (· = i) o o' w w4 ∧ RSt w4 o' i b (r.text n).2)) := fun n =>
    (rtext_st (hA1.new hbd) n).mono fun e2 W3 h => HFIN.out _ _ _ _ _ hbd h
  have HRW : Hid (∀ n, Calls Tryd.prog 31 #[.pointer (some ⟨b, 0, none⟩), .int .i64 n] w1 fun e2 W3 => e2 = .returned (str (r.raw n).1) ∧ P5 ws x W3 ∧ Hid (∀ w4, Below W3.heap.size W3 w4 → ∃ o', Ch (· = i) o o' w w4 ∧ RSt w4 o' i b (r.raw n).2)) := fun n =>
    (rraw_st hA1 n).mono fun e2 W3 h => HFIN.out _ _ _ _ _ (Below.refl _ _) h
  have hP5 := Blk.p5 hk
  have hP50 : P5 ws x w1.drew := Blk.p5 hk.drew
  obtain ⟨kd, on, sz, n, s⟩ := x
  unfold OpC.agg at HNUM ⊢
  unfold P5 at HFIN HRN HRT HRW hP5 hP50
  obtain ⟨c0, c1, c2, c3, c4⟩ := hP5
  simp only [OpC.cells] at c0 c1 c2 c3 c4 hw1 HNUM HRN HRT HRW HP HPM HP3 HTT hp3 hit hT hsl
  have HW1 := Hid.mk_ hw1
  have HIT := Hid.mk_ hit
  clear hA hb1 hw1 hk hcf hws ho1 hA1 ho hit hX hNe hp hq hm hT HFIN
  rcases (by omega : q = 0 ∨ q = 1 ∨ q = 2) with rfl | rfl | rfl
  · have hX := HIT.out
    rw [if_pos rfl] at hX
    have HX := Hid.mk_ hX
    clear hX
    obtain ⟨v, hv⟩ : ∃ v, v = (r.num (1 + p)).1 := ⟨_, rfl⟩
    have hrn := HRN.out (1 + p)
    rw [← hv] at hrn
    have HR := Hid.mk_ hrn
    have HV := Hid.mk_ hv
    have hsz : (((1 + p).toNat : Nat) : Int) = 1 + p := by omega
    have hNN : ((N.toNat : Nat) : Int) = N := by omega
    clear hrn hv HRN HRT HRW hP50
    go_enter Tryd.func28, Tryd.ntmps28
    go_upto_region 1 with fail
    rw [← HW1.out, ← HWS.out]
    go_upto_region 3 with (go_at_call 15; (with_reducible refine (HP3.out _).mono ?_); rintro e w' ⟨rfl, rfl⟩)
    go_upto_region 4 with (first
      | (go_at_call 15; (with_reducible refine (HP.out _).mono ?_); rintro e w' ⟨rfl, rfl⟩)
      | (go_at_call 30; (with_reducible refine HR.out.mono ?_); rintro e w3 ⟨rfl, hS3, hF⟩))
    obtain ⟨d0, d1, d2, d3, d4⟩ := hS3
    go_wp2_with (go_at_call 44; (with_reducible refine (HNUM.out _).mono ?_); rintro e w4 ⟨rfl, hb4⟩)
    go_ret
    show GetPost _ _ _ _ _ _ _
    rw [HX.out]
    have e : (It.num (1 + p).toNat N.toNat).get r = (decide (v = N), (r.num (1 + p)).2) := by
      show (decide ((r.num ((1 + p).toNat : Int)).1 = (N.toNat : Int)), (r.num ((1 + p).toNat : Int)).2) = _
      rw [hsz, hNN, HV.out]
    rw [e]
    exact ⟨rfl, hF.out _ hb4⟩
  · have hX := HIT.out
    rw [if_neg (by decide), if_pos rfl] at hX
    have HX := Hid.mk_ hX
    clear hX
    have hmm : ((T.length : Int) + m) = (T.length : Int) + (m.toNat : Int) := by omega
    have hwr : IntKind.i64.wrap ((T.length : Int) + m) = (T.length : Int) + m := by rw [IntKind.wrap_i64]; omega
    obtain ⟨v, hv⟩ : ∃ v, v = (r.text (IntKind.i64.wrap ((T.length : Int) + m))).1 := ⟨_, rfl⟩
    have hrn := HRT.out (IntKind.i64.wrap ((T.length : Int) + m))
    rw [← hv] at hrn
    have HR := Hid.mk_ hrn
    rw [hwr] at hv
    have HV := Hid.mk_ hv
    have HWR := Hid.mk_ hwr
    have HMM := Hid.mk_ hmm
    clear hrn hv HRN HRT HRW hwr hmm hbd
    go_enter Tryd.func28, Tryd.ntmps28
    go_upto_region 1 with fail
    rw [← HW1.out, ← HWS.out]
    go_upto_region 6 with (go_at_call 15; (with_reducible refine (HP3.out _).mono ?_); rintro e w' ⟨rfl, rfl⟩)
    go_wp2_with fail
    go_region_held3 (fun w' => w'.cell? ⟨ws, 0, none⟩ = some (.int .i64 kd) ∧ w'.cell? ⟨ws, 1, none⟩ = some (.int .i64 on) ∧ w'.cell? ⟨ws, 2, none⟩ = some (.int .i64 sz) ∧ w'.cell? ⟨ws, 3, none⟩ = some (.int .i64 n) ∧ w'.cell? ⟨ws, 4, none⟩ = some (str s)) (first | exact hP50 | assumption)
      (first
        | (go_at_call 15; (with_reducible refine (HPM.out _).mono ?_); rintro e w' ⟨rfl, rfl⟩)
        | (go_at_call 45; (with_reducible refine (HTT.out _).mono ?_); rintro e w' ⟨rfl, rfl⟩)
        | (go_at_call 35; (with_reducible refine HR.out.mono ?_); rintro e w3 ⟨rfl, hS3, hF⟩))
    obtain ⟨d0, d1, d2, d3, d4⟩ := hS3
    go_wp2_with (go_at_call 45; (with_reducible refine (HTT.out _).mono ?_); rintro e w' ⟨rfl, rfl⟩)
    go_ret
    show GetPost _ _ _ _ _ _ _
    rw [HX.out]
    have e : (It.text T m.toNat).get r = (v == T, (r.text (IntKind.i64.wrap ((T.length : Int) + m))).2) := by
      show (decide ((r.text ((T.length : Int) + (m.toNat : Int))).1 = T), (r.text ((T.length : Int) + (m.toNat : Int))).2) = _
      rw [← HMM.out, HWR.out, ← HV.out]
      congr 1
      by_cases h : v = T <;> simp [h]
    rw [e]
    exact ⟨rfl, hF.out _ (Below.refl _ _)⟩
  · have hX := HIT.out
    rw [if_neg (by decide), if_neg (by decide)] at hX
    have HX := Hid.mk_ hX
    clear hX hP50
    obtain ⟨v, hv⟩ : ∃ v, v = (r.raw (s.length : Int)).1 := ⟨_, rfl⟩
    have hrn := HRW.out (s.length : Int)
    rw [← hv] at hrn
    have HR := Hid.mk_ hrn
    have HV := Hid.mk_ hv
    clear hrn hv HRN HRT HRW hbd
    go_enter Tryd.func28, Tryd.ntmps28
    go_upto_region 1 with fail
    rw [← HW1.out, ← HWS.out]
    go_upto_region 8 with (go_at_call 15; (with_reducible refine (HP3.out _).mono ?_); rintro e w' ⟨rfl, rfl⟩)
    go_upto_region 9 with (go_at_call 31; (with_reducible refine HR.out.mono ?_); rintro e w3 ⟨rfl, hS3, hF⟩)
    obtain ⟨d0, d1, d2, d3, d4⟩ := hS3
    go_wp2_with fail
    go_ret
    show GetPost _ _ _ _ _ _ _
    rw [HX.out]
    have e : (It.raw s).get r = (v == s, (r.raw (s.length : Int)).2) := by
      show (decide ((r.raw (s.length : Int)).1 = s), (r.raw (s.length : Int)).2) = _
      rw [← HV.out]
      congr 1
      by_cases h : v = s <;> simp [h]
    rw [e]
    exact ⟨rfl, hF.out _ (Below.refl _ _)⟩
end
end Go.Proofs.YtdccgmfhnofabaaDoor
