/- CodecWrites: its walk. -/
import Derived.Test.YtdccgmfhnofabaaDoorE5
namespace Go.Proofs.YtdccgmfhnofabaaDoor
open Go.RowKit
set_option linter.unusedVariables false
set_option linter.unusedSimpArgs false
def ptr (b : Nat) : Value := .pointer (some ⟨b, 0, none⟩)
structure WW (w0 w : World) (o : Nat → Nat) (B C : Nat → Nat) (R : Nat → Wr) (g1 g2 : Nat) : Prop where
  sys : Sys w0 w o
  both : ∀ q, q < 2 → BothW w o (1 + q) (3 + q) (B q) (C q) (R q)
  p1 : PBlk w o g1 [ptr (B 0), ptr (B 1)] 28
  p2 : PBlk w o g2 [ptr (C 0), ptr (C 1)] 31
section
variable {w0 w w' : World} {o o' : Nat → Nat} {B C : Nat → Nat} {R : Nat → Wr} {g1 g2 : Nat}
theorem WW.step (h : WW w0 w o B C R g1 g2) {q : Nat} (hq : q < 2) {r : Wr} (hc : Ch (fun x => x = 1 + q ∨ x = 3 + q) o o' w w') (hb : BothW w' o' (1 + q) (3 + q) (B q) (C q) r) : WW w0 w' o' B C (fun x => if x = q then r else R x) g1 g2 := by
  refine ⟨h.sys.ch hc (by omega), fun p hp => ?_, h.p1.ch hc (by omega), h.p2.ch hc (by omega)⟩
  by_cases e : p = q
  · subst e
    rw [if_pos rfl]
    exact hb
  · rw [if_neg e]
    obtain ⟨h1, h2⟩ := h.both p hp
    exact ⟨h1.ch hc (by omega), h2.ch hc (by omega)⟩
theorem WW.quiet (h : WW w0 w o B C R g1 g2) (hb : Below w.heap.size w w') : WW w0 w' o B C R g1 g2 := by
  have hc : Ch (fun _ => False) o o w w' := Ch.quiet _ hb
  exact ⟨h.sys.ch hc id, fun q hq => ⟨(h.both q hq).1.ch hc id, (h.both q hq).2.ch hc id⟩, h.p1.ch hc id, h.p2.ch hc id⟩
theorem WW.same (h : WW w0 w o B C R g1 g2) {q : Nat} (hq : q < 2) (hc : Ch (fun x => x = 1 + q ∨ x = 3 + q) o o' w w') (hb : BothW w' o' (1 + q) (3 + q) (B q) (C q) (R q)) : WW w0 w' o' B C R g1 g2 := by
  have h2 := h.step hq hc hb
  have e : (fun x => if x = q then R q else R x) = R := by funext x; split <;> simp_all
  rwa [e] at h2
theorem two_cell {f : Nat → Nat} {q : Nat} (hq : q < 2) : [ptr (f 0), ptr (f 1)][q]? = some (ptr (f q)) := by
  rcases (by omega : q = 0 ∨ q = 1) with rfl | rfl <;> rfl
end
set_option maxRecDepth 100000 in
set_option maxHeartbeats 8000000 in
theorem writes_any {w : World} {a1 a2 : Int} {A3 : Option Addr} {c3 : Nat} {ops : List OpC} (h1 : i64 a1) (h2 : i64 a2) (h3 : OpsIn w w.heap.size A3 ops) (hG : Glob w) :
    Calls Tryd.prog 4 #[.int .i64 a1, .int .i64 a2, .slice A3 ops.length c3] w fun e w' => e = .returned (.bool true) ∧ Below w.heap.size w w' := by
  have HS := Hid.mk_ (size_any (c := c3) h3)
  obtain ⟨oz, hoz⟩ : ∃ o : Nat → Nat, o = fun _ => 0 := ⟨_, rfl⟩
  have S0 := Hid.mk_ (Sys.start hG)
  rw [← hoz] at S0
  have H3 := Hid.mk_ h3
  have hol := h3.len
  clear hG h3 hoz
  go_enter Tryd.func4, Tryd.ntmps4
  go_upto_if 18 with (go_at_call 12; (with_reducible refine HS.out.mono ?_); rintro e w1 ⟨R, rfl, hR0, hR1, hRt, hb⟩; have HB1 := Hid.mk_ hb; have HRT := Hid.mk_ hRt; clear hb hRt)
  by_cases hR : 2147483647 < R
  · go_wp2_with fail
    go_ret
    exact ⟨rfl, HB1.out⟩
  · have S1 := Hid.mk_ (S0.out.new HB1.out)
    have HA := Hid.mk_ (awake_any S1.out.glob)
    have HT : Hid (tot ops ≤ 2147483647) := by have := HRT.out (by omega); show tot ops ≤ 2147483647; omega
    go_upto_region 4 with (go_at_call 9; (with_reducible refine HA.out.mono ?_); rintro e w2 ⟨rfl, hb⟩; have HB2 := Hid.mk_ hb; clear hb)
    have S2 := Hid.mk_ (S1.out.new HB2.out)
    have tok1 : True := trivial
    go_upto_region 5 with (first
      | (go_at_call 13; have _t := tok1; (with_reducible refine (wnew_st a1 h1 S2.out.glob oz 1).mono ?_); rintro e w3 ⟨b1, rfl, hx1, hm1⟩; have S3 := Hid.mk_ (S2.out.step (i := 1) (by omega) hm1); have HX1 := Hid.mk_ hx1; have HM1 := Hid.mk_ hm1; clear tok1 hx1 hm1)
      | (go_at_call 13; (with_reducible refine (wnew_st a2 h2 S3.out.glob (upd oz w2.heap.size 1) 2).mono ?_); rintro e w4 ⟨b2, rfl, hx2, hm2⟩; have S4 := Hid.mk_ (S3.out.step (i := 2) (by omega) hm2); have HX2 := Hid.mk_ hx2; have HM2 := Hid.mk_ hm2; clear hx2 hm2))
    obtain ⟨o4, ho4⟩ : ∃ o, o = upd (upd oz w2.heap.size 1) w3.heap.size 2 := ⟨_, rfl⟩
    obtain ⟨w5, hw5⟩ : ∃ w5, w5 = w4.alloc (.cells #[.pointer (some ⟨b1, 0, none⟩), .pointer (some ⟨b2, 0, none⟩)] 28) := ⟨_, rfl⟩
    have hb5 : Below w4.heap.size w4 w5 := by rw [hw5]; exact (Below.refl _ _).alloc (Nat.le_refl _) _
    have hk1 := Blk.new w4 [ptr b1, ptr b2] 28
    have hk1' : Blk w5 w4.heap.size [ptr b1, ptr b2] 28 := by rw [hw5]; exact hk1
    obtain ⟨g1, hg1⟩ : ∃ g, g = w4.heap.size := ⟨_, rfl⟩
    obtain ⟨o5, ho5⟩ : ∃ o, o = upd o4 w4.heap.size 9 := ⟨_, rfl⟩
    have hc5 : ∀ P, Ch P o4 o5 w4 w5 := fun P => by rw [ho5]; exact Ch.fresh P 9 hb5
    have P1 := Hid.mk_ (show PBlk w5 o5 g1 [ptr b1, ptr b2] 28 from ⟨by rw [hg1]; exact hk1', by rw [ho5, hg1, upd_new (Nat.le_refl _)]⟩)
    have hx14 := HX1.out.other (i := 2) (by omega) HM2.out
    have hx24 := HX2.out
    have s4 := S4.out
    rw [← ho4] at hx14 hx24 s4
    have S5 := Hid.mk_ (s4.ch (hc5 (fun _ => False)) id)
    have X15 := Hid.mk_ (hx14.ch (hc5 (fun _ => False)) id)
    have X25 := Hid.mk_ (hx24.ch (hc5 (fun _ => False)) id)
    rw [← hw5, ← hg1]
    have HG1 := Hid.mk_ hg1
    clear ho4 hw5 hb5 hk1 hk1' hg1 ho5 hc5 hx14 hx24 s4 S0 S1 S2 S3 S4 HX1 HX2 HM1 HM2 HA
    have tok1 : True := trivial
    go_upto_region 6 with (first
      | (go_at_call 14; have _t := tok1; (with_reducible refine (xnew_st a1 h1 S5.out.glob o5 3).mono ?_); rintro e w6 ⟨e1, rfl, hx1, hm1⟩; have S6 := Hid.mk_ (S5.out.step (i := 3) (by omega) hm1); have HX1 := Hid.mk_ hx1; have HM1 := Hid.mk_ hm1; clear tok1 hx1 hm1)
      | (go_at_call 14; (with_reducible refine (xnew_st a2 h2 S6.out.glob (upd o5 w5.heap.size 3) 4).mono ?_); rintro e w7 ⟨e2, rfl, hx2, hm2⟩; have S7 := Hid.mk_ (S6.out.step (i := 4) (by omega) hm2); have HX2 := Hid.mk_ hx2; have HM2 := Hid.mk_ hm2; clear hx2 hm2))
    obtain ⟨w8, hw8⟩ : ∃ w8, w8 = w7.alloc (.cells #[.pointer (some ⟨e1, 0, none⟩), .pointer (some ⟨e2, 0, none⟩)] 31) := ⟨_, rfl⟩
    have hb8 : Below w7.heap.size w7 w8 := by rw [hw8]; exact (Below.refl _ _).alloc (Nat.le_refl _) _
    have hk2 := Blk.new w7 [ptr e1, ptr e2] 31
    have hk2' : Blk w8 w7.heap.size [ptr e1, ptr e2] 31 := by rw [hw8]; exact hk2
    obtain ⟨g2, hg2⟩ : ∃ g, g = w7.heap.size := ⟨_, rfl⟩
    obtain ⟨o7, ho7⟩ : ∃ o, o = upd (upd o5 w5.heap.size 3) w6.heap.size 4 := ⟨_, rfl⟩
    obtain ⟨o8, ho8⟩ : ∃ o, o = upd o7 w7.heap.size 9 := ⟨_, rfl⟩
    have hc7 : Ch (fun x => x = 3 ∨ x = 4) o5 o7 w5 w7 := by rw [ho7]; exact ((Ch.one HM1.out).mono (fun _ e => .inl e)).trans ((Ch.one HM2.out).mono (fun _ e => .inr e))
    have hc8 : ∀ P, Ch P o7 o8 w7 w8 := fun P => by rw [ho8]; exact Ch.fresh P 9 hb8
    have hww : WW w w8 o8 (fun q => if q = 0 then b1 else b2) (fun q => if q = 0 then e1 else e2) (fun q => if q = 0 then ⟨max a1 0, [], 0⟩ else ⟨max a2 0, [], 0⟩) g1 g2 := by
      refine ⟨(S5.out.ch hc7 (by omega)).ch (hc8 (fun _ => False)) id, fun q hq => ?_, (P1.out.ch hc7 (by omega)).ch (hc8 (fun _ => False)) id, ⟨by rw [hg2]; exact hk2', by rw [ho8, hg2, upd_new (Nat.le_refl _)]⟩⟩
      have y1 := HX1.out.other (i := 4) (by omega) HM2.out
      have y2 := HX2.out
      rw [← ho7] at y1 y2
      rcases (by omega : q = 0 ∨ q = 1) with rfl | rfl
      · exact ⟨(X15.out.ch hc7 (by omega)).ch (hc8 (fun _ => False)) id, y1.ch (hc8 (fun _ => False)) id⟩
      · exact ⟨(X25.out.ch hc7 (by omega)).ch (hc8 (fun _ => False)) id, y2.ch (hc8 (fun _ => False)) id⟩
    have hlw : ∀ q, q < 2 → ((fun q => if q = 0 then (⟨max a1 0, [], 0⟩ : Wr) else ⟨max a2 0, [], 0⟩) q).l.length ≤ tot (ops.take 0) := fun q hq => by
      rcases (by omega : q = 0 ∨ q = 1) with rfl | rfl <;> simp
    have f1 := hww.p1.1.cell 0
    have f2 := hww.p1.1.cell 1
    have hgl1 := hww.p1.1.lt
    rw [← hw8, ← hg2]
    obtain ⟨B, hB⟩ : ∃ B : Nat → Nat, B = fun q => if q = 0 then b1 else b2 := ⟨_, rfl⟩
    obtain ⟨C, hC⟩ : ∃ C : Nat → Nat, C = fun q => if q = 0 then e1 else e2 := ⟨_, rfl⟩
    obtain ⟨R0, hR0e⟩ : ∃ R0 : Nat → Wr, R0 = fun q => if q = 0 then (⟨max a1 0, [], 0⟩ : Wr) else ⟨max a2 0, [], 0⟩ := ⟨_, rfl⟩
    rw [← hB, ← hC, ← hR0e] at hww
    rw [← hR0e] at hlw
    have HWW := Hid.mk_ hww
    have HLW := Hid.mk_ hlw
    clear hw8 hb8 hk2 hk2' hg2 ho7 ho8 hc7 hc8 hww hB hC hR0e S5 S6 S7 X15 X25 P1 HX1 HX2 HM1 HM2 hlw
    simp only [ptr, if_pos, List.getElem?_cons_zero, List.getElem?_cons_succ] at f1 f2
    go_wp2_with fail
    clear f1 f2 hgl1
    go_loopw [10] (fun x10 wr => ∃ (k : Nat) (o : Nat → Nat) (Rf : Nat → Wr), k ≤ ops.length ∧ x10 = .int .i64 (k : Int) ∧ Hid (WW w wr o B C Rf g1 g2) ∧ Hid (∀ q, q < 2 → (Rf q).l.length ≤ tot (ops.take k))) (fun x10 _ => ops.length - (intOf x10).toNat)
    case atStart => exact ⟨0, o8, R0, Nat.zero_le _, rfl, HWW, HLW⟩
    case round =>
      obtain ⟨k, o, Rf, hk, rfl, HW, HL⟩ := hrel
      by_cases hlt : k < ops.length
      · have hlt1 : (k : Int) < ops.length := by omega
        have hin := H3.out.new HW.out.sys.below
        obtain ⟨g, p, rfl, hg, hc⟩ := hin.at_ (by omega)
        obtain ⟨d0, d1, d2, d3, d4⟩ := hc k hlt
        have hok := hin.each _ (List.getElem_mem hlt)
        have htt := tot_take ops k hlt
        have htl := tot_le ops (k + 1)
        obtain ⟨op, hop⟩ : ∃ op, op = ops[k]'hlt := ⟨_, rfl⟩
        rw [← hop] at d0 d1 d2 d3 d4 hok htt
        have hpr := pickI_range op.on 2 (by omega)
        have HP := Hid.mk_ (fun W => pick_at (c := op.on) (n := 2) rfl (by omega) hok.on W)
        obtain ⟨q, hq⟩ : ∃ q : Nat, (q : Int) = pickI op.on 2 := ⟨(pickI op.on 2).toNat, by omega⟩
        rw [← hq] at hpr HP
        have hq2 : q < 2 := by omega
        have hq2i : (q : Int) < 2 := by omega
        have v1 : wr.cell? ⟨g1, q, none⟩ = some (.pointer (some ⟨B q, 0, none⟩)) := by rw [HW.out.p1.1.cell q]; exact two_cell hq2
        have v2 : wr.cell? ⟨g2, q, none⟩ = some (.pointer (some ⟨C q, 0, none⟩)) := by rw [HW.out.p2.1.cell q]; exact two_cell hq2
        have hbd : Below wr.heap.size wr wr.drew := Below.drew (Below.refl _ wr)
        have hlq := HL.out q hq2
        have hst := writes_st (op := op) ((HW.out.both q hq2).1.new hbd) ((HW.out.both q hq2).2.new hbd) (by omega) (by omega) hok (by have := HT.out; omega)
        have HST := Hid.mk_ hst
        have HWD := Hid.mk_ (HW.out.quiet hbd)
        have hlen2 : ∀ p, p < 2 → (if p = q then (Rf q).step op else Rf p).l.length ≤ tot (ops.take (k + 1)) := fun p hp => by
          split
          · have := step_len (Rf q) op
            omega
          · have := HL.out p hp
            omega
        obtain ⟨Rf2, hRf2⟩ : ∃ Rf2 : Nat → Wr, Rf2 = fun x => if x = q then (Rf q).step op else Rf x := ⟨_, rfl⟩
        have HL2 : Hid (∀ p, p < 2 → (Rf2 p).l.length ≤ tot (ops.take (k + 1))) := fun p hp => by rw [hRf2]; exact hlen2 p hp
        have HR2 := Hid.mk_ hRf2
        have HOP := Hid.mk_ hop
        have HTT := Hid.mk_ htt
        obtain ⟨kd, on, sz, n, s⟩ := op
        unfold OpC.agg at HST
        simp only at d0 d1 d2 d3 d4 HP HST
        clear hst hok hop hlen2 hRf2 hlq hc hin htt htl hq hpr
        go_upto_region 12 with (go_at_call 15; (with_reducible refine (HP.out _).mono ?_); rintro e w' ⟨rfl, rfl⟩)
        refine still_tail_drew 12 (by kernel_rfl) (by kernel_rfl) ?_
        simp only [List.take_succ_cons, List.take_zero, List.drop_succ_cons, List.drop_zero]
        repeat still_step
        refine wpStill_nil ?_
        go_upto_block 2 with (go_at_call 16; (with_reducible refine HST.out.mono ?_); rintro e w9 ⟨rfl, o9, hch, hbo⟩; have HCH := Hid.mk_ hch; have HBO := Hid.mk_ hbo; clear hch hbo)
        have hw9 := HWD.out.step hq2 HCH.out HBO.out
        have er : (Rf q).step ⟨kd, on, sz, n, s⟩ = (Rf q).step ⟨kd, on, sz, n, s⟩ := rfl
        rw [← HR2.out] at hw9
        have HW9 := Hid.mk_ hw9
        clear hw9 er v1 v2 d0 d1 d2 d3 d4 hbd
        go_wp2_with fail
        go_loopw [12] (fun x12 wr => ∃ (j : Nat) (o : Nat → Nat), j ≤ 2 ∧ x12 = .int .i64 (j : Int) ∧ Hid (WW w wr o B C Rf2 g1 g2)) (fun x12 _ => 2 - (intOf x12).toNat)
        case atStart => exact ⟨0, o9, by omega, rfl, HW9⟩
        case round =>
          obtain ⟨j, oj, hj, rfl, HWj⟩ := hrel
          by_cases hj2 : j < 2
          · have hj1 : (j : Int) < 2 := by omega
            have v1 : wr.cell? ⟨g1, j, none⟩ = some (.pointer (some ⟨B j, 0, none⟩)) := by rw [HWj.out.p1.1.cell j]; exact two_cell hj2
            have v2 : wr.cell? ⟨g2, j, none⟩ = some (.pointer (some ⟨C j, 0, none⟩)) := by rw [HWj.out.p2.1.cell j]; exact two_cell hj2
            have hbd : Below wr.heap.size wr wr.drew := Below.drew (Below.refl _ wr)
            have HWD2 := Hid.mk_ (HWj.out.quiet hbd)
            have HWR := Hid.mk_ (written_st HWD2.out.sys.glob (HWD2.out.both j hj2).1 (HWD2.out.both j hj2).2 (by omega))
            clear hbd
            go_wp2_with fail
            refine still_tail_drew 8 (by kernel_rfl) (by kernel_rfl) ?_
            simp only [List.take_succ_cons, List.take_zero, List.drop_succ_cons, List.drop_zero]
            repeat still_step
            refine wpStill_nil ?_
            go_wp2_with (go_at_call 17; (with_reducible refine HWR.out.mono ?_); rintro e w10 ⟨rfl, o10, hch, hbo⟩)
            exact ⟨⟨j + 1, o10, by omega, by go_num, HWD2.out.same hj2 hch hbo⟩, by simp [intOf]; omega⟩
          · have hj1 : ¬ (j : Int) < 2 := by omega
            go_wp2_with fail
            exact ⟨⟨k + 1, oj, Rf2, by omega, by go_num, HWj, HL2⟩, by simp [intOf]; omega⟩
      · have hlt1 : ¬ (k : Int) < ops.length := by omega
        have v1 : wr.cell? ⟨g1, 0, none⟩ = some (.pointer (some ⟨B 0, 0, none⟩)) := by rw [HW.out.p1.1.cell 0]; exact two_cell (f := B) (q := 0) (by omega)
        have v2 : wr.cell? ⟨g2, 0, none⟩ = some (.pointer (some ⟨C 0, 0, none⟩)) := by rw [HW.out.p2.1.cell 0]; exact two_cell (f := C) (q := 0) (by omega)
        have hbd : Below wr.heap.size wr wr.drew := Below.drew (Below.refl _ wr)
        have HWD2 := Hid.mk_ (HW.out.quiet hbd)
        have HWR := Hid.mk_ (written_st HWD2.out.sys.glob (HWD2.out.both 0 (by omega)).1 (HWD2.out.both 0 (by omega)).2 (by omega))
        clear hbd
        go_wp2_with fail
        refine still_tail_drew 6 (by kernel_rfl) (by kernel_rfl) ?_
        simp only [List.take_succ_cons, List.take_zero, List.drop_succ_cons, List.drop_zero]
        repeat still_step
        refine wpStill_nil ?_
        go_upto_region 20 with (go_at_call 17; (with_reducible refine HWR.out.mono ?_); rintro e w10 ⟨rfl, o10, hch, hbo⟩; have HCH := Hid.mk_ hch; have HBO := Hid.mk_ hbo; clear hch hbo)
        have hw10 := HWD2.out.same (q := 0) (by omega) HCH.out HBO.out
        have HW10 := Hid.mk_ hw10
        clear hw10 v1 v2
        have v1 : w10.cell? ⟨g1, 1, none⟩ = some (.pointer (some ⟨B 1, 0, none⟩)) := by rw [HW10.out.p1.1.cell 1]; exact two_cell (f := B) (q := 1) (by omega)
        have v2 : w10.cell? ⟨g2, 1, none⟩ = some (.pointer (some ⟨C 1, 0, none⟩)) := by rw [HW10.out.p2.1.cell 1]; exact two_cell (f := C) (q := 1) (by omega)
        have hbd : Below w10.heap.size w10 w10.drew := Below.drew (Below.refl _ w10)
        have HWD3 := Hid.mk_ (HW10.out.quiet hbd)
        have HWR2 := Hid.mk_ (written_st HWD3.out.sys.glob (HWD3.out.both 1 (by omega)).1 (HWD3.out.both 1 (by omega)).2 (by omega))
        clear hbd
        refine still_tail_drew 6 (by kernel_rfl) (by kernel_rfl) ?_
        simp only [List.take_succ_cons, List.take_zero, List.drop_succ_cons, List.drop_zero]
        repeat still_step
        refine wpStill_nil ?_
        go_wp2_with (go_at_call 17; (with_reducible refine HWR2.out.mono ?_); rintro e w11 ⟨rfl, o11, hch, hbo⟩; have HW11 := Hid.mk_ (HWD3.out.same (q := 1) (by omega) hch hbo); clear hch hbo)
        go_ret
        exact ⟨rfl, HW11.out.sys.below⟩
end Go.Proofs.YtdccgmfhnofabaaDoor
