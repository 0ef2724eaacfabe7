/- DdPlays: its walk. -/
import Derived.Test.YtmfdcaalbpikpaaX26
namespace Go.Proofs.Ytmfdcaalbpikpaa
open Go.RowKit Go.Maps
set_option linter.unusedVariables false
set_option linter.unusedSimpArgs false
/-- a step that is about to be made -/
structure AStep (B n : Nat) (w0 W : World) (wb ab xb : Nat) (S : List Int) (M : Int) (lv : Value) (es : List Value) (N : List Nd) (zp zr : List Nat) (bt : Nat) (o : OpD) : Prop where
  ds : DS B n w0 W wb ab xb S M lv es N zp zr
  fit : OpFit W zp zr o
  blk : Blk W bt o.cells 37
section
variable {w w' w0 : World} {A1 A2 : Option Addr} {S0 : List Int} {ops : List OpD} {c1 c2 : Nat} {M0 : Int}
set_option maxRecDepth 100000 in
set_option maxHeartbeats 16000000 in
theorem ddplays_any (h1 : IntsIn w A1 S0) (h2 : ScrIn w A2 ops) : Calls Try.prog 5 #[.slice A1 S0.length c1, .int .i64 M0, .slice A2 ops.length c2] w fun e w' => e = .returned (.bool true) ∧ Below w.heap.size w w' := by
  have HI := Hid.mk_ h1
  have HO := Hid.mk_ h2
  have hl2 := h2.len
  have HKN := Hid.mk_ (known_any w)
  clear h1 h2
  by_cases hS : Sized S0 M0
  · have HSZ := Hid.mk_ hS
    clear hS
    go_enter Try.func5, Try.ntmps5
    go_upto_region 2 with (go_at_call 6; (with_reducible refine HKN.out.mono ?_); rintro e w1 ⟨rfl, hb⟩; have HB1 := Hid.mk_ hb; clear hb)
    have HNW := Hid.mk_ (new_ok (c := c1) (HI.out.new HB1.out) HSZ.out)
    go_upto_region 3 with (go_at_call 8; (with_reducible refine HNW.out.mono ?_); rintro e w5 ⟨ab, zp, rfl, hpa, hz, hb5⟩; have HPA := Hid.mk_ hpa; have HZ := Hid.mk_ hz; have HB5 := Hid.mk_ hb5; clear hpa hz hb5)
    have HRN := Hid.mk_ (rnew_any (c := c1) (M := M0) ((HI.out.new HB1.out).new HB5.out))
    go_upto_region 4 with (go_at_call 11; (with_reducible refine HRN.out.mono ?_); rintro e w6 hpost; obtain ⟨hok, _, hb6⟩ := hpost; obtain ⟨xb, zr, rfl, hra, hzr⟩ := hok HSZ.out; have HRA := Hid.mk_ hra; have HZR := Hid.mk_ hzr; have HB6 := Hid.mk_ hb6; clear hok hra hzr hb6)
    go_upto_region 9 with fail
    obtain ⟨w7, hw7⟩ : ∃ W, W = w6.alloc (.cells #[.pointer (some ⟨ab, 0, none⟩), .pointer (some ⟨xb, 0, none⟩), .slice none 0 0] 47) := ⟨_, rfl⟩
    obtain ⟨wb, hwb⟩ : ∃ b, b = w6.heap.size := ⟨_, rfl⟩
    rw [← hw7, ← hwb]
    have hb7 : Below w6.heap.size w6 w7 := by rw [hw7]; exact (Below.refl _ _).alloc (Nat.le_refl _) _
    have hk7 : Blk w7 wb [.pointer (some ⟨ab, 0, none⟩), .pointer (some ⟨xb, 0, none⟩), .slice none 0 0] 47 := by rw [hw7, hwb]; exact Blk.new w6 _ 47
    have t0 := HB1.out.size
    have t2 := HB5.out.size
    have t3 := HB6.out.size
    have t7 := hb7.size
    have hwl := hk7.lt
    have hds : DS w.heap.size 0 w w7 wb ab xb S0 M0 (.slice none 0 0) [] [] zp zr := by
      refine ⟨⟨hk7, (HPA.out.new HB6.out).new hb7, HRA.out.new hb7, fun k hk hkr => ?_, fun hk => ?_, fun hk => ?_⟩, ⟨hk7, Row.nil _ _ _, fun v hv => by simp at hv, fun i j hi => by simp at hi⟩, fun k ⟨v, hv, _⟩ => by simp at hv, fun k hk => by simp [Value.ownBlock] at hk, ((HB1.out.trans (HB5.out.mono t0)).trans (HB6.out.mono (by omega))).trans (hb7.mono (by omega)), fun k hk => ?_, fun k hk => ?_, by omega, by simp⟩
      · have := HPA.out.zlt hk; have := HZR.out k hkr; omega
      · have := HPA.out.zlt hk; omega
      · have := HRA.out.zlt hk; omega
      · rcases hk with e | e
        · have := HZ.out k e; omega
        · have := HZR.out k e; omega
      · rcases hk with (e | e) | ⟨v, hv, _⟩
        · omega
        · simp [Value.ownBlock] at e
        · simp at hv
    have HDS := Hid.mk_ hds
    clear hw7 hwb hb7 hk7 t0 t2 t3 t7 hds hwl
    go_wp2_with fail
    go_loopw [13] (fun x13 wr => ∃ (j : Nat), j ≤ ops.length ∧ x13 = .int .i64 (j : Int) ∧ Hid (DState w.heap.size j w wr wb ab xb S0 M0)) (fun x13 _ => ops.length - (intOf x13).toNat)
    case atStart => exact ⟨0, Nat.zero_le _, rfl, _, _, _, _, _, HDS.out⟩
    case round =>
      obtain ⟨j, hj, rfl, HL0⟩ := hrel
      obtain ⟨lv, es, N, zp1, zr1, hds1⟩ := HL0.out
      have HD1 := Hid.mk_ hds1
      clear hds1
      by_cases hjl : j < ops.length
      · have hjl1 : (j : Int) < ops.length := by omega
        obtain ⟨g, o, rfl, hg, hcs⟩ := HO.out.cell (by omega)
        obtain ⟨op, hop⟩ : ∃ op, op = ops[j]'hjl := ⟨_, rfl⟩
        have hok := HO.out.ok op (by rw [hop]; exact List.getElem_mem hjl)
        have hc : ∀ r, r < 9 → wr.cell? ⟨g, o + j * 9 + r, none⟩ = op.cells[r]? := fun r hr => (HD1.out.bl.cell (p := ⟨g, o + j * 9 + r, none⟩) hg).trans (by rw [hop]; exact hcs j hjl r hr)
        have hgl : g < wr.heap.size := Nat.lt_of_lt_of_le hg HD1.out.bl.size
        have hfit := OpFit.asked HD1.out rfl hok.1 hok.2.2.1 hok.2.2.2
        have HFIT := Hid.mk_ hfit
        have H64 := Hid.mk_ hok.2.1
        obtain ⟨w1', hw1⟩ : ∃ W, W = wr.alloc (.cells op.cells.toArray 37) := ⟨_, rfl⟩
        obtain ⟨bt, hbt⟩ : ∃ b, b = wr.heap.size := ⟨_, rfl⟩
        have hb1 : Below wr.heap.size wr w1' := by rw [hw1]; exact (Below.refl _ _).alloc (Nat.le_refl _) _
        have hk1 : Blk w1' bt op.cells 37 := by rw [hw1, hbt]; exact Blk.new wr _ 37
        have hd1 := HD1.out.new hb1
        have hnr := near_any (o := op) hd1.ws ((hok.1.new HD1.out.bl).new hb1) hok.2.1
        have HNR := Hid.mk_ hnr
        have HB1' := Hid.mk_ hb1
        have HK1 := Hid.mk_ hk1
        have HDN := Hid.mk_ hd1
        have HBT := Hid.mk_ hbt
        have HW1 := Hid.mk_ hw1
        have k0 := hk1.cell 0
        have k1 := hk1.cell 1
        have k2 := hk1.cell 2
        have k3 := hk1.cell 3
        have k4 := hk1.cell 4
        have k5 := hk1.cell 5
        have k6 := hk1.cell 6
        have k7 := hk1.cell 7
        have k8 := hk1.cell 8
        have kl := hk1.lt
        clear hcs hop hok hfit hb1 hk1 hd1 hnr hbt hw1
        obtain ⟨near, wh, f0, g0, h0, l0, c0, A0, cA0, ins0, B0, cB0, cls0⟩ := op
        have d0 : wr.cell? ⟨g, o + j * 9, none⟩ = some (.bool near) := hc 0 (by omega)
        have d1 := hc 1 (by omega)
        have d2 := hc 2 (by omega)
        have d3 := hc 3 (by omega)
        have d4 := hc 4 (by omega)
        have d5 := hc 5 (by omega)
        have d6 := hc 6 (by omega)
        have d7 := hc 7 (by omega)
        have d8 := hc 8 (by omega)
        simp only [OpD.cells] at d1 d2 d3 d4 d5 d6 d7 d8 k0 k1 k2 k3 k4 k5 k6 k7 k8 HW1
        unfold OpD.agg at HNR
        simp only at HNR
        clear hc
        go_upto_if 66 with fail
        rw [← HW1.out, ← HBT.out]
        clear d0 d1 d2 d3 d4 d5 d6 d7 d8 hgl
        go_cut [] from 65 to 69 (fun wx => ∃ o2 : OpD, Hid (AStep w.heap.size j w wx wb ab xb S0 M0 lv es N zp1 zr1 bt o2))
        case first =>
          cases near with
          | false =>
            go_wp2_with fail
            go_meet
            exact ⟨_, ⟨HDN.out, HFIT.out.new HB1'.out, HK1.out⟩⟩
          | true =>
            go_wp2_with (go_at_call 12; (with_reducible refine HNR.out.mono ?_); rintro e w3 ⟨⟨near', wh', f', g', h', l', c', A', cA', ins', B', cB', cls'⟩, rfl, hwh, hok', hg', hmore, hil', hfar', hb3, hcl', hbf'⟩; have HBF' := Hid.mk_ hbf'; simp only [OpD.agg]; have HOK' := Hid.mk_ hok'; have HIL' := Hid.mk_ hil'; have HFAR' := Hid.mk_ hfar'; have HB3 := Hid.mk_ hb3; have HCL' := Hid.mk_ hcl'; have hk3 := HK1.out.below hb3 HK1.out.lt; have HK3 := Hid.mk_ hk3; have q0 := hk3.cell 0; have q1 := hk3.cell 1; have q2 := hk3.cell 2; have q3 := hk3.cell 3; have q4 := hk3.cell 4; have q5 := hk3.cell 5; have q6 := hk3.cell 6; have q7 := hk3.cell 7; have q8 := hk3.cell 8; simp only [OpD.cells] at q0 q1 q2 q3 q4 q5 q6 q7 q8; have r0 := hk3.free 0; have r1 := hk3.free 1; have r2 := hk3.free 2; have r3 := hk3.free 3; have r4 := hk3.free 4; have r5 := hk3.free 5; have r6 := hk3.free 6; have r7 := hk3.free 7; have r8 := hk3.free 8; have rl := hk3.lt; clear hwh hok' hg' hmore hil' hfar' hb3 hcl' hbf' hk3)
            go_meet
            have hm : Mods (fun k => k = bt) w3 (((((((((w3.setCell ⟨bt, 0, none⟩ (.bool near')).setCell ⟨bt, 1, none⟩ (.int .i64 wh')).setCell ⟨bt, 2, none⟩ (.int .i64 f')).setCell ⟨bt, 3, none⟩ (.int .i64 g')).setCell ⟨bt, 4, none⟩ (.int .i64 h')).setCell ⟨bt, 5, none⟩ (.int .i64 l')).setCell ⟨bt, 6, none⟩ (.int .i64 c')).setCell ⟨bt, 7, none⟩ (.slice A' ins'.length cA')).setCell ⟨bt, 8, none⟩ (.slice B' cls'.length cB')) :=
              ((((((((((Mods.refl (fun k => k = bt) w3).setCell (p := ⟨bt, 0, none⟩) (fun _ => rfl) _).setCell (p := ⟨bt, 1, none⟩) (fun _ => rfl) _).setCell (p := ⟨bt, 2, none⟩) (fun _ => rfl) _).setCell (p := ⟨bt, 3, none⟩) (fun _ => rfl) _).setCell (p := ⟨bt, 4, none⟩) (fun _ => rfl) _).setCell (p := ⟨bt, 5, none⟩) (fun _ => rfl) _).setCell (p := ⟨bt, 6, none⟩) (fun _ => rfl) _).setCell (p := ⟨bt, 7, none⟩) (fun _ => rfl) _).setCell (p := ⟨bt, 8, none⟩) (fun _ => rfl) _)
            have hblk := ((((((((HK3.out.set 0 (.bool near')).set 1 (.int .i64 wh')).set 2 (.int .i64 f')).set 3 (.int .i64 g')).set 4 (.int .i64 h')).set 5 (.int .i64 l')).set 6 (.int .i64 c')).set 7 (.slice A' ins'.length cA')).set 8 (.slice B' cls'.length cB')
            have hd3 := HDN.out.new HB3.out
            have e1 := HBT.out
            have e2 := HK1.out.lt
            refine ⟨⟨near', wh', f', g', h', l', c', A', cA', ins', B', cB', cls'⟩, ⟨hd3.aside hm (fun e => ?_) (fun e => ?_) ?_, (OpFit.near (o0 := ⟨near', wh', f', g', h', l', c', A', cA', ins', B', cB', cls'⟩) HDN.out HOK'.out HIL'.out HFAR'.out HCL'.out).aside hm (fun g p e h0 eb => ?_) (fun g p e eb => ?_), hblk⟩⟩
            · have := HD1.out.ws.lt (.inl e); omega
            · have := HD1.out.bk.zlt bt e; omega
            · have := HD1.out.bs; omega
            · have := HFAR'.out g p e h0; omega
            · have := HBF'.out g p e; omega
        case rest =>
          obtain ⟨o2, HST⟩ := hcut
          obtain ⟨near, wh, f0, g0, h0, l0, c0, A0, cA0, ins0, B0, cB0, cls0⟩ := o2
          have HLEN := Hid.mk_ (rlen_at HST.out.ds.ws.ra)
          have k0 := HST.out.blk.cell 0
          have k1 := HST.out.blk.cell 1
          have k2 := HST.out.blk.cell 2
          have k3 := HST.out.blk.cell 3
          have k4 := HST.out.blk.cell 4
          have k5 := HST.out.blk.cell 5
          have k6 := HST.out.blk.cell 6
          have k7 := HST.out.blk.cell 7
          have k8 := HST.out.blk.cell 8
          have kl := HST.out.blk.lt
          simp only [OpD.cells] at k0 k1 k2 k3 k4 k5 k6 k7 k8
          have hlk := looks_any HST.out.ds (by omega) HST.out.fit
          have hmk := makes_any HST.out.ds HST.out.fit
          unfold OpD.agg at hlk hmk
          simp only at hlk hmk
          have HLK := Hid.mk_ hlk
          have HMK := Hid.mk_ hmk
          clear hlk hmk
          go_upto_region 17 with (go_at_call 19; (with_reducible refine HLEN.out.mono ?_); rintro e w' ⟨rfl, rfl⟩)
          go_cut [79] from 72 to 79 (fun x79 wx => ∃ b : Bool, x79 = .bool b ∧ wc = wx)
          case first =>
            go_wp2_with fail
            all_goals (go_meet; exact ⟨_, rfl, rfl⟩)
          case rest =>
          obtain ⟨b, rfl, rfl⟩ := hcut
          go_upto_if 79 with fail
          go_cut [16, 17, 18, 19, 20] from 80 to 98 (fun x16 x17 x18 x19 x20 wx => x16 = .bool true ∧ Hid (DState w.heap.size (j + 1) w wx wb ab xb S0 M0))
          case first =>
            cases b with
            | true =>
              go_wp2_with (go_at_call 20; (with_reducible refine HLK.out.mono ?_); rintro e w3 ⟨rfl, hd3⟩)
              go_meet
              exact ⟨rfl, hd3⟩
            | false =>
              go_wp2_with (go_at_call 13; (with_reducible refine HMK.out.mono ?_); rintro e w3 ⟨p3, q3, rfl, hd3⟩; have tp : (p3 == p3) = true := (by simp); have tq : (q3 == q3) = true := (by simp))
              go_meet
              exact ⟨rfl, hd3⟩
          case rest =>
            obtain ⟨rfl, HD3⟩ := hcut
            obtain ⟨lv3, es3, N3, zp3, zr3, hds3⟩ := HD3.out
            have HDS3 := Hid.mk_ hds3
            have HLEN3 := Hid.mk_ (rlen_at hds3.ws.ra)
            clear hds3 k0 k1 k2 k3 k4 k5 k6 k7 k8 kl
            rcases Nat.lt_or_ge N3.length N.length with hmn | hmn
            · have m1 : ¬ (N.length : Int) < N3.length := by omega
              have m2 : ¬ (N.length : Int) ≤ N3.length := by omega
              have m3 : (N3.length : Int) < N.length := by omega
              have m4 : (N3.length : Int) ≤ N.length := by omega
              have HND := Hid.mk_ (nodes_same (k0 := N3.length) HDS3.out.ws (by omega))
              have HMN := Hid.mk_ hmn
              clear hmn
              go_wp2_with (first
                | (go_at_call 19; (with_reducible refine HLEN3.out.mono ?_); rintro e w' ⟨rfl, rfl⟩)
                | (go_at_call 21; (with_reducible refine HND.out.mono ?_); rintro e w4 ⟨rfl, hb4⟩; have HB4 := Hid.mk_ hb4; clear hb4))
              exact ⟨⟨j + 1, by omega, by go_num, _, _, _, _, _, HDS3.out.new HB4.out⟩, by simp [intOf]; omega⟩
            · have m2 : (N.length : Int) ≤ N3.length := by omega
              have m3 : ¬ (N3.length : Int) < N.length := by omega
              have HND := Hid.mk_ (nodes_same (k0 := N.length) HDS3.out.ws (by omega))
              have HMN := Hid.mk_ hmn
              clear hmn
              go_wp2_with (first
                | (go_at_call 19; (with_reducible refine HLEN3.out.mono ?_); rintro e w' ⟨rfl, rfl⟩)
                | (go_at_call 21; (with_reducible refine HND.out.mono ?_); rintro e w4 ⟨rfl, hb4⟩; have HB4 := Hid.mk_ hb4; clear hb4))
              exact ⟨⟨j + 1, by omega, by go_num, _, _, _, _, _, HDS3.out.new HB4.out⟩, by simp [intOf]; omega⟩
      · have hke : j = ops.length := by omega
        subst hke
        have hlt1 : ¬ ((ops.length : Nat) : Int) < ops.length := by omega
        have hlen := HD1.out.len
        obtain ⟨ls, hown⟩ := HD1.out.bk.own (by omega)
        have HOW := Hid.mk_ (owned_any hown)
        clear hown
        go_wp2_with (go_at_call 22; (with_reducible refine HOW.out.mono ?_); rintro e w9 ⟨rfl, hm9⟩; have HM9 := Hid.mk_ hm9; clear hm9)
        go_ret
        exact ⟨rfl, HD1.out.bl.trans (HM9.out.below HD1.out.bs (fun k _ e => HD1.out.g2 k (.inr e)))⟩
  · have HNS := Hid.mk_ hS
    clear hS
    go_enter Try.func5, Try.ntmps5
    go_upto_region 2 with (go_at_call 6; (with_reducible refine HKN.out.mono ?_); rintro e w1 ⟨rfl, hb⟩; have HB1 := Hid.mk_ hb; clear hb)
    have HNW := Hid.mk_ (new_bad (c := c1) (HI.out.new HB1.out) HNS.out)
    go_upto_region 3 with (go_at_call 8; (with_reducible refine HNW.out.mono ?_); rintro e w5 ⟨rfl, hb5⟩; have HB5 := Hid.mk_ hb5; clear hb5)
    have HRN := Hid.mk_ (rnew_any (c := c1) (M := M0) ((HI.out.new HB1.out).new HB5.out))
    go_upto_region 4 with (go_at_call 11; (with_reducible refine HRN.out.mono ?_); rintro e w6 hpost; obtain ⟨_, hno, hb6⟩ := hpost; obtain rfl := hno HNS.out; have HB6 := Hid.mk_ hb6; clear hno hb6)
    go_wp2_with fail
    go_ret
    exact ⟨rfl, (HB1.out.trans (HB5.out.mono HB1.out.size)).trans (HB6.out.mono (by have := HB1.out.size; have := HB5.out.size; omega))⟩
end
end Go.Proofs.Ytmfdcaalbpikpaa
