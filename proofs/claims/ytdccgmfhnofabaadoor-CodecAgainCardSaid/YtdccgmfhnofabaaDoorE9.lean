/- CodecAgain: its walk. -/
import Derived.Test.YtdccgmfhnofabaaDoorE8
import Derived.Test.YtdccgmfhnofabaaDoorP5
namespace Go.Proofs.YtdccgmfhnofabaaDoor
open Go.RowKit
set_option linter.unusedVariables false
set_option linter.unusedSimpArgs false
def AgPost (w : World) (o : Nat → Nat) (i j b c : Nat) (r : Rd) (W : Wr) (e : Ending) (w' : World) : Prop := e = .returned (.tuple #[]) ∧ ∃ o', Ch (fun x => x = i ∨ x = j) o o' w w' ∧ RSt w' o' i b r ∧ WSt w' o' j c W
section
variable {w w' : World} {o : Nat → Nat} {i j b c : Nat} {r : Rd} {W : Wr} {op : OpC}
theorem join_a {v1 : Value} {r2 : Rd} {W2 : Wr} {e1 e2 : Ending} {w1 w2 : World} (hij : i ≠ j) (hA : ROp w o i b v1 r2 e1 w1) (hB : WOp w1 (upd o w.heap.size i) j c W2 e2 w2) : ∃ o', Ch (fun x => x = i ∨ x = j) o o' w w2 ∧ RSt w2 o' i b r2 ∧ WSt w2 o' j c W2 :=
  ⟨_, (Ch.one hA.2.2).mono (fun _ e => .inl e) |>.trans ((Ch.one hB.2.2).mono (fun _ e => .inr e)), hA.2.1.other hij hB.2.2, hB.2.1⟩
set_option maxRecDepth 100000 in
set_option maxHeartbeats 4000000 in
theorem again_st (hA : RSt w o i b r) (hB : WSt w o j c W) (hij : i ≠ j) (hi8 : i ≠ 8) (hj8 : j ≠ 8) (ho : OpOk op) (hlen : W.l.length + r.s.length ≤ 140737488355200) :
    Calls Tryd.prog 29 #[.pointer (some ⟨b, 0, none⟩), .pointer (some ⟨c, 0, none⟩), op.agg] w (AgPost w o i j b c (agR r op.kind op.size op.n) (agW W r op.kind op.size op.n)) := by
  obtain ⟨w1, hw1⟩ : ∃ w1, w1 = w.alloc (.cells op.cells.toArray 36) := ⟨_, rfl⟩
  obtain ⟨o1, ho1⟩ : ∃ o1, o1 = upd o w.heap.size 8 := ⟨_, rfl⟩
  have hb1 : Below w.heap.size w w1 := by rw [hw1]; exact (Below.refl _ _).alloc (Nat.le_refl _) _
  have hk := Blk.new w op.cells 36
  rw [← hw1] at hk
  have hcf : ∀ P, Ch P o o1 w w1 := fun P => by rw [ho1]; exact Ch.fresh P 8 hb1
  have hne : ¬ o1 w.heap.size = i := by rw [ho1, upd_new (Nat.le_refl _)]; exact fun e => hi8 e.symm
  obtain ⟨ws, hws⟩ : ∃ ws, ws = w.heap.size := ⟨_, rfl⟩
  rw [← hws] at hk hne
  have HWS := Hid.mk_ hws
  have HNE := Hid.mk_ hne
  have hwl : ws < w1.heap.size := hk.lt
  have ho8 : o1 ws = 8 := by rw [ho1, hws, upd_new (Nat.le_refl _)]
  have HNJ : Hid (∀ u : World, u.heap.size = w1.heap.size → ¬ (upd o1 u.heap.size i) ws = j) := fun u hu => by rw [upd_old (by omega), ho8]; exact fun e => hj8 e.symm
  have hA1 := hA.ch (hcf (fun _ => False)) id
  have hB1 := hB.ch (hcf (fun _ => False)) id
  have HQ := Hid.mk_ (hcf (fun x => x = i ∨ x = j))
  have c0 := hk.cell 0
  have c2 := hk.cell 2
  have c3 := hk.cell 3
  have hkl := hk.lt
  have hbd : Below w1.heap.size w1 w1.drew := Below.drew (Below.refl _ w1)
  have HAD := Hid.mk_ (hA1.new hbd)
  have HBD := Hid.mk_ (hB1.new hbd)
  have HA := Hid.mk_ hA1
  have HB := Hid.mk_ hB1
  have HFIN : Hid (∀ (v1 : Value) (r2 : Rd) (W2 : Wr) e1 e2 u W1 W3, Below w1.heap.size w1 u → u.heap.size = w1.heap.size → ROp u o1 i b v1 r2 e1 W1 → WOp W1 (upd o1 u.heap.size i) j c W2 e2 W3 → ∃ o', Ch (fun x => x = i ∨ x = j) o o' w W3 ∧ RSt W3 o' i b r2 ∧ WSt W3 o' j c W2) := fun v1 r2 W2 e1 e2 u W1 W3 hu hus h1 h2 => by
    obtain ⟨o', h3, h4⟩ := join_a hij h1 h2
    exact ⟨o', HQ.out.trans ((Ch.quiet _ hu).trans h3), h4⟩
  have HX : Hid (∀ (v1 : Value) (r2 : Rd) e1 u W1, WSt u o1 j c W → ROp u o1 i b v1 r2 e1 W1 → WSt W1 (upd o1 u.heap.size i) j c W) := fun v1 r2 e1 u W1 hw h1 => hw.other (Ne.symm hij) h1.2.2
  obtain ⟨kd, on, sz, n, s⟩ := op
  simp only [OpC.cells] at c0 c2 c3 hw1
  have HW1 := Hid.mk_ hw1
  have HK := Hid.mk_ (show Blk w1 ws [.int .i64 kd, .int .i64 on, .int .i64 sz, .int .i64 n, str s] 36 from hk)
  have HO := Hid.mk_ ho
  unfold OpC.agg
  clear hA hB hb1 hw1 hk hcf hne hws ho1 hA1 hB1 hbd ho
  by_cases k1 : kd = 1
  · subst k1
    have E := Hid.mk_ (show agR r 1 sz n = (r.num sz).2 ∧ agW W r 1 sz n = W.num sz (r.num sz).1 from ⟨if_pos rfl, if_pos rfl⟩)
    have H1 := Hid.mk_ (rnum_st HAD.out sz)
    have hnv := num_val (r := r) (size := sz)
    obtain ⟨v, hv⟩ : ∃ v, v = (r.num sz).1 := ⟨_, rfl⟩
    rw [← hv] at H1 E hnv
    have HV := Hid.mk_ (show i64 v from ⟨by omega, hnv.2⟩)
    clear hv
    go_enter Tryd.func29, Tryd.ntmps29
    go_upto_region 1 with fail
    rw [← HW1.out, ← HWS.out]
    go_wp2_with fail
    go_region_held3 (fun w' => w'.cell? ⟨ws, 2, none⟩ = some (.int .i64 sz)) (first | exact c2 | assumption)
      (first
        | (go_at_call 30; (with_reducible refine H1.out.mono ?_); rintro e W1 h1; have he := h1.1; subst he; have H1P := Hid.mk_ h1; have H2 := Hid.mk_ (wnum_st (HX.out _ _ _ _ _ HBD.out H1P.out) sz v HO.out.size HV.out (by omega)); have hS : W1.cell? ⟨ws, 2, none⟩ = some (.int .i64 sz) := (HK.out.drew.mods h1.2.2 HNE.out).cell 2; clear h1)
        | (go_at_call 32; (with_reducible refine H2.out.mono ?_); rintro e W2 h2; have he := h2.1; subst he; have H2P := Hid.mk_ h2; have hS2 : W2.cell? ⟨ws, 2, none⟩ = some (.int .i64 sz) := ((HK.out.drew.mods H1P.out.2.2 HNE.out).mods h2.2.2 (HNJ.out _ rfl)).cell 2; clear h2))
    all_goals go_wp2_with fail
    go_end0
    rw [E.out.1, E.out.2]
    exact ⟨rfl, HFIN.out _ _ _ _ _ _ _ _ (Below.drew (Below.refl _ w1)) rfl H1P.out H2P.out⟩
  by_cases k2 : kd = 2
  · subst k2
    have E := Hid.mk_ (show agR r 2 sz n = (r.text n).2 ∧ agW W r 2 sz n = W.text (r.text n).1 from by unfold agR agW; exact ⟨by rw [if_neg (by simp), if_pos rfl], by rw [if_neg (by simp), if_pos rfl]⟩)
    have H1 := Hid.mk_ (rtext_st HA.out n)
    have hnv := text_val (r := r) (n := n)
    obtain ⟨v, hv⟩ : ∃ v, v = (r.text n).1 := ⟨_, rfl⟩
    rw [← hv] at H1 E hnv
    clear hv
    go_enter Tryd.func29, Tryd.ntmps29
    go_upto_region 1 with fail
    rw [← HW1.out, ← HWS.out]
    go_wp2_with (first
      | (go_at_call 35; (with_reducible refine H1.out.mono ?_); rintro e W1 h1; have he := h1.1; subst he; have H1P := Hid.mk_ h1; have H2 := Hid.mk_ (wtext_st (HX.out _ _ _ _ _ HB.out H1P.out) v (by omega)); have hS : W1.cell? ⟨ws, 3, none⟩ = some (.int .i64 n) := (HK.out.mods h1.2.2 HNE.out).cell 3; clear h1)
      | (go_at_call 33; (with_reducible refine H2.out.mono ?_); rintro e W2 h2; have he := h2.1; subst he; have H2P := Hid.mk_ h2; have hS2 : W2.cell? ⟨ws, 3, none⟩ = some (.int .i64 n) := ((HK.out.mods H1P.out.2.2 HNE.out).mods h2.2.2 (HNJ.out _ rfl)).cell 3; clear h2))
    go_end0
    rw [E.out.1, E.out.2]
    exact ⟨rfl, HFIN.out _ _ _ _ _ _ _ _ (Below.refl _ w1) rfl H1P.out H2P.out⟩
  · skip
    have E := Hid.mk_ (show agR r kd sz n = (r.raw n).2 ∧ agW W r kd sz n = W.raw (r.raw n).1 from by unfold agR agW; exact ⟨by rw [if_neg k1, if_neg k2], by rw [if_neg k1, if_neg k2]⟩)
    have H1 := Hid.mk_ (rraw_st HA.out n)
    have hnv := raw_val (r := r) (n := n)
    obtain ⟨v, hv⟩ : ∃ v, v = (r.raw n).1 := ⟨_, rfl⟩
    rw [← hv] at H1 E hnv
    have t1 : (kd == 1) = false := by simpa using k1
    have t2 : (kd == 2) = false := by simpa using k2
    clear k1 k2
    clear hv
    go_enter Tryd.func29, Tryd.ntmps29
    go_upto_region 1 with fail
    rw [← HW1.out, ← HWS.out]
    go_wp2_with (first
      | (go_at_call 31; (with_reducible refine H1.out.mono ?_); rintro e W1 h1; have he := h1.1; subst he; have H1P := Hid.mk_ h1; have H2 := Hid.mk_ (wraw_st (HX.out _ _ _ _ _ HB.out H1P.out) v (by omega)); have hS : W1.cell? ⟨ws, 3, none⟩ = some (.int .i64 n) := (HK.out.mods h1.2.2 HNE.out).cell 3; clear h1)
      | (go_at_call 34; (with_reducible refine H2.out.mono ?_); rintro e W2 h2; have he := h2.1; subst he; have H2P := Hid.mk_ h2; have hS2 : W2.cell? ⟨ws, 3, none⟩ = some (.int .i64 n) := ((HK.out.mods H1P.out.2.2 HNE.out).mods h2.2.2 (HNJ.out _ rfl)).cell 3; clear h2))
    go_end0
    rw [E.out.1, E.out.2]
    exact ⟨rfl, HFIN.out _ _ _ _ _ _ _ _ (Below.refl _ w1) rfl H1P.out H2P.out⟩
end
set_option maxRecDepth 100000 in
set_option maxHeartbeats 8000000 in
theorem again_any {w : World} (s1 : ByteArray) {A2 : Option Addr} {c2 : Nat} {ops : List OpC} (h1 : s1.size ≤ 9223372036854775807) (h2 : OpsIn w w.heap.size A2 ops) (hG : Glob w) :
    Calls Tryd.prog 8 #[.string s1, .slice A2 ops.length c2] w fun e w' => e = .returned (.bool true) ∧ Below w.heap.size w w' := by
  have HS := Hid.mk_ (size_any (c := c2) h2)
  obtain ⟨oz, hoz⟩ : ∃ o : Nat → Nat, o = fun _ => 0 := ⟨_, rfl⟩
  have S0 := Hid.mk_ (Sys.start hG)
  rw [← hoz] at S0
  have H2 := Hid.mk_ h2
  have hol := h2.len
  have HA2 := Hid.mk_ (fun (R : Int) (h0 : 0 ≤ R) (h1 : R ≤ 2147483648) W => add_any (s1.size : Int) R (by omega) (by omega) h0 (by omega) W)
  have hds : s1.data.toList.length = s1.size := by simp
  have HDS := Hid.mk_ hds
  clear hG h2 hoz hds
  go_enter Tryd.func8, Tryd.ntmps8
  go_upto_if 20 with (first
    | (go_at_call 12; (with_reducible refine HS.out.mono ?_); rintro e w1 ⟨R, rfl, hR0, hR1, hRt, hb⟩; have HB1 := Hid.mk_ hb; clear hb hRt)
    | (go_at_call 18; (with_reducible refine (HA2.out R hR0 hR1 _).mono ?_); rintro e w' ⟨rfl, rfl⟩))
  obtain ⟨V2, hV2⟩ : ∃ V, V = addV (s1.size : Int) R := ⟨_, rfl⟩
  rw [← hV2]
  by_cases hR : 2147483647 < V2
  · clear hV2
    go_wp2_with fail
    go_ret
    exact ⟨rfl, HB1.out⟩
  · have hsz : s1.size ≤ 2147483647 := by unfold addV at hV2; split at hV2 <;> omega
    clear hV2
    have S1 := Hid.mk_ (S0.out.new HB1.out)
    have HA := Hid.mk_ (awake_any S1.out.glob)
    go_upto_region 4 with (go_at_call 9; (with_reducible refine HA.out.mono ?_); rintro e w2 ⟨rfl, hb⟩; have HB2 := Hid.mk_ hb; clear hb)
    have S2 := Hid.mk_ (S1.out.new HB2.out)
    have HN1 := Hid.mk_ (rnew_b s1 h1 S2.out.glob oz 1)
    go_upto_region 5 with (go_at_call 19; (with_reducible refine HN1.out.mono ?_); rintro e w3 ⟨b1, rfl, hx1, hm1⟩; have S3 := Hid.mk_ (S2.out.step (i := 1) (by omega) hm1); have HX1 := Hid.mk_ hx1; clear hx1 hm1)
    have HN2 := Hid.mk_ (wnew_st (s1.size : Int) (show i64 _ from ⟨by omega, by omega⟩) S3.out.glob (upd oz w2.heap.size 1) 2)
    rw [show max (s1.size : Int) 0 = (s1.size : Int) by omega] at HN2
    go_upto_region 6 with (go_at_call 13; (with_reducible refine HN2.out.mono ?_); rintro e w4 ⟨b2, rfl, hx2, hm2⟩; have S4 := Hid.mk_ (S3.out.step (i := 2) (by omega) hm2); have HX2 := Hid.mk_ hx2; have HM2 := Hid.mk_ hm2; clear hx2 hm2)
    have hx14 := HX1.out.other (i := 2) (by omega) HM2.out
    have hx24 := HX2.out
    have s4 := S4.out
    obtain ⟨o4, ho4⟩ : ∃ o, o = upd (upd oz w2.heap.size 1) w3.heap.size 2 := ⟨_, rfl⟩
    rw [← ho4] at hx14 hx24 s4
    have SS := Hid.mk_ s4
    have HRR := Hid.mk_ hx14
    have HWW := Hid.mk_ hx24
    have HI : Hid (Inv s1.data.toList ⟨s1.data.toList, 0⟩ ⟨(s1.size : Int), [], 0⟩) := ⟨rfl, rfl, by simp, by show (s1.size : Int) = (s1.data.toList.length : Int); rw [HDS.out]⟩
    clear hx14 hx24 s4 ho4 S0 S1 S2 S3 S4 HX1 HX2 HM2 HA HN1 HN2
    go_wp2_with fail
    go_loopw [8] (fun x8 wr => ∃ (k : Nat) (o : Nat → Nat) (r : Rd) (W : Wr), k ≤ ops.length ∧ x8 = .int .i64 (k : Int) ∧ Hid (Sys w wr o) ∧ Hid (RSt wr o 1 b1 r) ∧ Hid (WSt wr o 2 b2 W) ∧ Hid (Inv s1.data.toList r W)) (fun x8 _ => ops.length - (intOf x8).toNat)
    case atStart => exact ⟨0, o4, _, _, Nat.zero_le _, rfl, SS, HRR, HWW, HI⟩
    case round =>
      obtain ⟨k, o, r, W, hk, rfl, HSY, HR1, HW1, HIN⟩ := hrel
      by_cases hlt : k < ops.length
      · have hlt1 : (k : Int) < ops.length := by omega
        have hin := H2.out.new HSY.out.below
        obtain ⟨g, p, rfl, hg, hc⟩ := hin.at_ (by omega)
        obtain ⟨d0, d1, d2, d3, d4⟩ := hc k hlt
        have hok := hin.each _ (List.getElem_mem hlt)
        obtain ⟨op, hop⟩ : ∃ op, op = ops[k]'hlt := ⟨_, rfl⟩
        rw [← hop] at d0 d1 d2 d3 d4 hok
        have hlen := HIN.out.len
        rw [HDS.out] at hlen
        have HST := Hid.mk_ (again_st (op := op) HR1.out HW1.out (by omega) (by omega) (by omega) hok (by omega))
        have hag := fun he => HIN.out.again op.kind op.size op.n he
        have her := again_err HIN.out.e op.kind op.size op.n
        obtain ⟨kd, on, sz, n, s⟩ := op
        unfold OpC.agg at HST
        simp only at d0 d1 d2 d3 d4 HST hag her
        obtain ⟨r2, hr2⟩ : ∃ r2, r2 = agR r kd sz n := ⟨_, rfl⟩
        obtain ⟨W2, hW2⟩ : ∃ W2, W2 = agW W r kd sz n := ⟨_, rfl⟩
        rw [← hr2] at HST hag her
        rw [← hW2] at HST hag
        have HAG := Hid.mk_ hag
        clear hag hr2 hW2 hok hop hc hin hlen
        go_upto_region 12 with (go_at_call 29; (with_reducible refine HST.out.mono ?_); rintro e w5 ⟨rfl, o5, hch, hr, hw⟩; have HR5 := Hid.mk_ hr; have HW5 := Hid.mk_ hw; have S5 := Hid.mk_ (HSY.out.ch hch (by omega)); clear hch hr hw)
        have HLF := Hid.mk_ (rleft_st HR5.out)
        have HDN := Hid.mk_ (rdone_st S5.out.glob HR5.out)
        by_cases he : r2.e = 0
        · have HIN2 := Hid.mk_ (HAG.out he)
          have hl2 : r2.left = (r2.s.length : Int) := by unfold Rd.left; rw [if_neg (by simp [he])]
          have hd2 : r2.done = if r2.s = [] then 0 else 13 := by unfold Rd.done; rw [if_neg (by simp [he])]
          have hln := HIN2.out.len
          have hout := HIN2.out.out
          rw [HDS.out] at hln hout
          have hext : s1.extract 0 (s1.size - r2.s.length) = ⟨W2.l.toArray⟩ := by
            have h3 := extract_to s1.data.toList (s1.size - r2.s.length)
            rw [← hout] at h3
            simpa using h3
          have hWD : W2.done = (W2.l, 0) := by unfold Wr.done; rw [if_neg (by simp [HIN2.out.we])]
          have hdd : r2.done = 0 ∨ r2.done = 13 := by rw [hd2]; split <;> simp
          obtain ⟨dn, hdn⟩ : ∃ d, d = r2.done := ⟨_, rfl⟩
          obtain ⟨L, hL⟩ : ∃ n : Nat, n = r2.s.length := ⟨_, rfl⟩
          rw [hl2, ← hL] at HLF
          rw [← hL] at hln hext
          rw [← hdn] at HDN hdd
          have hLs : L ≤ s1.size := by omega
          have HEX := Hid.mk_ hext
          have HWD := Hid.mk_ hWD
          clear hdn hL hl2 hd2 hext hWD hln hout her he
          go_upto_region 14 with (first
            | (go_at_call 22; (with_reducible refine HLF.out.mono ?_); rintro e w' ⟨rfl, rfl⟩)
            | (go_at_call 24; (with_reducible refine HDN.out.mono ?_); rintro e w6 ⟨rfl, hb⟩; have HB6 := Hid.mk_ hb; clear hb))
          have S6 := Hid.mk_ (S5.out.new HB6.out)
          have HR6 := Hid.mk_ (HR5.out.new HB6.out)
          have HW6 := Hid.mk_ (HW5.out.new HB6.out)
          have hwd := wdone_st S6.out.glob HW6.out
          unfold WDone at hwd
          rw [HWD.out] at hwd
          have HWN := Hid.mk_ hwd
          clear hwd
          have hsub : ((s1.size : Int) - (L : Int)).toNat = s1.size - L := by omega
          have hs0 : 0 ≤ (s1.size : Int) - (L : Int) := by omega
          have hs1 : (s1.size : Int) - (L : Int) ≤ (s1.size : Int) := by omega
          have hsw : IntKind.i64.wrap ((s1.size : Int) - (L : Int)) = (s1.size : Int) - (L : Int) := by rw [IntKind.wrap_i64]; omega
          rcases hdd with rfl | rfl
          all_goals (
            go_upto_region 19 with (go_at_call 27; (with_reducible refine HWN.out.mono ?_); rintro e w7 ⟨rfl, hw7, hm7⟩; have HW7 := Hid.mk_ hw7; have S7 := Hid.mk_ (S6.out.step (i := 2) (by omega) hm7); have HR7 := Hid.mk_ (HR6.out.other (i := 2) (by omega) hm7); clear hw7 hm7)
            have hex2 := HEX.out
            go_wp2_with fail
            exact ⟨⟨k + 1, _, r2, W2, by omega, by go_num, S7, HR7, HW7, HIN2⟩, by simp [intOf]; omega⟩)
        · have hl2 : r2.left = 0 := by unfold Rd.left; rw [if_pos he]
          have hd2 : r2.done = r2.e := by unfold Rd.done; rw [if_pos he]
          have hn2 : r2.num 1 = (0, r2) := by unfold Rd.num; rw [if_pos he]
          have hw2 : r2.raw 0 = ([], r2) := by unfold Rd.raw; rw [if_pos he]
          rw [hl2] at HLF
          rw [hd2] at HDN
          obtain ⟨dn, hdn⟩ : ∃ d, d = r2.e := ⟨_, rfl⟩
          rw [← hdn] at HDN her hd2 he
          have t1 : (dn != 0) = true := by simpa using he
          have t2 : (dn != 13) = true := by simp; omega
          have t3 : (dn == dn) = true := by simp
          have HN2 := Hid.mk_ hn2
          have HW2 := Hid.mk_ hw2
          have HD2 := Hid.mk_ hd2
          clear hdn hl2 hd2 hn2 hw2 her he
          go_upto_region 14 with (first
            | (go_at_call 22; (with_reducible refine HLF.out.mono ?_); rintro e w' ⟨rfl, rfl⟩)
            | (go_at_call 24; (with_reducible refine HDN.out.mono ?_); rintro e w6 ⟨rfl, hb⟩; have HB6 := Hid.mk_ hb; clear hb))
          have S6 := Hid.mk_ (S5.out.new HB6.out)
          have HR6 := Hid.mk_ (HR5.out.new HB6.out)
          have hnm := rnum_st HR6.out 1
          rw [HN2.out] at hnm
          have HNM := Hid.mk_ hnm
          clear hnm
          go_upto_region 16 with (go_at_call 30; (with_reducible refine HNM.out.mono ?_); rintro e w7 ⟨rfl, hr7, hm7⟩; have HR7 := Hid.mk_ hr7; have S7 := Hid.mk_ (S6.out.step (i := 1) (by omega) hm7); clear hr7 hm7)
          have hrw := rraw_st HR7.out 0
          rw [HW2.out] at hrw
          have HRW := Hid.mk_ hrw
          clear hrw
          go_upto_region 17 with (go_at_call 31; (with_reducible refine HRW.out.mono ?_); rintro e w8 ⟨rfl, hr8, hm8⟩; have HR8 := Hid.mk_ hr8; have S8 := Hid.mk_ (S7.out.step (i := 1) (by omega) hm8); clear hr8 hm8)
          have hdl := rdone_st S8.out.glob HR8.out
          rw [HD2.out] at hdl
          have HDL := Hid.mk_ hdl
          clear hdl
          go_wp2_with (go_at_call 24; (with_reducible refine HDL.out.mono ?_); rintro e w9 ⟨rfl, hb⟩; have HB9 := Hid.mk_ hb; clear hb)
          go_ret
          exact ⟨rfl, (S8.out.new HB9.out).below⟩
      · have hlt1 : ¬ (k : Int) < ops.length := by omega
        go_wp2_with fail
        go_ret
        exact ⟨rfl, HSY.out.below⟩
end Go.Proofs.YtdccgmfhnofabaaDoor
