/- world.step: Node; every step. -/
import Derived.Test.YtccgamaijjeafaaE8
namespace Go.Proofs.Ytccgamaijjeafaa
open Go.RowKit
set_option linter.unusedVariables false
set_option linter.unusedSimpArgs false
/-- what Node answers: the level, the kids, the error -/
def nodeA (N : List Nd) (m : Int) : Int × List Int × Int := if h : 2 ≤ m ∧ m < (N.length : Int) + 2 then ((N[(m - 2).toNat]'(by omega)).lv, (N[(m - 2).toNat]'(by omega)).ks, 0) else (0, [], 1)
/-- a list that came out -/
structure Came (w w' : World) (v : Value) (ks : List Int) : Prop where
  row : Row w' 3 1 v ks.length (ks.map (Value.int .i64))
  new : ∀ q, v.ownBlock = some q → w.heap.size ≤ q
  below : Below w.heap.size w w'
theorem grown_drew {w w' : World} {r : Option Nat} (h : w.drew.grownBy w' r) : w.grownBy w' r := ⟨h.os, h.tape, h.output, h.size, h.block⟩
section
variable {w w' w0 w1 w2 : World} {a b bw B : Nat} {S : List Int} {M : Int} {N : List Nd} {z : List Nat} {hd lv : Value} {es : List Value} {o : OpV}
theorem node_len (h : Good S M N) (m : Int) : (nodeA N m).2.1.length ≤ 256 := by
  unfold nodeA
  split
  · exact (h.kids _ _).2
  · simp
theorem node_pa (h : PAt w a S M N z) (m : Int) : Calls Try.prog 14 #[.pointer (some ⟨a, 0, none⟩), .int .i64 m] w fun e w' => ∃ v, e = .returned (.tuple #[.agg #[.int .i64 (nodeA N m).1, v], .int .i64 (nodeA N m).2.2]) ∧ Came w w' v (nodeA N m).2.1 := by
  obtain ⟨L, nv, sv, mb, cz, p, rfl, _⟩ := h
  by_cases hm : 2 ≤ m ∧ m < (L.length : Int) + 2
  · obtain ⟨i, rfl⟩ : ∃ i : Nat, m = (i : Int) + 2 := ⟨(m - 2).toNat, by omega⟩
    have hi : i < L.length := by omega
    have e : nodeA (nds L) ((i : Int) + 2) = ((L[i]'hi).1.lv, (L[i]'hi).1.ks, 0) := by
      unfold nodeA
      rw [dif_pos (by rw [nds_length]; exact hm)]
      have e2 : ((i : Int) + 2 - 2).toNat = i := by omega
      simp only [e2, nds_get L i hi]
    rw [e]
    refine (node_pa_in p i hi).mono fun e w' ⟨v, h1, ⟨g, hv, hg, hr⟩, h3⟩ => ⟨v, h1, hr, fun q hq => ?_, h3⟩
    subst hv
    cases hq
    exact hg
  · have e : nodeA (nds L) m = (0, [], 1) := by unfold nodeA; rw [dif_neg (by rw [nds_length]; exact hm)]
    rw [e]
    exact (node_pa_out p m hm).mono fun e w' ⟨h1, h2⟩ => ⟨.slice none 0 0, h1, Row.nil _ _ _, by simp [Value.ownBlock], h2⟩
theorem node_ra (h : RAt w b S M N z) (m : Int) : Calls Try.prog 23 #[.pointer (some ⟨b, 0, none⟩), .int .i64 m] w fun e w' => ∃ v, e = .returned (.tuple #[.agg #[.int .i64 (nodeA N m).1, v], .int .i64 (nodeA N m).2.2]) ∧ Row w' 3 1 v (nodeA N m).2.1.length ((nodeA N m).2.1.map (Value.int .i64)) ∧ Below w.heap.size w w' := by
  obtain ⟨L, nv, sv, lv, rows, cz, p, rfl, _⟩ := h
  by_cases hm : 2 ≤ m ∧ m < (L.length : Int) + 2
  · obtain ⟨i, rfl⟩ : ∃ i : Nat, m = (i : Int) + 2 := ⟨(m - 2).toNat, by omega⟩
    have hi : i < L.length := by omega
    have e : nodeA (nds L) ((i : Int) + 2) = ((L[i]'hi).1.lv, (L[i]'hi).1.ks, 0) := by
      unfold nodeA
      rw [dif_pos (by rw [nds_length]; exact hm)]
      have e2 : ((i : Int) + 2 - 2).toNat = i := by omega
      simp only [e2, nds_get L i hi]
    rw [e]
    exact node_ra_in p i hi
  · have e : nodeA (nds L) m = (0, [], 1) := by unfold nodeA; rw [dif_neg (by rw [nds_length]; exact hm)]
    rw [e]
    exact (node_ra_out p m hm).mono fun e w' ⟨h1, h2⟩ => ⟨.slice none 0 0, h1, Row.nil _ _ _, h2⟩
theorem SideAt.nodeP (h : SideAt w a b S M N z) (m : Int) : Calls Try.prog 14 #[.pointer (some ⟨a, 0, none⟩), .int .i64 m] w fun e w' => ∃ v, e = .returned (.tuple #[.agg #[.int .i64 (nodeA N m).1, v], .int .i64 (nodeA N m).2.2]) ∧ Came w w' v (nodeA N m).2.1 := by
  obtain ⟨za, zx, h1, h2, _⟩ := h.ex
  exact node_pa h1 m
theorem SideAt.nodeR (h : SideAt w a b S M N z) (m : Int) : Calls Try.prog 23 #[.pointer (some ⟨b, 0, none⟩), .int .i64 m] w fun e w' => ∃ v, e = .returned (.tuple #[.agg #[.int .i64 (nodeA N m).1, v], .int .i64 (nodeA N m).2.2]) ∧ Row w' 3 1 v (nodeA N m).2.1.length ((nodeA N m).2.1.map (Value.int .i64)) ∧ Below w.heap.size w w' := by
  obtain ⟨za, zx, h1, h2, _⟩ := h.ex
  exact node_ra h2 m
set_option maxRecDepth 100000 in
set_option maxHeartbeats 8000000 in
theorem step_node (hB : B ≤ w.heap.size) (h : SideAt w a b S M N z) (ho : OpOk w B o) (hb : LBook w bw hd lv es) (hd0 : ∀ k ∈ z, ¬ bookZ bw lv k ∧ ¬ OwnB es k) (hlen : es.length ≤ 10000000) (hw : o.what = 4 ∨ o.what = 5) :
    Calls Try.prog 8 #[.pointer (some ⟨bw, 0, none⟩), .agg #[.pointer (some ⟨a, 0, none⟩), .pointer (some ⟨b, 0, none⟩)], o.agg] w (LeftPost w a b S M z bw hd lv es) := by
  have hbx := Boxed.mk_ w a b o
  have hn0 := ho.n0
  obtain ⟨ot, nr, wh, n, A, c, ks⟩ := o
  unfold OpV.agg
  simp only at hbx hw hn0
  obtain ⟨w1, hw1⟩ : ∃ w1, w1 = (w.alloc (.cells #[.pointer (some ⟨a, 0, none⟩), .pointer (some ⟨b, 0, none⟩)] 34)).alloc (.cells #[.bool ot, .bool nr, .int .i64 wh, .int .i64 n, .slice A ks.length c] 40) := ⟨_, rfl⟩
  obtain ⟨bs, hbs⟩ : ∃ bs, bs = w.heap.size := ⟨_, rfl⟩
  obtain ⟨bo, hbo⟩ : ∃ bo, bo = w.heap.size + 1 := ⟨_, rfl⟩
  rw [← hw1, ← hbo, ← hbs] at hbx
  have HBX := Hid.mk_ hbx
  have HW1 := Hid.mk_ hw1
  have HBS := Hid.mk_ hbs
  have HBO := Hid.mk_ hbo
  have hN := h.good.len2
  obtain ⟨Nl, hNl⟩ : ∃ l : Int, l = (N.length : Int) := ⟨_, rfl⟩
  have hNl2 : 0 ≤ Nl ∧ Nl ≤ 8192 := by omega
  have HLQ := Hid.mk_ (h.new hbx.below).says.lenR
  rw [← hNl] at HLQ
  have HPQ := Hid.mk_ (fun q => pick_quiet (c := n) (n := Nl + 4) rfl (by omega) hn0 w1 q)
  have hpi := pickI_range n (Nl + 4) (by omega)
  obtain ⟨pn, hpn⟩ : ∃ pn, pn = pickI n (Nl + 4) := ⟨_, rfl⟩
  rw [← hpn] at HPQ hpi
  obtain ⟨x0, x1⟩ := hbx.s w1 (Below.refl _ _)
  obtain ⟨x2, x3, x4, x5, x6⟩ := hbx.o w1 (Below.refl _ _)
  have HH := Hid.mk_ h
  have HBK := Hid.mk_ hb
  have HD0 := Hid.mk_ hd0
  obtain ⟨Al, cl, hlv⟩ := hb.row.shape
  subst hlv
  clear hbx hw1 hbs hbo h ho hb hd0 hB hpn hNl hN
  simp only at x2 x3 x4 x5 x6
  obtain ⟨i22, hi22, hb0, hb1, hb2⟩ := info_parts Try.info22
  have hsum : IntKind.i64.wrap (Nl + 4) = Nl + 4 := by rw [IntKind.wrap_i64]; omega
  have hwh : wh = 4 ∨ wh = 5 := hw
  clear hw
  rcases hwh with rfl | rfl
  all_goals (
    go_enter Try.func8, Try.ntmps8
    go_upto_region 1 with fail
    rw [← HBO.out, ← HBS.out, ← HW1.out]
    go_upto_if 33 with fail
    go_cut [7] from 32 to 40 (fun x7 wx => ∃ (m : Int) (q : Nat), x7 = .int .i64 m ∧ wx = w1.drewN q)
    case first =>
      cases nr with
      | true =>
        go_wp2_with fail
        go_big_quiet ((first | (go_at_call 11; with_reducible exact HPQ.out _) | (go_at_call 10; with_reducible exact HLQ.out _)))
        go_wp2_with fail
        go_meet
        exact ⟨_, _, rfl, rfl⟩
      | false =>
        go_wp2_with fail
        go_meet
        exact ⟨n, 0, rfl, rfl⟩
    case rest =>
      obtain ⟨m, q, rfl, hwc⟩ := hcut
      have hbw : Below w1.heap.size w1 wc := by rw [hwc]; exact Drawn_below _ _
      have hbwc : Below w.heap.size w wc := HBX.out.below.trans (hbw.mono HBX.out.below.size)
      have hkl := node_len HH.out.good m
      have HNP := Hid.mk_ ((HH.out.new hbwc).nodeP m)
      have HNR := Hid.mk_ (fun (W : World) (hW : Below w.heap.size w W) => (HH.out.new hW).nodeR m)
      obtain ⟨nl, hnl⟩ : ∃ x, x = (nodeA N m).1 := ⟨_, rfl⟩
      obtain ⟨nk, hnk⟩ : ∃ x, x = (nodeA N m).2.1 := ⟨_, rfl⟩
      obtain ⟨ne, hne⟩ : ∃ x, x = (nodeA N m).2.2 := ⟨_, rfl⟩
      rw [← hnl, ← hnk, ← hne] at HNP HNR
      rw [← hnk] at hkl
      obtain ⟨y0, y1⟩ := HBX.out.s wc hbw
      have HBWC := Hid.mk_ hbwc
      have HBW := Hid.mk_ hbw
      clear hwc hbw hbwc x0 x1 x2 x3 x4 x5 x6 hnl hnk hne hsum
      go_upto_region 13 with (go_at_call 14; (with_reducible refine HNP.out.mono ?_); rintro e w2 ⟨v, rfl, hcm⟩; obtain ⟨Av, cv, hve⟩ := hcm.row.shape; subst hve)
      have hb2 : Below w.heap.size w w2 := HBWC.out.trans (hcm.below.mono HBWC.out.size)
      obtain ⟨w3, hw3⟩ : ∃ w3, w3 = w2.alloc (.cells #[.int .i64 nl, .slice Av nk.length cv] 47) := ⟨_, rfl⟩
      obtain ⟨b8, hb8⟩ : ∃ b8, b8 = w2.heap.size := ⟨_, rfl⟩
      rw [← hw3, ← hb8]
      have hb23 : Below w2.heap.size w2 w3 := by rw [hw3]; exact (Below.refl _ _).alloc (Nat.le_refl _) _
      have hk8 : Blk w3 b8 [.int .i64 nl, .slice Av nk.length cv] 47 := by rw [hw3, hb8]; exact Blk.new w2 _ 47
      have hb3 : Below w.heap.size w w3 := hb2.trans (hb23.mono hb2.size)
      have hb13 : Below w1.heap.size w1 w3 := (HBW.out.trans (hcm.below.mono HBW.out.size)).trans (hb23.mono (by have := HBW.out.size; have := hcm.below.size; omega))
      obtain ⟨u0, u1⟩ := HBX.out.s w3 hb13
      have HN3 := Hid.mk_ (HNR.out w3 hb3)
      have HCM := Hid.mk_ hcm
      have HK8 := Hid.mk_ hk8
      have HB23 := Hid.mk_ hb23
      have HB3 := Hid.mk_ hb3
      have HB13 := Hid.mk_ hb13
      have HB8 := Hid.mk_ hb8
      have HB2 := Hid.mk_ hb2
      clear y0 y1 hcm hk8 hb23 hb3 hb13 hb8 hw3 hb2
      go_upto_region 14 with (go_at_call 23; (with_reducible refine HN3.out.mono ?_); rintro e w4 ⟨vr, rfl, hvr, hb4⟩; obtain ⟨Ar, cr, hre⟩ := hvr.shape; subst hre)
      obtain ⟨w5, hw5⟩ : ∃ w5, w5 = w4.alloc (.cells #[.int .i64 nl, .slice Ar nk.length cr] 47) := ⟨_, rfl⟩
      obtain ⟨b10, hb10⟩ : ∃ b10, b10 = w4.heap.size := ⟨_, rfl⟩
      rw [← hw5, ← hb10]
      have hb45 : Below w3.heap.size w3 w5 := hb4.trans (by rw [hw5]; exact (Below.refl _ _).alloc hb4.size _)
      have hk10 : Blk w5 b10 [.int .i64 nl, .slice Ar nk.length cr] 47 := by rw [hw5, hb10]; exact Blk.new w4 _ 47
      have hvr5 : Row w5 3 1 (.slice Ar nk.length cr) nk.length (nk.map (Value.int .i64)) := by rw [hw5]; exact hvr.alloc _
      have hbw5 := HB3.out.trans (hb45.mono HB3.out.size)
      have HBK5 := Hid.mk_ (HBK.out.new hbw5)
      have hk85 := HK8.out.below hb45 HK8.out.lt
      have hv5 : Row w5 3 1 (.slice Av nk.length cv) nk.length (nk.map (Value.int .i64)) := HCM.out.row.move fun k hk => by
        have h1 := HCM.out.row.lt k hk
        have h2 := HB23.out.size
        rw [hb45.block k (by omega), HB23.out.block k h1]
      have HV5 := Hid.mk_ hv5
      have HVR5 := Hid.mk_ hvr5
      have HK10 := Hid.mk_ hk10
      have HK85 := Hid.mk_ hk85
      have HBW5 := Hid.mk_ hbw5
      have HB45 := Hid.mk_ hb45
      have p0 := HBK5.out.blk.cell 1
      have p1 := hk85.cell 1
      have p2 := HBK5.out.blk.lt
      have p3 := hk85.lt
      have hnkm : nk.length ≤ 1000000 := by omega
      have hfresh : ∀ q, (Value.slice Av nk.length cv).ownBlock = some q → ¬ OwnB es q := fun q e e2 => by
        have h1 := HBK.out.elt q e2
        have h2 := HCM.out.new q e
        have h3 := HBWC.out.size
        omega
      have HFR := Hid.mk_ hfresh
      have HB10 := Hid.mk_ hb10
      have HS4 := Hid.mk_ (show w3.heap.size ≤ b10 by rw [hb10]; exact hb4.size)
      clear hw5 hb45 hk10 hvr5 hbw5 hk85 hv5 hfresh u0 u1 hvr hb4 hb10
      have tok1 : True := trivial
      go_region_law (first
        | (have _t := tok1; refine step_append_row _ ?_ (.tmp 59) (.tmp 62) 36 ?_ 22 i22 (.slice none 0 0) 1 24 Try.underlying36 hi22 hb0 hb1 hb2 rfl (by omega) (.slice Al es.length cl) es.length es ?_ (Row.drew (HBK5.out.row.alloc _)) ⟨w5.heap.size, 0, none⟩ 1 1 [.slice Av nk.length cv] ?_ (by rfl) (fun jj u hj => one_cells_at w5 _ _ rfl jj u hj) (by simp [Value.oneCell']) (by omega) (by unfold maxLen; omega) (by omega) (w5.heap.size + 1) (by simp) ?_; rfl; rfl; go_simp; go_simp; intro g9 c9 w9 hrow9 hgrow9 hloc9 hlt9; have hadd := HBK5.out.add (ks := nk) HV5.out hnkm HFR.out hrow9 rfl (grown_drew hgrow9) hloc9; have HADD := Hid.mk_ hadd; have y1 := hadd.2.2.2.cell 1; have f9 := hadd.2.2.2.free 1; have l9 := hadd.2.2.2.lt; clear hadd tok1))
      all_goals (
        obtain ⟨hbk3, hm3, hl3, _⟩ := HADD.out
        have hleft : Left w (w9.setCell ⟨bw, 1, none⟩ (.slice (some ⟨g9, 0, none⟩) (es.length + 1) c9)) a b S M z bw hd (.slice Al es.length cl) es N z (.slice (some ⟨g9, 0, none⟩) (es.length + 1) c9) (es ++ [.slice Av nk.length cv]) :=
          Left.of_book HH.out HBK.out HD0.out HBW5.out hbk3 hm3 hl3 (fun k ⟨u, hu, e⟩ => by
            rcases List.mem_append.1 hu with hu | hu
            · exact .inl ⟨u, hu, e⟩
            · simp at hu
              subst hu
              have h2 := HCM.out.new k e
              have h3 := HBWC.out.size
              exact .inr (by omega)) (by simp)
        have hsy := hleft.side.says
        have far : ∀ k, k < w5.heap.size → w.heap.size ≤ k → (w9.setCell ⟨bw, 1, none⟩ (.slice (some ⟨g9, 0, none⟩) (es.length + 1) c9)).heap[k]? = w5.heap[k]? := fun k h1 h2 => hm3.block k h1 (fun e => by
          rcases e with e | e
          · have := HBK.out.blk.lt; omega
          · have := HBK.out.row.lt k e; omega)
        have hv10 : Row (w9.setCell ⟨bw, 1, none⟩ (.slice (some ⟨g9, 0, none⟩) (es.length + 1) c9)) 3 1 (.slice Av nk.length cv) nk.length (nk.map (Value.int .i64)) := HV5.out.move fun k hk => far k (HV5.out.lt k hk) (by have := HCM.out.new k hk; have := HBWC.out.size; omega)
        have hvr10 : Row (w9.setCell ⟨bw, 1, none⟩ (.slice (some ⟨g9, 0, none⟩) (es.length + 1) c9)) 3 1 (.slice Ar nk.length cr) nk.length (nk.map (Value.int .i64)) := HVR5.out.move fun k hk => hm3.block k (HVR5.out.lt k hk) (fun e => by
          rcases e with e | e
          · exact row_blk HVR5.out HBK5.out.blk (by decide) (e ▸ hk)
          · exact row_type HVR5.out HBK5.out.row (by decide) hk e)
        obtain ⟨Av', cv', e1, hi1⟩ := hv10.intsIn hnkm
        cases e1
        obtain ⟨Ar', cr', e2, hi2⟩ := hvr10.intsIn hnkm
        cases e2
        have sz1 := HB3.out.size
        have sz2 := HB45.out.size
        have q8 := HK85.out.move (far b8 HK85.out.lt (by have h1 := HB8.out; have h2 := HB2.out.size; omega))
        have q10 := HK10.out.move (far b10 HK10.out.lt (by have h1 := HS4.out; omega))
        have hbs9 : (w9.setCell ⟨bw, 1, none⟩ (.slice (some ⟨g9, 0, none⟩) (es.length + 1) c9)).heap[bs]? = w3.heap[bs]? := by
          obtain ⟨n1, n2, n3, n4⟩ := HBX.out.new
          have h1 := HB13.out.size
          rw [far bs (by omega) n1, HB45.out.block bs (by omega)]
        obtain ⟨v0, v1⟩ := HBX.out.s w3 HB13.out
        obtain ⟨w10, hw10⟩ : ∃ w10, w10 = w9.setCell ⟨bw, 1, none⟩ (.slice (some ⟨g9, 0, none⟩) (es.length + 1) c9) := ⟨_, rfl⟩
        rw [← hw10] at hleft hsy hi1 hi2 hbs9 q8 q10 ⊢
        have z0 : w10.cell? ⟨bs, 0, none⟩ = some (.pointer (some ⟨a, 0, none⟩)) := (World.cell?_of_block (a := ⟨bs, 0, none⟩) hbs9).trans v0
        have z1 : w10.cell? ⟨bs, 1, none⟩ = some (.pointer (some ⟨b, 0, none⟩)) := (World.cell?_of_block (a := ⟨bs, 1, none⟩) hbs9).trans v1
        have z2 := q8.cell 0
        have z3 := q8.cell 1
        have z4 := q10.cell 0
        have z5 := q10.cell 1
        have HL := Hid.mk_ hleft
        have HSM := Hid.mk_ (same_any Av Ar cv cr nk nk w10 hi1 hi2)
        rw [decide_eq_true rfl] at HSM
        have HSY2 := Hid.mk_ (fun q => (hleft.drew q).side.says)
        obtain ⟨yl, hyl⟩ : ∃ l : Int, l = lvl S.length N m := ⟨_, rfl⟩
        obtain ⟨yh, hyh⟩ : ∃ l : Bool, l = hasA N m := ⟨_, rfl⟩
        have t1 : (yl == yl) = true := by simp
        have t2 : (nl == nl) = true := by simp
        have t3 : (ne == ne) = true := by simp
        have t4 : (yh == yh) = true := by simp
        have HV1 := Hid.mk_ (fun q1 q => (HSY2.out q1).levP m q)
        have HV2 := Hid.mk_ (fun q1 q => (HSY2.out q1).levR m q)
        have HV3 := Hid.mk_ (fun q1 q => (HSY2.out q1).hasP m q)
        have HV4 := Hid.mk_ (fun q1 q => (HSY2.out q1).hasR m q)
        rw [← hyl] at HV1 HV2
        rw [← hyh] at HV3 HV4
        have HQ8 := Hid.mk_ q8
        have HQ10 := Hid.mk_ q10
        have HZ0 := Hid.mk_ (And.intro z0 z1)
        clear hw10 hleft hsy hbs9 hi1 hi2 q8 q10 far hv10 hvr10 hbk3 hm3 hl3 y1 f9 l9 p0 p1 p2 p3 hyl hyh v0 v1 sz1 sz2
        go_upto_region 16 with (go_at_call 16; (with_reducible refine HSM.out.mono ?_); rintro e w11 ⟨rfl, q11, hw11⟩; have HW11 := Hid.mk_ hw11; clear hw11)
        have hw11 := HW11.out
        clear z0 z1 z2 z3 z4 z5
        have z0 : w11.cell? ⟨bs, 0, none⟩ = some (.pointer (some ⟨a, 0, none⟩)) := by rw [hw11]; exact HZ0.out.1
        have z1 : w11.cell? ⟨bs, 1, none⟩ = some (.pointer (some ⟨b, 0, none⟩)) := by rw [hw11]; exact HZ0.out.2
        have z2 : w11.cell? ⟨b8, 0, none⟩ = some (.int .i64 nl) := by rw [hw11]; exact HQ8.out.cell 0
        have z4 : w11.cell? ⟨b10, 0, none⟩ = some (.int .i64 nl) := by rw [hw11]; exact HQ10.out.cell 0
        have HU1 := Hid.mk_ (HV1.out q11)
        have HU2 := Hid.mk_ (HV2.out q11)
        have HU3 := Hid.mk_ (HV3.out q11)
        have HU4 := Hid.mk_ (HV4.out q11)
        rw [← hw11] at HU1 HU2 HU3 HU4
        have HL11 := Hid.mk_ (HL.out.drew q11)
        rw [← hw11] at HL11
        clear hw11
        go_big_quiet ((first | (go_at_call 15; with_reducible exact HU1.out _) | (go_at_call 24; with_reducible exact HU2.out _) | (go_at_call 25; with_reducible exact HU3.out _) | (go_at_call 26; with_reducible exact HU4.out _)))
        go_wp2_with fail
        go_ret
        exact ⟨rfl, N, z, _, _, HL11.out.drew _⟩))
end
end Go.Proofs.Ytccgamaijjeafaa
