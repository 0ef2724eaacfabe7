/- A table's step: a set of classes. -/
import Derived.Test.YtmfdcaalbpikpaaW14
namespace Go.Proofs.Ytmfdcaalbpikpaa
open Go.RowKit Go.Maps
set_option linter.unusedVariables false
set_option linter.unusedSimpArgs false
def setL (ins : List Bool) (s : Nat) : List Bool := (List.range s).map fun c => ins.getD c false
theorem setL_length {ins : List Bool} {s : Nat} : (setL ins s).length = s := by simp [setL]
theorem setL_get {ins : List Bool} {s c : Nat} (h : c < (setL ins s).length) : (setL ins s)[c]'h = ins.getD c false := by simp [setL]
def saysL (S : List Int) (L : List Bool) (lv : Nat) : List Bool := (List.range (prodI S).toNat).map fun n : Nat => L.getD ((pt S (n : Int)).getD lv 0).toNat false
theorem saysL_length {S : List Int} {L : List Bool} {lv : Nat} : (saysL S L lv).length = (prodI S).toNat := by simp [saysL]
theorem saysL_get {S : List Int} {L : List Bool} {lv n : Nat} (h : n < (saysL S L lv).length) : (saysL S L lv)[n]'h = L.getD ((pt S (n : Int)).getD lv 0).toNat false := by simp [saysL]
section
variable {w w' w0 : World} {tb ab : Nat} {S F : List Int} {V : List Value} {sv fv yv : Value} {N : List Nd} {z : List Nat}
set_option maxRecDepth 100000 in
set_option maxHeartbeats 8000000 in
theorem step_set {o : OpD} (h : TS w0 w ab tb S N z F V sv fv yv) (hFew : Few S) (ho : OpDOk w o) (hF : 0 < F.length) (hFl : F.length ≤ 2000000000000) (hwh : ¬ (2 ≤ o.wh ∧ o.wh ≤ 6)) :
    Calls Try.prog 10 #[.pointer (some ⟨tb, 0, none⟩), .pointer (some ⟨ab, 0, none⟩), o.agg] w (StepDone w0 ab tb S N F V sv fv yv) := by
  obtain ⟨w1, hw1⟩ : ∃ w1, w1 = w.alloc (.cells o.cells.toArray 37) := ⟨_, rfl⟩
  have hb1 : Below w.heap.size w w1 := by rw [hw1]; exact (Below.refl _ _).alloc (Nat.le_refl _) _
  have hkb := Blk.new w o.cells 37
  rw [← hw1] at hkb
  obtain ⟨bo, hbo⟩ : ∃ b, b = w.heap.size := ⟨_, rfl⟩
  rw [← hbo] at hkb
  have HBO := Hid.mk_ hbo
  have HB1 := Hid.mk_ hb1
  have HKB := Hid.mk_ hkb
  have HFW := Hid.mk_ hFew
  have h1 := h.new hb1
  have HH1 := Hid.mk_ h1
  have HO := Hid.mk_ ho
  have hsl := hFew.len
  have HPF := Hid.mk_ (fun W => pick_any o.f (F.length : Int) (by omega) ho.f.1 ho.f.2 W)
  have HPG := Hid.mk_ (fun W => pick_any o.g (F.length : Int) (by omega) ho.g.1 ho.g.2 W)
  have HPL := Hid.mk_ (fun W => pick_any o.l (S.length : Int) (by omega) ho.l.1 ho.l.2 W)
  have rf := pickI_range o.f (F.length : Int) (by omega)
  have rg := pickI_range o.g (F.length : Int) (by omega)
  have rl := pickI_range o.l (S.length : Int) (by omega)
  obtain ⟨i, hi⟩ : ∃ i : Nat, pickI o.f F.length = (i : Int) := ⟨(pickI o.f F.length).toNat, by omega⟩
  obtain ⟨k, hk⟩ : ∃ i : Nat, pickI o.g F.length = (i : Int) := ⟨(pickI o.g F.length).toNat, by omega⟩
  obtain ⟨lv, hlv⟩ : ∃ i : Nat, pickI o.l S.length = (i : Int) := ⟨(pickI o.l S.length).toNat, by omega⟩
  rw [hi] at HPF rf
  rw [hk] at HPG rg
  rw [hlv] at HPL rl
  have hiF : i < F.length := by omega
  have hkF : k < F.length := by omega
  have hlS : lv < S.length := by omega
  have hiF1 : (i : Int) < F.length := by omega
  have hkF1 : (k : Int) < F.length := by omega
  have hlS1 : (lv : Int) < S.length := by omega
  have HZW : Hid (∀ q ∈ z, q < w.heap.size) := fun q hq => h.pa.zlt hq
  have HTW : Hid (∀ q, tblk tb sv fv yv V q → q < w.heap.size) := fun q hq => h.tbl.lt hq
  have HWB := Hid.mk_ h.below
  have HZ : Hid (bo ∉ z) := fun hz => by have := h.pa.zlt hz; omega
  obtain ⟨Af, cf, rfl⟩ := h.tbl.frow.shape
  obtain ⟨gf, cf', e, hgf, _⟩ := h1.tbl.frow.some_ hF
  cases e
  obtain ⟨gs, cs, rfl, hgs, _⟩ := h1.tbl.srow.some_ (by omega)
  have x2 := h1.tbl.blk.cell 2
  have x0 := h1.tbl.blk.cell 0
  have xl := h1.tbl.blk.lt
  obtain ⟨near, wh, f, g, hh, l, c, A, cA, ins, B, cB, cls⟩ := o
  simp only [OpD.cells] at hw1 HKB hkb
  have o2 := hkb.cell 2
  have o3 := hkb.cell 3
  have o5 := hkb.cell 5
  have o1 := hkb.cell 1
  have obl := hkb.lt
  simp only at hwh HPF HPG HPL
  have HW1 := Hid.mk_ hw1
  unfold OpD.agg
  simp only
  have HI := Hid.mk_ hi
  clear h ho hFew hw1 hb1 hkb hbo hi hk hlv rf rg rl h1 hsl
  go_enter Try.func10, Try.ntmps10
  go_upto_region 1 with fail
  rw [← HW1.out, ← HBO.out]
  go_big_quiet ((go_at_call 7; with_reducible exact quietly _ (HPF.out _)))
  go_upto_region 2 with fail
  obtain ⟨wa, hwa⟩ : ∃ wa, wa = w1.drewN nq := ⟨_, rfl⟩
  rw [← hwa]
  have HTa : Hid (TS w0 wa ab tb S N z F V (.slice (some ⟨gs, 0, none⟩) S.length cs) (.slice (some ⟨gf, 0, none⟩) F.length cf) yv) := by rw [hwa]; exact HH1.out.new (Drawn_below _ _)
  have HKa : Hid (Blk wa bo [.bool near, .int .i64 wh, .int .i64 f, .int .i64 g, .int .i64 hh, .int .i64 l, .int .i64 c, .slice A ins.length cA, .slice B cls.length cB] 37) := by rw [hwa]; exact HKB.out.drewN _
  have HBa : Hid (Below w.heap.size w wa) := by rw [hwa]; exact HB1.out.trans (Drawn_below _ _)
  clear x2 x0 xl o2 o3 o5 o1 obl hwa
  have x2 := HTa.out.tbl.blk.cell 2
  have xl := HTa.out.tbl.blk.lt
  have o3 := HKa.out.cell 3
  have obl := HKa.out.lt
  go_big_quiet ((go_at_call 7; with_reducible exact quietly _ (HPG.out _)))
  go_upto_region 3 with fail
  obtain ⟨wb, hwb⟩ : ∃ wb, wb = wa.drewN nq := ⟨_, rfl⟩
  rw [← hwb]
  have HTb : Hid (TS w0 wb ab tb S N z F V (.slice (some ⟨gs, 0, none⟩) S.length cs) (.slice (some ⟨gf, 0, none⟩) F.length cf) yv) := by rw [hwb]; exact HTa.out.new (Drawn_below _ _)
  have HKb : Hid (Blk wb bo [.bool near, .int .i64 wh, .int .i64 f, .int .i64 g, .int .i64 hh, .int .i64 l, .int .i64 c, .slice A ins.length cA, .slice B cls.length cB] 37) := by rw [hwb]; exact HKa.out.drewN _
  have HBb : Hid (Below w.heap.size w wb) := by rw [hwb]; exact HBa.out.trans (Drawn_below _ _)
  clear x2 xl o3 obl hwb
  have x0 := HTb.out.tbl.blk.cell 0
  have xl := HTb.out.tbl.blk.lt
  have o5 := HKb.out.cell 5
  have obl := HKb.out.lt
  go_big_quiet ((go_at_call 7; with_reducible exact quietly _ (HPL.out _)))
  go_upto_region 4 with fail
  obtain ⟨wq, hwq⟩ : ∃ wq, wq = wb.drewN nq := ⟨_, rfl⟩
  rw [← hwq]
  have HT : Hid (TS w0 wq ab tb S N z F V (.slice (some ⟨gs, 0, none⟩) S.length cs) (.slice (some ⟨gf, 0, none⟩) F.length cf) yv) := by rw [hwq]; exact HTb.out.new (Drawn_below _ _)
  have HK : Hid (Blk wq bo [.bool near, .int .i64 wh, .int .i64 f, .int .i64 g, .int .i64 hh, .int .i64 l, .int .i64 c, .slice A ins.length cA, .slice B cls.length cB] 37) := by rw [hwq]; exact HKb.out.drewN _
  have HB : Hid (Below w.heap.size w wq) := by rw [hwq]; exact HBb.out.trans (Drawn_below _ _)
  clear x0 xl o5 obl hwq HTb HKb HBb HTa HKa HBa HH1 HKB HB1 hgf hgs HPF HPG HPL
  have x2 := HT.out.tbl.blk.cell 2
  have xl := HT.out.tbl.blk.lt
  have o1 := HK.out.cell 1
  have obl := HK.out.lt
  have hs1 := HFW.out.sz _ (List.getElem_mem hlS)
  obtain ⟨sn, hsn⟩ : ∃ sn : Nat, S[lv]'hlS = (sn : Int) := ⟨(S[lv]'hlS).toNat, by omega⟩
  rw [hsn] at hs1
  obtain ⟨L1, hL1⟩ : ∃ L1, L1 = setL ins sn := ⟨_, rfl⟩
  have hL1l : L1.length = sn := by rw [hL1]; exact setL_length
  have HLG : Hid (∀ k (h : k < L1.length), L1[k]'h = ins.getD k false) := fun k h => by subst hL1; exact setL_get h
  have HLL := Hid.mk_ hL1l
  have HSN := Hid.mk_ hsn
  have HIN := Hid.mk_ HO.out.ins
  have hil : ins.length ≤ 9223372036854775807 := HO.out.ins.1
  have n2 : ¬ wh = 2 := by omega
  have n3 : ¬ wh = 3 := by omega
  have n4 : ¬ wh = 4 := by omega
  have n5 : ¬ wh = 5 := by omega
  have n6 : ¬ wh = 6 := by omega
  have m2 : (wh == 2) = false := by simpa using n2
  have m3 : (wh == 3) = false := by simpa using n3
  have m4 : (wh == 4) = false := by simpa using n4
  have m5 : (wh == 5) = false := by simpa using n5
  have m6 : (wh == 6) = false := by simpa using n6
  obtain ⟨i4, hi4, hb0, hb1', hb2⟩ := info_parts Try.info4
  clear hL1 hL1l hsn hwh
  go_upto_region 20 with fail
  clear n2 n3 n4 n5 n6 m2 m3 m4 m5 m6 o1
  go_wp2_with fail
  go_loopw [22, 23] (fun x22 x23 wr => ∃ (n : Nat) (A1 : Option Addr) (c1 : Nat), n ≤ sn ∧ x23 = .int .i64 (n : Int) ∧ x22 = .slice A1 n c1 ∧ Hid (PR w wr bo [.bool near, .int .i64 wh, .int .i64 f, .int .i64 g, .int .i64 hh, .int .i64 l, .int .i64 c, .slice A ins.length cA, .slice B cls.length cB] L1 n A1 c1) ∧ Hid (TS w0 wr ab tb S N z F V (.slice (some ⟨gs, 0, none⟩) S.length cs) (.slice (some ⟨gf, 0, none⟩) F.length cf) yv)) (fun _ x23 _ => sn - (intOf x23).toNat)
  case atStart => exact ⟨0, none, 0, Nat.zero_le _, rfl, rfl, ⟨Row.nil _ _ _, fun q hq => by simp [Value.ownBlock] at hq, HK.out, HB.out⟩, HT⟩
  case round =>
    obtain ⟨n, A1, c1, hn, rfl, rfl, HP, HTR⟩ := hrel
    have x0 := HTR.out.tbl.blk.cell 0
    have xl := HTR.out.tbl.blk.lt
    have s0 := row3 HTR.out.tbl.srow lv hlS
    rw [HSN.out] at s0
    have hgs := HTR.out.tbl.srow.lt gs rfl
    by_cases hlt : n < sn
    · have hlt1 : (n : Int) < sn := by omega
      have o7 := HP.out.blk.cell 7
      have obl2 := HP.out.blk.lt
      have hnL : n < L1.length := by rw [HLL.out]; exact hlt
      have hval := HLG.out n hnL
      have HSTEP : Hid (∀ (b : Bool) g' cap' w3, L1[n]'hnL = b → Row w3 4 1 (.slice (some ⟨g', 0, none⟩) (n + 1) cap') (n + 1) ((L1.take n).map Value.bool ++ [.bool b]) → (wr.alloc (.cells #[.bool b] 4)).grownBy w3 (Value.slice A1 n c1).ownBlock → ((Value.slice A1 n c1).ownBlock = some g' ∨ g' = wr.heap.size + 1) →
          Hid (PR w w3 bo [.bool near, .int .i64 wh, .int .i64 f, .int .i64 g, .int .i64 hh, .int .i64 l, .int .i64 c, .slice A ins.length cA, .slice B cls.length cB] L1 (n + 1) (some ⟨g', 0, none⟩) cap') ∧ Hid (TS w0 w3 ab tb S N z F V (.slice (some ⟨gs, 0, none⟩) S.length cs) (.slice (some ⟨gf, 0, none⟩) F.length cf) yv)) := fun b g' cap' w3 hb hrow hgrow hloc => by
        have hp := HP.out.step hrow hgrow hloc hnL hb
        refine ⟨hp, ?_⟩
        have hmo : ∀ q, q < w.heap.size → w3.heap[q]? = wr.heap[q]? := fun q hq => by
          rw [hp.below.block q hq, HP.out.below.block q hq]
        have hzz : ∀ q, q < wr.heap.size → (Value.slice A1 n c1).ownBlock ≠ some q → w3.heap[q]? = wr.heap[q]? := fun q hq hne => (hgrow.block q (by simp; omega) (fun e => hne e.symm)).trans (Below.heap_alloc _ _ _ hq)
        have hT := HTR.out
        refine ⟨hT.pa.move (by have := hgrow.size; simp at this; omega) (fun q hq => ?_), hT.tbl.move (fun q hq => ?_), hT.zB, hT.tB, ?_, hT.hasF⟩
        · exact hmo q (HZW.out q hq)
        · exact hmo q (HTW.out q hq)
        · exact HWB.out.trans (hp.below.mono HWB.out.size)
      by_cases hc : n < ins.length
      · have hc1 : (n : Int) < ins.length := by omega
        obtain ⟨g0, o0, rfl, hg0, hcs⟩ := (HIN.out.new HP.out.below).2 (by omega)
        have v0 := hcs n hc
        rw [getD_bool hc] at hval
        obtain ⟨bv, hbv⟩ : ∃ bv, bv = ins[n]'hc := ⟨_, rfl⟩
        rw [← hbv] at v0 hval
        have HVAL := Hid.mk_ hval
        clear hval hcs hbv
        go_wp2_with (at_builtin; refine wpList_append_row _ rfl _ _ 34 rfl 4 i4 (.bool false) 1 1 Try.underlying34 hi4 hb0 hb1' hb2 rfl (by decide) (.slice A1 n c1) n ((L1.take n).map Value.bool) rfl (HP.out.row.alloc _) ⟨wr.heap.size, 0, none⟩ 1 1 [.bool bv] rfl rfl (one_cells_at wr _ _ rfl) (by simp [Value.oneCell']) (by decide) (by unfold maxLen; omega) (by omega) (wr.heap.size + 1) (by simp) ?_; intro g' cap' w3 hrow hgrow hloc hlt'; have HSS := HSTEP.out _ _ _ _ HVAL.out hrow hgrow hloc; clear hrow hgrow hloc)
        exact ⟨⟨n + 1, _, _, by omega, by go_num, rfl, HSS⟩, by simp [intOf]; omega⟩
      · have hc1 : ¬ (n : Int) < ins.length := by omega
        have hval : L1[n]'hnL = false := by rw [hval]; simp [List.getD, List.getElem?_eq_none (show ins.length ≤ n by omega)]
        have HVAL := Hid.mk_ hval
        clear hval
        go_wp2_with (at_builtin; refine wpList_append_row _ rfl _ _ 34 rfl 4 i4 (.bool false) 1 1 Try.underlying34 hi4 hb0 hb1' hb2 rfl (by decide) (.slice A1 n c1) n ((L1.take n).map Value.bool) rfl (HP.out.row.alloc _) ⟨wr.heap.size, 0, none⟩ 1 1 [.bool false] rfl rfl (one_cells_at wr _ _ rfl) (by simp [Value.oneCell']) (by decide) (by unfold maxLen; omega) (by omega) (wr.heap.size + 1) (by simp) ?_; intro g' cap' w3 hrow hgrow hloc hlt'; have HSS := HSTEP.out _ _ _ _ HVAL.out hrow hgrow hloc; clear hrow hgrow hloc)
        exact ⟨⟨n + 1, _, _, by omega, by go_num, rfl, HSS⟩, by simp [intOf]; omega⟩
    · have hne : n = sn := by omega
      subst hne
      have hlt1 : ¬ ((n : Nat) : Int) < n := by omega
      have hrowL := HP.out.row
      rw [List.take_of_length_le (by rw [HLL.out]; exact Nat.le_refl _)] at hrowL
      obtain ⟨gi, ci, e, hgi, _⟩ := hrowL.some_ (by omega)
      cases e
      have hbin : BoolsIn wr (some ⟨gi, 0, none⟩) L1 := ⟨by rw [HLL.out]; omega, fun _ => ⟨gi, 0, rfl, hgi, fun j hj => by rw [Nat.zero_add]; exact bools4 hrowL HLL.out.symm j hj⟩⟩
      have hres := setA_res (M := 8192) (lv := (lv : Int)) (ins := L1) HTR.out.pa.good ⟨by omega, hlS1⟩ (by rw [Int.toNat_natCast, getD_mem hlS, HSN.out, HLL.out])
      have hop := set_any (lv := (lv : Int)) (c := c1) HTR.out.pa hbin
      rw [HLL.out] at hop
      obtain ⟨R, hR⟩ : ∃ R, R = setA S 8192 N (lv : Int) L1 := ⟨_, rfl⟩
      rw [← hR] at hres hop
      have HRES := Hid.mk_ hres
      have HOP := Hid.mk_ (hop.mono fun e w' hq => HTR.out.left hres.pre hq)
      have HROWL := Hid.mk_ hrowL
      have hgz : gi ∉ z := fun hz => by have := HZW.out gi hz; have := HP.out.own gi rfl; omega
      have HGZ := Hid.mk_ hgz
      clear hres hop hR hbin hrowL hgz
      go_upto_region 26 with (go_at_call 23; (with_reducible refine HOP.out.mono ?_); rintro e w2 ⟨rfl, hmods, z2, hts⟩; have HTS := Hid.mk_ hts; have HK2 := Hid.mk_ (HP.out.blk.mods hmods HZ.out); have HR2 := Hid.mk_ (HROWL.out.move (fun q hq => by cases hq; exact hmods.block gi hgi HGZ.out)); clear hts hmods)
      obtain ⟨pn, hpn⟩ : ∃ pn : Nat, prodI S = (pn : Int) := ⟨(prodI S).toNat, by have := HFW.out.pts; omega⟩
      have hpts := HFW.out.pts
      rw [hpn] at hpts
      have HPN := Hid.mk_ hpn
      obtain ⟨L2, hL2⟩ : ∃ L2, L2 = saysL S L1 lv := ⟨_, rfl⟩
      have hL2l : L2.length = pn := by rw [hL2, saysL_length, hpn]; simp
      have HL2G : Hid (∀ k (h : k < L2.length), L2[k]'h = L1.getD ((pt S (k : Int)).getD lv 0).toNat false) := fun k h => by subst hL2; exact saysL_get h
      have HL2 := Hid.mk_ hL2
      have HL2L := Hid.mk_ hL2l
      have hS12 := HFW.out.len
      clear hpn hL2 hL2l s0 x0 xl hgs
      go_wp2_with fail
      go_loopw [26, 27] (fun x26 x27 wr => ∃ (k : Nat) (A2 : Option Addr) (c2 : Nat), k ≤ pn ∧ x27 = .int .i64 (k : Int) ∧ x26 = .slice A2 k c2 ∧ Hid (PR w2 wr bo [.bool near, .int .i64 wh, .int .i64 f, .int .i64 g, .int .i64 hh, .int .i64 l, .int .i64 c, .slice A ins.length cA, .slice B cls.length cB] L2 k A2 c2)) (fun _ x27 _ => pn - (intOf x27).toNat)
      case atStart => exact ⟨0, none, 0, Nat.zero_le _, rfl, rfl, ⟨Row.nil _ _ _, fun q hq => by simp [Value.ownBlock] at hq, HK2.out, Below.refl _ _⟩⟩
      case round =>
        obtain ⟨k, A2, c2, hk, rfl, rfl, HP2⟩ := hrel
        have hT := HTS.out.new HP2.out.below
        have x1 : wr.cell? ⟨tb, 1, none⟩ = some (.int .i64 (pn : Int)) := by rw [← HPN.out]; exact hT.tbl.blk.cell 1
        have hbl := hT.tbl.blk.lt
        by_cases hkp : k < pn
        · have hkp1 : (k : Int) < pn := by omega
          have hpoint := point_any (n := (k : Int)) hT.tbl.blk hT.tbl.srow (fun s hs => by have := HFW.out.sz s hs; omega) (by omega) (by omega)
          have HPT := Hid.mk_ hpoint
          have hpt := pt_Pt S (k : Int) (fun s hs => (HFW.out.sz s hs).1)
          have hpe := hpt.each lv hlS
          rw [getD_mem hlS, HSN.out] at hpe
          have hptl : lv < (pt S (k : Int)).length := by rw [pt_length]; exact hlS
          obtain ⟨pv, hpv⟩ : ∃ pv : Nat, (pt S (k : Int)).getD lv 0 = (pv : Int) := ⟨((pt S (k : Int)).getD lv 0).toNat, by omega⟩
          rw [hpv] at hpe
          have hpvn : pv < n := by omega
          have hpvL : pv < L1.length := by rw [HLL.out]; exact hpvn
          have hpvn1 : (pv : Int) < n := by omega
          have hkL : k < L2.length := by rw [HL2L.out]; exact hkp
          have hval := HL2G.out k hkL
          rw [hpv, Int.toNat_natCast, getD_bool hpvL] at hval
          obtain ⟨bv, hbv⟩ : ∃ bv, bv = L1[pv]'hpvL := ⟨_, rfl⟩
          rw [← hbv] at hval
          have hcell := bools4 HR2.out HLL.out.symm pv hpvL
          rw [← hbv] at hcell
          have hgi2 := HR2.out.lt gi rfl
          have HVAL := Hid.mk_ hval
          have HPV := Hid.mk_ hpv
          clear hpoint hT hval hbv hpt hpe hpv
          go_upto_region 31 with (go_at_call 33; (with_reducible refine HPT.out.mono ?_); rintro e w3 ⟨v2, rfl, hrow2, hv2, hbel2⟩; have HRW := Hid.mk_ hrow2; have HB2 := Hid.mk_ hbel2; clear hrow2 hv2 hbel2)
          have hr2 := HRW.out
          rw [pt_length] at hr2
          obtain ⟨gp, cp, rfl, hgp, _⟩ := hr2.some_ (by omega)
          have p0 : w3.cell? ⟨gp, lv, none⟩ = some (.int .i64 (pv : Int)) := by
            have := hr2.cell lv (by omega)
            rw [List.getElem?_map, List.getElem?_eq_getElem hptl] at this
            rw [← HPV.out, getD_mem hptl]
            exact this
          have hbb : Below w2.heap.size w2 w3 := HP2.out.below.trans (HB2.out.mono HP2.out.below.size)
          have c0 : w3.cell? ⟨gi, pv, none⟩ = some (.bool bv) := (hbb.cell (p := ⟨gi, pv, none⟩) hgi2).trans hcell
          have hgi3 : gi < w3.heap.size := Nat.lt_of_lt_of_le hgi2 hbb.size
          have HP3 := Hid.mk_ (HP2.out.on HB2.out)
          have HBB := Hid.mk_ hbb
          clear hr2 hbb x1 hcell
          go_wp2_with (at_builtin; refine wpList_append_row _ rfl _ _ 34 rfl 4 i4 (.bool false) 1 1 Try.underlying34 hi4 hb0 hb1' hb2 rfl (by decide) (.slice A2 k c2) k ((L2.take k).map Value.bool) rfl (HP3.out.row.alloc _) ⟨w3.heap.size, 0, none⟩ 1 1 [.bool bv] rfl rfl (one_cells_at w3 _ _ rfl) (by simp [Value.oneCell']) (by decide) (by unfold maxLen; omega) (by omega) (w3.heap.size + 1) (by simp) ?_; intro g' cap' w4 hrow hgrow hloc hlt'; have HSS := Hid.mk_ (HP3.out.step hrow hgrow hloc hkL HVAL.out); clear hrow hgrow hloc)
          exact ⟨⟨k + 1, _, _, by omega, by go_num, rfl, HSS⟩, by simp [intOf]; omega⟩
        · have hke : k = pn := by omega
          subst hke
          have hkp1 : ¬ ((k : Nat) : Int) < k := by omega
          clear hT
          go_wp2_with fail
          refine bodyPost_ret (v := .tuple #[.int .i64 R.2.1, .slice A2 k c2, .int .i64 R.2.2]) (by simp [results, Try.results10, go_sem]) rfl ?_
          have hr := HP2.out.row
          rw [List.take_of_length_le (by rw [HL2L.out]; exact Nat.le_refl _)] at hr
          refine HTS.out.done (L := L2) HRES.out (by rw [HL2L.out]; exact hr) HP2.out.below HP2.out.own (fun e => ?_)
          rw [HRES.out.tab e, HL2.out]
          unfold saysL
          rw [Int.toNat_natCast]
end
end Go.Proofs.Ytmfdcaalbpikpaa
