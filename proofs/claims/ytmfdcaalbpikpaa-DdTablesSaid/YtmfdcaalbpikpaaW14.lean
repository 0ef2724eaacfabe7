/- A table's step: the operations. -/
import Derived.Test.YtmfdcaalbpikpaaQ8
namespace Go.Proofs.Ytmfdcaalbpikpaa
open Go.RowKit Go.Maps
set_option linter.unusedVariables false
set_option linter.unusedSimpArgs false
/-- a step is done -/
def StepDone (w0 : World) (ab tb : Nat) (S : List Int) (N : List Nd) (F : List Int) (V : List Value) (sv fv yv : Value) (e : Ending) (w' : World) : Prop :=
  ∃ (r er : Int) (v : Value) (N' : List Nd) (z' : List Nat), e = .returned (.tuple #[.int .i64 r, v, .int .i64 er]) ∧ (er = 0 ∨ er = 2) ∧ TS w0 w' ab tb S N' z' F V sv fv yv ∧
    (er = 0 → hasA N' r = true ∧ Row w' 4 1 v (tab S N' r).length ((tab S N' r).map Value.bool) ∧ ∀ k, v.ownBlock = some k → w0.heap.size ≤ k ∧ k ∉ z')
section
variable {w w' w0 : World} {tb ab : Nat} {S F : List Int} {V : List Value} {sv fv yv : Value} {N : List Nd} {z : List Nat}
/-- what an operation leaves of the state -/
def OpLeft (w0 w : World) (ab tb : Nat) (z : List Nat) (S F : List Int) (V : List Value) (sv fv yv : Value) (R : Out) (e : Ending) (w' : World) : Prop :=
  e = .returned (.tuple #[.int .i64 R.2.1, .int .i64 R.2.2]) ∧ Mods (· ∈ z) w w' ∧ ∃ z', TS w0 w' ab tb S R.1 z' F V sv fv yv
theorem TS.left {R : Out} {e : Ending} (h : TS w0 w ab tb S N z F V sv fv yv) (hp : N <+: R.1) (hq : OpPost w ab S 8192 z R e w') : OpLeft w0 w ab tb z S F V sv fv yv R e w' := by
  obtain ⟨h1, h2⟩ := hq
  obtain ⟨z', h3, h4, h5⟩ := h.op hp h2
  exact ⟨h1, h5, z', h3⟩
theorem TS.done {R : Out} {φ : List Int → Bool} {z' : List Nat} {v : Value} {w2 w3 : World} {L : List Bool} (h : TS w0 w2 ab tb S R.1 z' F V sv fv yv) (hr : Res S 8192 N R φ) (hrow : Row w3 4 1 v L.length (L.map Value.bool)) (hb : Below w2.heap.size w2 w3)
    (hv : ∀ k, v.ownBlock = some k → w2.heap.size ≤ k) (hL : R.2.2 = 0 → L = tab S R.1 R.2.1) : StepDone w0 ab tb S N F V sv fv yv (.returned (.tuple #[.int .i64 R.2.1, v, .int .i64 R.2.2])) w3 := by
  refine ⟨_, _, v, R.1, z', rfl, hr.err, h.new hb, fun e => ⟨(hr.ok e).1, ?_, fun k hk => ⟨?_, fun hz => ?_⟩⟩⟩
  · rw [← hL e]; exact hrow
  · have := hv k hk; have := h.below.size; omega
  · have := hv k hk; have := h.pa.zlt hz; omega
theorem putL_tab {wh fi fk lv cl : Int} {R : Out} {φ : List Int → Bool} (h : Res S 8192 N R φ) (e : R.2.2 = 0) (hp : ∀ n : Nat, putF S R.1 wh fi fk lv cl n = φ (pt S (n : Int))) : putL S R.1 wh fi fk lv cl = tab S R.1 R.2.1 := by
  rw [h.tab e]
  unfold putL
  exact List.map_congr_left fun n _ => hp n
set_option maxRecDepth 100000 in
set_option maxHeartbeats 8000000 in
theorem step_ops {o : OpD} (h : TS w0 w ab tb S N z F V sv fv yv) (hFew : Few S) (ho : OpDOk w o) (hF : 0 < F.length) (hFl : F.length ≤ 2000000000000) (hwh : 2 ≤ o.wh ∧ o.wh ≤ 6) :
    Calls Try.prog 10 #[.pointer (some ⟨tb, 0, none⟩), .pointer (some ⟨ab, 0, none⟩), o.agg] w (StepDone w0 ab tb S N F V sv fv yv) := by
  obtain ⟨w1, hw1⟩ : ∃ w1, w1 = w.alloc (.cells o.cells.toArray 37) := ⟨_, rfl⟩
  have hb1 : Below w.heap.size w w1 := by rw [hw1]; exact (Below.refl _ _).alloc (Nat.le_refl _) _
  have hkb := Blk.new w o.cells 37
  rw [← hw1] at hkb
  obtain ⟨bo, hbo⟩ : ∃ b, b = w.heap.size := ⟨_, rfl⟩
  rw [← hbo] at hkb
  have HBO := Hid.mk_ hbo
  have HB1 := Hid.mk_ hb1
  have HKB := Hid.mk_ hkb
  have HFW := Hid.mk_ hFew
  have h1 := h.new hb1
  have HH1 := Hid.mk_ h1
  have HO := Hid.mk_ ho
  have hsl := hFew.len
  have HPF := Hid.mk_ (fun W => pick_any o.f (F.length : Int) (by omega) ho.f.1 ho.f.2 W)
  have HPG := Hid.mk_ (fun W => pick_any o.g (F.length : Int) (by omega) ho.g.1 ho.g.2 W)
  have HPL := Hid.mk_ (fun W => pick_any o.l (S.length : Int) (by omega) ho.l.1 ho.l.2 W)
  have rf := pickI_range o.f (F.length : Int) (by omega)
  have rg := pickI_range o.g (F.length : Int) (by omega)
  have rl := pickI_range o.l (S.length : Int) (by omega)
  obtain ⟨i, hi⟩ : ∃ i : Nat, pickI o.f F.length = (i : Int) := ⟨(pickI o.f F.length).toNat, by omega⟩
  obtain ⟨k, hk⟩ : ∃ i : Nat, pickI o.g F.length = (i : Int) := ⟨(pickI o.g F.length).toNat, by omega⟩
  obtain ⟨lv, hlv⟩ : ∃ i : Nat, pickI o.l S.length = (i : Int) := ⟨(pickI o.l S.length).toNat, by omega⟩
  rw [hi] at HPF rf
  rw [hk] at HPG rg
  rw [hlv] at HPL rl
  have hiF : i < F.length := by omega
  have hkF : k < F.length := by omega
  have hlS : lv < S.length := by omega
  have hiF1 : (i : Int) < F.length := by omega
  have hkF1 : (k : Int) < F.length := by omega
  have hlS1 : (lv : Int) < S.length := by omega
  have HPUT : Hid (∀ W R z', TS w0 W ab tb S R z' F V sv fv yv → Calls Try.prog 34 #[.pointer (some ⟨tb, 0, none⟩), o.agg, .int .i64 (i : Int), .int .i64 (k : Int)] W
      (BoolsPost W (putL S R o.wh (F[i]'hiF) (F[k]'hkF) (lv : Int) (pickI o.c (S[lv]'hlS))))) := fun W R z' hW => by
    have := put_tab hW hFew ho.l ho.c hiF hkF hwh
    rw [hlv, Int.toNat_natCast, getD_mem hlS] at this
    exact this
  have HZ : Hid (bo ∉ z) := fun hz => by have := h.pa.zlt hz; omega
  obtain ⟨Af, cf, rfl⟩ := h.tbl.frow.shape
  obtain ⟨gf, cf', e, hgf, _⟩ := h1.tbl.frow.some_ hF
  cases e
  obtain ⟨gs, cs, rfl, hgs, _⟩ := h1.tbl.srow.some_ (by omega)
  have x2 := h1.tbl.blk.cell 2
  have x0 := h1.tbl.blk.cell 0
  have xl := h1.tbl.blk.lt
  obtain ⟨near, wh, f, g, hh, l, c, A, cA, ins, B, cB, cls⟩ := o
  simp only [OpD.cells] at hw1 HKB hkb
  have o2 := hkb.cell 2
  have o3 := hkb.cell 3
  have o5 := hkb.cell 5
  have o1 := hkb.cell 1
  have obl := hkb.lt
  simp only at hwh HPF HPG HPL HPUT
  have HW1 := Hid.mk_ hw1
  unfold OpD.agg at HPUT ⊢
  simp only at HPUT ⊢
  have HI := Hid.mk_ hi
  clear h ho hFew hw1 hb1 hkb hbo hi hk hlv rf rg rl h1 hsl
  go_enter Try.func10, Try.ntmps10
  go_upto_region 1 with fail
  rw [← HW1.out, ← HBO.out]
  go_big_quiet ((go_at_call 7; with_reducible exact quietly _ (HPF.out _)))
  go_upto_region 2 with fail
  obtain ⟨wa, hwa⟩ : ∃ wa, wa = w1.drewN nq := ⟨_, rfl⟩
  rw [← hwa]
  have HTa : Hid (TS w0 wa ab tb S N z F V (.slice (some ⟨gs, 0, none⟩) S.length cs) (.slice (some ⟨gf, 0, none⟩) F.length cf) yv) := by rw [hwa]; exact HH1.out.new (Drawn_below _ _)
  have HKa : Hid (Blk wa bo [.bool near, .int .i64 wh, .int .i64 f, .int .i64 g, .int .i64 hh, .int .i64 l, .int .i64 c, .slice A ins.length cA, .slice B cls.length cB] 37) := by rw [hwa]; exact HKB.out.drewN _
  have HBa : Hid (Below w.heap.size w wa) := by rw [hwa]; exact HB1.out.trans (Drawn_below _ _)
  clear x2 x0 xl o2 o3 o5 o1 obl hwa
  have x2 := HTa.out.tbl.blk.cell 2
  have xl := HTa.out.tbl.blk.lt
  have o3 := HKa.out.cell 3
  have obl := HKa.out.lt
  go_big_quiet ((go_at_call 7; with_reducible exact quietly _ (HPG.out _)))
  go_upto_region 3 with fail
  obtain ⟨wb, hwb⟩ : ∃ wb, wb = wa.drewN nq := ⟨_, rfl⟩
  rw [← hwb]
  have HTb : Hid (TS w0 wb ab tb S N z F V (.slice (some ⟨gs, 0, none⟩) S.length cs) (.slice (some ⟨gf, 0, none⟩) F.length cf) yv) := by rw [hwb]; exact HTa.out.new (Drawn_below _ _)
  have HKb : Hid (Blk wb bo [.bool near, .int .i64 wh, .int .i64 f, .int .i64 g, .int .i64 hh, .int .i64 l, .int .i64 c, .slice A ins.length cA, .slice B cls.length cB] 37) := by rw [hwb]; exact HKa.out.drewN _
  have HBb : Hid (Below w.heap.size w wb) := by rw [hwb]; exact HBa.out.trans (Drawn_below _ _)
  clear x2 xl o3 obl hwb
  have x0 := HTb.out.tbl.blk.cell 0
  have xl := HTb.out.tbl.blk.lt
  have o5 := HKb.out.cell 5
  have obl := HKb.out.lt
  go_big_quiet ((go_at_call 7; with_reducible exact quietly _ (HPL.out _)))
  go_upto_region 4 with fail
  obtain ⟨wq, hwq⟩ : ∃ wq, wq = wb.drewN nq := ⟨_, rfl⟩
  rw [← hwq]
  have HT : Hid (TS w0 wq ab tb S N z F V (.slice (some ⟨gs, 0, none⟩) S.length cs) (.slice (some ⟨gf, 0, none⟩) F.length cf) yv) := by rw [hwq]; exact HTb.out.new (Drawn_below _ _)
  have HK : Hid (Blk wq bo [.bool near, .int .i64 wh, .int .i64 f, .int .i64 g, .int .i64 hh, .int .i64 l, .int .i64 c, .slice A ins.length cA, .slice B cls.length cB] 37) := by rw [hwq]; exact HKb.out.drewN _
  have HB : Hid (Below w.heap.size w wq) := by rw [hwq]; exact HBb.out.trans (Drawn_below _ _)
  clear x0 xl o5 obl hwq HTb HKb HBb HTa HKa HBa HH1 HKB HB1 hgf hgs HPF HPG HPL
  have x2 := HT.out.tbl.blk.cell 2
  have xl := HT.out.tbl.blk.lt
  have o1 := HK.out.cell 1
  have obl := HK.out.lt
  have fi0 := row3 HT.out.tbl.frow i hiF
  have fk0 := row3 HT.out.tbl.frow k hkF
  have hgf := HT.out.tbl.frow.lt gf rfl
  have hGo := HT.out.pa.good
  have hA := HT.out.hasF _ (List.getElem_mem hiF)
  have hB := HT.out.hasF _ (List.getElem_mem hkF)
  obtain ⟨fi, hfi⟩ : ∃ fi, fi = F[i]'hiF := ⟨_, rfl⟩
  obtain ⟨fk, hfk⟩ : ∃ fk, fk = F[k]'hkF := ⟨_, rfl⟩
  rw [← hfi] at fi0 hA HPUT
  rw [← hfk] at fk0 hB HPUT
  have HGO := Hid.mk_ hGo
  have HA := Hid.mk_ hA
  have HBB := Hid.mk_ hB
  clear hGo hA hB
  have HCELL : Hid (∀ W R z', TS w0 W ab tb S R z' F V (.slice (some ⟨gs, 0, none⟩) S.length cs) (.slice (some ⟨gf, 0, none⟩) F.length cf) yv → W.cell? ⟨tb, 2, none⟩ = some (.slice (some ⟨gf, 0, none⟩) F.length cf) ∧ W.cell? ⟨gf, i, none⟩ = some (.int .i64 fi) ∧ W.cell? ⟨gf, k, none⟩ = some (.int .i64 fk)) := fun W R z' hW =>
    ⟨hW.tbl.blk.cell 2, by rw [hfi]; exact row3 hW.tbl.frow i hiF, by rw [hfk]; exact row3 hW.tbl.frow k hkF⟩
  clear hfi hfk
  rcases (by omega : wh = 2 ∨ wh = 3 ∨ wh = 4 ∨ wh = 5 ∨ wh = 6) with rfl | rfl | rfl | rfl | rfl
  · have hres := binA_res (op := 2) (f := fi) (g := 1) HGO.out HA.out (has01 (.inr rfl))
    have hop := not_any (f := fi) HT.out.pa
    obtain ⟨R, hR⟩ : ∃ R, R = binA 2 S 8192 N fi 1 := ⟨_, rfl⟩
    rw [← hR] at hres hop
    have HRES := Hid.mk_ hres
    have HOP := Hid.mk_ (hop.mono fun e w' hq => HT.out.left hres.pre hq)
    clear hres hop hR
    go_upto_region 7 with (go_at_call 25; (with_reducible refine HOP.out.mono ?_); rintro e w2 ⟨rfl, hmods, z2, hts⟩; have HTS := Hid.mk_ hts; have HK2 := Hid.mk_ (HK.out.mods hmods HZ.out); clear hts hmods)
    have q0 := HK2.out.cell 0
    have q1 := HK2.out.cell 1
    have q2 := HK2.out.cell 2
    have q3 := HK2.out.cell 3
    have q4 := HK2.out.cell 4
    have q5 := HK2.out.cell 5
    have q6 := HK2.out.cell 6
    have q7 := HK2.out.cell 7
    have q8 := HK2.out.cell 8
    have ql := HK2.out.lt
    have HPU := Hid.mk_ (HPUT.out w2 R.1 z2 HTS.out)
    go_wp2_with (go_at_call 34; (with_reducible refine HPU.out.mono ?_); rintro e w3 ⟨v, rfl, hrow, hv, hb3⟩)
    refine bodyPost_ret (v := .tuple #[.int .i64 R.2.1, v, .int .i64 R.2.2]) (by simp [results, Try.results10, go_sem]) rfl ?_
    refine HTS.out.done HRES.out hrow hb3 hv (fun e => putL_tab HRES.out e (fun n => ?_))
    have hpt := pt_Pt S (n : Int) (fun s hs => (HFW.out.sz s hs).1)
    have d1 := den_ext HGO.out hpt HRES.out.pre HA.out
    show (if (2 : Int) = 2 then !(den R.1 (pt S (n : Int)) fi) else _) = opB 2 (den N (pt S (n : Int)) fi) (den N (pt S (n : Int)) 1)
    rw [if_pos rfl, d1, den1]
    cases den N (pt S (n : Int)) fi <;> rfl
  · have hbd : Below wq.heap.size wq wq.drew := Below.drew (Below.refl _ wq)
    have hres := binA_res (op := 0) (f := fi) (g := fk) HGO.out HA.out HBB.out
    have hop := and_any (f := fi) (g := fk) (HT.out.new hbd).pa
    obtain ⟨R, hR⟩ : ∃ R, R = binA 0 S 8192 N fi fk := ⟨_, rfl⟩
    rw [← hR] at hres hop
    have HRES := Hid.mk_ hres
    have HOP := Hid.mk_ (hop.mono fun e w' hq => (HT.out.new hbd).left hres.pre hq)
    clear hres hop hR hbd
    have x2d : wq.drew.cell? ⟨tb, 2, none⟩ = some (.slice (some ⟨gf, 0, none⟩) F.length cf) := x2
    have fi0d : wq.drew.cell? ⟨gf, i, none⟩ = some (.int .i64 fi) := fi0
    have fk0d : wq.drew.cell? ⟨gf, k, none⟩ = some (.int .i64 fk) := fk0
    go_upto_region 9 with fail
    go_region_held3 (fun w' => w'.cell? ⟨tb, 2, none⟩ = some (.slice (some ⟨gf, 0, none⟩) F.length cf) ∧ w'.cell? ⟨gf, i, none⟩ = some (.int .i64 fi) ∧ w'.cell? ⟨gf, k, none⟩ = some (.int .i64 fk)) (first | exact ⟨x2d, fi0d, fk0d⟩ | assumption)
      (first
        | (go_at_call 24; (with_reducible refine HOP.out.mono ?_); rintro e w2 ⟨rfl, hmods, z2, hts⟩; have HTS := Hid.mk_ hts; have HK2 := Hid.mk_ (HK.out.drew.mods hmods HZ.out); have hS := HCELL.out w2 R.1 z2 hts; clear hts hmods))
    all_goals (
      have q0 := HK2.out.cell 0
      have q1 := HK2.out.cell 1
      have q2 := HK2.out.cell 2
      have q3 := HK2.out.cell 3
      have q4 := HK2.out.cell 4
      have q5 := HK2.out.cell 5
      have q6 := HK2.out.cell 6
      have q7 := HK2.out.cell 7
      have q8 := HK2.out.cell 8
      have ql := HK2.out.lt
      have HPU := Hid.mk_ (HPUT.out w2 R.1 z2 HTS.out)
      go_wp2_with (go_at_call 34; (with_reducible refine HPU.out.mono ?_); rintro e w3 ⟨v, rfl, hrow, hv, hb3⟩)
      refine bodyPost_ret (v := .tuple #[.int .i64 R.2.1, v, .int .i64 R.2.2]) (by simp [results, Try.results10, go_sem]) rfl ?_
      refine HTS.out.done HRES.out hrow hb3 hv (fun e => putL_tab HRES.out e (fun n => ?_))
      have hpt := pt_Pt S (n : Int) (fun s hs => (HFW.out.sz s hs).1)
      have d1 := den_ext HGO.out hpt HRES.out.pre HA.out
      have d2 := den_ext HGO.out hpt HRES.out.pre HBB.out
      show putF S R.1 3 fi fk _ _ n = opB 0 (den N (pt S (n : Int)) fi) (den N (pt S (n : Int)) fk)
      unfold putF
      rw [if_neg (by decide), if_pos rfl, d1, d2]
      rfl)
  · have hbd : Below wq.heap.size wq wq.drew := Below.drew (Below.refl _ wq)
    have hres := binA_res (op := 1) (f := fi) (g := fk) HGO.out HA.out HBB.out
    have hop := or_any (f := fi) (g := fk) (HT.out.new hbd).pa
    obtain ⟨R, hR⟩ : ∃ R, R = binA 1 S 8192 N fi fk := ⟨_, rfl⟩
    rw [← hR] at hres hop
    have HRES := Hid.mk_ hres
    have HOP := Hid.mk_ (hop.mono fun e w' hq => (HT.out.new hbd).left hres.pre hq)
    clear hres hop hR hbd
    have x2d : wq.drew.cell? ⟨tb, 2, none⟩ = some (.slice (some ⟨gf, 0, none⟩) F.length cf) := x2
    have fi0d : wq.drew.cell? ⟨gf, i, none⟩ = some (.int .i64 fi) := fi0
    have fk0d : wq.drew.cell? ⟨gf, k, none⟩ = some (.int .i64 fk) := fk0
    go_upto_region 12 with fail
    go_region_held3 (fun w' => w'.cell? ⟨tb, 2, none⟩ = some (.slice (some ⟨gf, 0, none⟩) F.length cf) ∧ w'.cell? ⟨gf, i, none⟩ = some (.int .i64 fi) ∧ w'.cell? ⟨gf, k, none⟩ = some (.int .i64 fk)) (first | exact ⟨x2d, fi0d, fk0d⟩ | assumption)
      (first
        | (go_at_call 35; (with_reducible refine HOP.out.mono ?_); rintro e w2 ⟨rfl, hmods, z2, hts⟩; have HTS := Hid.mk_ hts; have HK2 := Hid.mk_ (HK.out.drew.mods hmods HZ.out); have hS := HCELL.out w2 R.1 z2 hts; clear hts hmods))
    all_goals (
      have q0 := HK2.out.cell 0
      have q1 := HK2.out.cell 1
      have q2 := HK2.out.cell 2
      have q3 := HK2.out.cell 3
      have q4 := HK2.out.cell 4
      have q5 := HK2.out.cell 5
      have q6 := HK2.out.cell 6
      have q7 := HK2.out.cell 7
      have q8 := HK2.out.cell 8
      have ql := HK2.out.lt
      have HPU := Hid.mk_ (HPUT.out w2 R.1 z2 HTS.out)
      go_wp2_with (go_at_call 34; (with_reducible refine HPU.out.mono ?_); rintro e w3 ⟨v, rfl, hrow, hv, hb3⟩)
      refine bodyPost_ret (v := .tuple #[.int .i64 R.2.1, v, .int .i64 R.2.2]) (by simp [results, Try.results10, go_sem]) rfl ?_
      refine HTS.out.done HRES.out hrow hb3 hv (fun e => putL_tab HRES.out e (fun n => ?_))
      have hpt := pt_Pt S (n : Int) (fun s hs => (HFW.out.sz s hs).1)
      have d1 := den_ext HGO.out hpt HRES.out.pre HA.out
      have d2 := den_ext HGO.out hpt HRES.out.pre HBB.out
      show putF S R.1 4 fi fk _ _ n = opB 1 (den N (pt S (n : Int)) fi) (den N (pt S (n : Int)) fk)
      unfold putF
      rw [if_neg (by decide), if_neg (by decide), if_pos rfl, d1, d2]
      rfl)
  · have hbd : Below wq.heap.size wq wq.drew := Below.drew (Below.refl _ wq)
    have hres := binA_res (op := 2) (f := fi) (g := fk) HGO.out HA.out HBB.out
    have hop := xor_any (f := fi) (g := fk) (HT.out.new hbd).pa
    obtain ⟨R, hR⟩ : ∃ R, R = binA 2 S 8192 N fi fk := ⟨_, rfl⟩
    rw [← hR] at hres hop
    have HRES := Hid.mk_ hres
    have HOP := Hid.mk_ (hop.mono fun e w' hq => (HT.out.new hbd).left hres.pre hq)
    clear hres hop hR hbd
    have x2d : wq.drew.cell? ⟨tb, 2, none⟩ = some (.slice (some ⟨gf, 0, none⟩) F.length cf) := x2
    have fi0d : wq.drew.cell? ⟨gf, i, none⟩ = some (.int .i64 fi) := fi0
    have fk0d : wq.drew.cell? ⟨gf, k, none⟩ = some (.int .i64 fk) := fk0
    go_upto_region 15 with fail
    go_region_held3 (fun w' => w'.cell? ⟨tb, 2, none⟩ = some (.slice (some ⟨gf, 0, none⟩) F.length cf) ∧ w'.cell? ⟨gf, i, none⟩ = some (.int .i64 fi) ∧ w'.cell? ⟨gf, k, none⟩ = some (.int .i64 fk)) (first | exact ⟨x2d, fi0d, fk0d⟩ | assumption)
      (first
        | (go_at_call 36; (with_reducible refine HOP.out.mono ?_); rintro e w2 ⟨rfl, hmods, z2, hts⟩; have HTS := Hid.mk_ hts; have HK2 := Hid.mk_ (HK.out.drew.mods hmods HZ.out); have hS := HCELL.out w2 R.1 z2 hts; clear hts hmods))
    all_goals (
      have q0 := HK2.out.cell 0
      have q1 := HK2.out.cell 1
      have q2 := HK2.out.cell 2
      have q3 := HK2.out.cell 3
      have q4 := HK2.out.cell 4
      have q5 := HK2.out.cell 5
      have q6 := HK2.out.cell 6
      have q7 := HK2.out.cell 7
      have q8 := HK2.out.cell 8
      have ql := HK2.out.lt
      have HPU := Hid.mk_ (HPUT.out w2 R.1 z2 HTS.out)
      go_wp2_with (go_at_call 34; (with_reducible refine HPU.out.mono ?_); rintro e w3 ⟨v, rfl, hrow, hv, hb3⟩)
      refine bodyPost_ret (v := .tuple #[.int .i64 R.2.1, v, .int .i64 R.2.2]) (by simp [results, Try.results10, go_sem]) rfl ?_
      refine HTS.out.done HRES.out hrow hb3 hv (fun e => putL_tab HRES.out e (fun n => ?_))
      have hpt := pt_Pt S (n : Int) (fun s hs => (HFW.out.sz s hs).1)
      have d1 := den_ext HGO.out hpt HRES.out.pre HA.out
      have d2 := den_ext HGO.out hpt HRES.out.pre HBB.out
      show putF S R.1 5 fi fk _ _ n = opB 2 (den N (pt S (n : Int)) fi) (den N (pt S (n : Int)) fk)
      unfold putF
      rw [if_neg (by decide), if_neg (by decide), if_neg (by decide), if_pos rfl, d1, d2]
      rfl)
  · have hbd : Below wq.heap.size wq wq.drew := Below.drew (Below.refl _ wq)
    have hs1 := HFW.out.sz _ (List.getElem_mem hlS)
    have HPC := Hid.mk_ (fun W => pick_any c (S[lv]'hlS) (by omega) HO.out.c.1 HO.out.c.2 W)
    have rc := pickI_range c (S[lv]'hlS) (by omega)
    have hres := resA_res (f := fi) (lv := (lv : Int)) (cl := pickI c (S[lv]'hlS)) HGO.out HA.out ⟨by omega, hlS1⟩ (by rw [Int.toNat_natCast, getD_mem hlS]; exact rc)
    have hop := restrict_any (f := fi) (lv := (lv : Int)) (cl := pickI c (S[lv]'hlS)) (HT.out.new hbd).pa
    obtain ⟨R, hR⟩ : ∃ R, R = resA S 8192 (lv : Int) (pickI c (S[lv]'hlS)) N fi := ⟨_, rfl⟩
    rw [← hR] at hres hop
    have s0 := row3 HT.out.tbl.srow lv hlS
    have hgs := HT.out.tbl.srow.lt gs rfl
    have x0 := HT.out.tbl.blk.cell 0
    have o6 := HK.out.cell 6
    obtain ⟨sl, hsl⟩ : ∃ sl, sl = S[lv]'hlS := ⟨_, rfl⟩
    rw [← hsl] at hop hres HPC HPUT s0 rc
    obtain ⟨cl, hcl⟩ : ∃ cl, cl = pickI c sl := ⟨_, rfl⟩
    rw [← hcl] at hop hres HPC HPUT
    have HRES := Hid.mk_ hres
    have HOP := Hid.mk_ (hop.mono fun e w' hq => (HT.out.new hbd).left hres.pre hq)
    have HCELL6 : Hid (∀ W R z', TS w0 W ab tb S R z' F V (.slice (some ⟨gs, 0, none⟩) S.length cs) (.slice (some ⟨gf, 0, none⟩) F.length cf) yv → Blk W bo _ 37 → W.cell? ⟨tb, 2, none⟩ = some (.slice (some ⟨gf, 0, none⟩) F.length cf) ∧ W.cell? ⟨gf, i, none⟩ = some (.int .i64 fi) ∧ W.cell? ⟨tb, 0, none⟩ = some (.slice (some ⟨gs, 0, none⟩) S.length cs) ∧ W.cell? ⟨gs, lv, none⟩ = some (.int .i64 sl) ∧ W.cell? ⟨bo, 6, none⟩ = some (.int .i64 c)) := fun W R z' hW hKW =>
      ⟨hW.tbl.blk.cell 2, (HCELL.out W R z' hW).2.1, hW.tbl.blk.cell 0, by rw [hsl]; exact row3 hW.tbl.srow lv hlS, (show Blk W bo [.bool near, .int .i64 6, .int .i64 f, .int .i64 g, .int .i64 hh, .int .i64 l, .int .i64 c, .slice A ins.length cA, .slice B cls.length cB] 37 from hKW).cell 6⟩
    have HSC : Hid (0 ≤ cl ∧ cl < S.getD lv 0) := by rw [getD_mem hlS, ← hsl, hcl]; exact rc
    clear hres hop hR hbd hcl rc hs1 hsl
    have x2d : wq.drew.cell? ⟨tb, 2, none⟩ = some (.slice (some ⟨gf, 0, none⟩) F.length cf) := x2
    have fi0d : wq.drew.cell? ⟨gf, i, none⟩ = some (.int .i64 fi) := fi0
    have x0d : wq.drew.cell? ⟨tb, 0, none⟩ = some (.slice (some ⟨gs, 0, none⟩) S.length cs) := x0
    have s0d : wq.drew.cell? ⟨gs, lv, none⟩ = some (.int .i64 sl) := s0
    have o6d : wq.drew.cell? ⟨bo, 6, none⟩ = some (.int .i64 c) := o6
    go_upto_region 18 with fail
    go_region_held3 (fun w' => w'.cell? ⟨tb, 2, none⟩ = some (.slice (some ⟨gf, 0, none⟩) F.length cf) ∧ w'.cell? ⟨gf, i, none⟩ = some (.int .i64 fi) ∧ w'.cell? ⟨tb, 0, none⟩ = some (.slice (some ⟨gs, 0, none⟩) S.length cs) ∧ w'.cell? ⟨gs, lv, none⟩ = some (.int .i64 sl) ∧ w'.cell? ⟨bo, 6, none⟩ = some (.int .i64 c)) (first | exact ⟨x2d, fi0d, x0d, s0d, o6d⟩ | assumption)
      (first
        | (go_at_call 7; (with_reducible refine (HPC.out _).mono ?_); rintro e w' ⟨rfl, rfl⟩)
        | (go_at_call 26; (with_reducible refine HOP.out.mono ?_); rintro e w2 ⟨rfl, hmods, z2, hts⟩; have HTS := Hid.mk_ hts; have HK2 := Hid.mk_ (HK.out.drew.mods hmods HZ.out); have hS := HCELL6.out w2 R.1 z2 hts HK2.out; clear hts hmods))
    all_goals (
      have q0 := HK2.out.cell 0
      have q1 := HK2.out.cell 1
      have q2 := HK2.out.cell 2
      have q3 := HK2.out.cell 3
      have q4 := HK2.out.cell 4
      have q5 := HK2.out.cell 5
      have q6 := HK2.out.cell 6
      have q7 := HK2.out.cell 7
      have q8 := HK2.out.cell 8
      have ql := HK2.out.lt
      have HPU := Hid.mk_ (HPUT.out w2 R.1 z2 HTS.out)
      go_wp2_with (go_at_call 34; (with_reducible refine HPU.out.mono ?_); rintro e w3 ⟨v, rfl, hrow, hv, hb3⟩)
      refine bodyPost_ret (v := .tuple #[.int .i64 R.2.1, v, .int .i64 R.2.2]) (by simp [results, Try.results10, go_sem]) rfl ?_
      refine HTS.out.done HRES.out hrow hb3 hv (fun e => putL_tab HRES.out e (fun n => ?_))
      have hpt := pt_Pt S (n : Int) (fun s hs => (HFW.out.sz s hs).1)
      have hC : 0 ≤ cl ∧ cl < S.getD lv 0 := by
        have := HSC.out
        exact this
      have d1 := den_ext HGO.out (hpt.set hC) HRES.out.pre HA.out
      show putF S R.1 6 fi fk _ _ n = den N ((pt S (n : Int)).set ((lv : Int)).toNat cl) fi
      unfold putF
      rw [if_neg (by decide), if_neg (by decide), if_neg (by decide), if_neg (by decide), Int.toNat_natCast, d1])
end
end Go.Proofs.Ytmfdcaalbpikpaa
