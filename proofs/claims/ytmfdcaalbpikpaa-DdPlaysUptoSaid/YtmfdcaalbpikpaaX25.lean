/- looks: Eval. -/
import Derived.Test.YtmfdcaalbpikpaaX23
namespace Go.Proofs.Ytmfdcaalbpikpaa
open Go.RowKit Go.Maps
set_option linter.unusedVariables false
set_option linter.unusedSimpArgs false
theorem size3' : (Try.prog.info? 3).map (·.size) = some 1 := by kernel_rfl
section
variable {B n : Nat} {w0 w w1 w2 w' : World} {wb ab xb : Nat} {S : List Int} {M : Int} {lv : Value} {es : List Value} {N N' : List Nd} {zp zr : List Nat}
set_option maxRecDepth 100000 in
set_option maxHeartbeats 8000000 in
theorem looks_eval {o : OpD} (h : DS B n w0 w wb ab xb S M lv es N zp zr) (hwh : o.wh = 7) (hi : IntsIn w o.B o.cls) (hil : o.cls.length ≤ 20000000000000) :
    Calls Try.prog 20 #[.pointer (some ⟨wb, 0, none⟩), o.agg] w (LooksPost B n w0 wb ab xb S M) := by
  obtain ⟨w1, hw1⟩ : ∃ w1, w1 = w.alloc (.cells o.cells.toArray 37) := ⟨_, rfl⟩
  have hb1 : Below w.heap.size w w1 := by rw [hw1]; exact (Below.refl _ _).alloc (Nat.le_refl _) _
  have hkb := Blk.new w o.cells 37
  rw [← hw1] at hkb
  obtain ⟨bo, hbo⟩ : ∃ b, b = w.heap.size := ⟨_, rfl⟩
  rw [← hbo] at hkb
  have HBO := Hid.mk_ hbo
  have HH := Hid.mk_ h
  have HI := Hid.mk_ hi
  obtain ⟨go, hgo⟩ : ∃ go, go = w1.heap.size := ⟨_, rfl⟩
  obtain ⟨w4, hw4⟩ : ∃ w4, w4 = w1.alloc (.cells (List.replicate (o.cls.length + 1) (Value.int .i64 0)).toArray 3) := ⟨_, rfl⟩
  have hb4 : Below w1.heap.size w1 w4 := by rw [hw4]; exact (Below.refl _ _).alloc (Nat.le_refl _) _
  have hblk4 : Blk w4 go (List.replicate (o.cls.length + 1) (.int .i64 0)) 3 := by rw [hw4, hgo]; exact Blk.new w1 _ 3
  have hk4 : Blk w4 bo o.cells 37 := hkb.below hb4 hkb.lt
  have hi4 := (hi.new hb1).new hb4
  have HGO := Hid.mk_ hgo
  have HW4 := Hid.mk_ hw4
  have hpos : 0 < (o.cls.map (Value.int .i64)).length → (some (⟨go, 0, none⟩ : Addr)) = some ⟨go, 0, none⟩ ∧ ∃ ad, o.B = some ad ∧ ∀ j v, (o.cls.map (Value.int .i64))[j]? = some v → w4.cell? (ad.add j) = some v := fun h0 => by
    obtain ⟨g, p, e, hg, hc⟩ := hi4.2 (by simpa using h0)
    refine ⟨rfl, ⟨g, p, none⟩, e, fun j v hv => ?_⟩
    rw [Addr.add_lit]
    obtain ⟨hjl, e2⟩ := List.getElem?_eq_some_iff.1 hv
    rw [List.length_map] at hjl
    rw [List.getElem_map] at e2
    rw [← e2]
    exact hc j hjl
  have HPOS := Hid.mk_ hpos
  have HBLK4 := Hid.mk_ hblk4
  have HB4 := Hid.mk_ hb4
  have HB1 := Hid.mk_ hb1
  have HKB := Hid.mk_ hkb
  have HK4 := Hid.mk_ hk4
  have hsp : splice (List.replicate (o.cls.length + 1) (Value.int .i64 0)) 0 (o.cls.map (Value.int .i64)) = o.cls.map (Value.int .i64) ++ [.int .i64 0] := by
    simp [splice]
  have HSP := Hid.mk_ hsp
  obtain ⟨R, hR⟩ : ∃ R, R = evalR S N o.f o.cls := ⟨_, rfl⟩
  have HR := Hid.mk_ hR
  obtain ⟨near, wh, f, g, hh, l, c, A, cA, ins, Bb, cB, cls⟩ := o
  simp only [OpD.cells] at hw1 HKB hkb HK4 hk4
  simp only at hwh hil HI HPOS HBLK4 HSP HW4 HR ⊢
  subst hwh
  have o1 := hkb.cell 1
  have o8 := hkb.cell 8
  have obl := hkb.lt
  have p8 := hk4.cell 8
  have pbl := hk4.lt
  have tb : (R.1 == R.1) = true := by simp
  have te : (R.2 == R.2) = true := by simp
  have HW1 := Hid.mk_ hw1
  unfold OpD.agg
  simp only
  obtain ⟨i3, hi3, ha0, ha1, ha2⟩ := info_parts Try.info3
  have hi8 : i3.bytes = 8 := ha2
  clear h hi hw1 hb1 hkb hbo hgo hw4 hb4 hblk4 hk4 hpos hsp hR
  go_enter Try.func20, Try.ntmps20
  go_upto_region 1 with fail
  rw [← HW1.out, ← HBO.out]
  go_upto_region 4 with (at_make; refine make_row' _ rfl (.tmp 34) (.tmp 34) 22 rfl 3 i3 (.int .i64 0) Try.underlying22 hi3 ha0 ha1 rfl .i64 .i64 (cls.length + 1) ((cls.length : Int) + 1) (by omega) rfl rfl (by rw [hi8]; omega) (by omega) ?_; rw [← HGO.out, ← HW4.out])
  go_upto_region 5 with (refine wpList_copy_splice (o := ⟨some 39, _, _, _, _, _⟩) rfl (.tmp 36) (.tmp 38) 22 22 rfl 3 Try.underlying22 size3' (some ⟨go, 0, none⟩) Bb (cls.length + 1) (cls.length + 1) cls.length cB ?_ ?_ go 0 _ 3 HBLK4.out (cls.map (Value.int .i64)) (by rw [List.length_map]; exact (Nat.min_eq_left (by omega)).symm) (fun h0 => ⟨rfl, (HPOS.out h0).2⟩) (by simp only [List.length_map, List.length_replicate]; omega) (by simp [Value.oneCell']) w1.heap.size w1 HB4.out (by rw [HGO.out]; exact Nat.le_refl _) ?_; rfl; rfl; intro w5 hcell5 hb5; have hk5 : Blk w5 go (cls.map (Value.int .i64) ++ [.int .i64 0]) 3 := (by rw [← HSP.out]; exact hcell5.out); have HK5 := Hid.mk_ hk5; have HB5 := Hid.mk_ hb5; clear hk5 hcell5 hb5)
  have hbw5 : Below w.heap.size w w5 := HB1.out.trans (HB5.out.mono HB1.out.size)
  have hd5 := HH.out.new (Below.drew hbw5)
  have hk5 := HKB.out.below HB5.out HKB.out.lt
  have hown : ∀ W : World, Blk W go (cls.map (Value.int .i64) ++ [.int .i64 0]) 3 → IntsIn W (some ⟨go, 0, none⟩) cls := fun W hW => ⟨by omega, fun _ => ⟨go, 0, rfl, hW.lt, fun j hj => by
    rw [Nat.zero_add]
    have := hW.cell j
    rw [List.getElem?_append_left (by simpa using hj)] at this
    simpa [hj] using this⟩⟩
  have HOWN := Hid.mk_ hown
  have hse := eval_any (f := f) (c := cls.length + 1) hd5.ws.pa (hown w5.drew HK5.out)
  rw [← HR.out] at hse
  have HSE := Hid.mk_ hse
  have H5 := Hid.mk_ hd5
  have HKO := Hid.mk_ hk5
  have HBW5 := Hid.mk_ hbw5
  have y0 : w5.cell? ⟨wb, 0, none⟩ = some (.pointer (some ⟨ab, 0, none⟩)) := hd5.ws.blk.cell 0
  have yl : wb < w5.heap.size := hd5.ws.blk.lt
  have p2 := hk5.cell 2
  have p8' := hk5.cell 8
  have pl := hk5.lt
  have y0d : w5.drew.cell? ⟨wb, 0, none⟩ = some (.pointer (some ⟨ab, 0, none⟩)) := y0
  have p2d : w5.drew.cell? ⟨bo, 2, none⟩ = some (.int .i64 f) := p2
  have p8d : w5.drew.cell? ⟨bo, 8, none⟩ = some (.slice Bb cls.length cB) := p8'
  have hle1 : (cls.length : Int) ≤ cls.length + 1 := by omega
  clear hbw5 hd5 hk5 hown hse o1 o8 obl p8 pbl
  go_region_held3 (fun w' => w'.cell? ⟨wb, 0, none⟩ = some (.pointer (some ⟨ab, 0, none⟩)) ∧ w'.cell? ⟨bo, 2, none⟩ = some (.int .i64 f) ∧ w'.cell? ⟨bo, 8, none⟩ = some (.slice Bb cls.length cB)) (first | exact ⟨y0d, p2d, p8d⟩ | assumption)
    ((go_at_call 32; (with_reducible refine HSE.out.mono ?_); rintro e w7 ⟨rfl, hb7⟩; have H7 := Hid.mk_ (H5.out.new hb7); have HK7 := Hid.mk_ ((Blk.drew HKO.out).below hb7 HKO.out.lt); have HO7 := Hid.mk_ ((Blk.drew HK5.out).below hb7 HK5.out.lt); have HB7 := Hid.mk_ hb7; have hS : w7.cell? ⟨wb, 0, none⟩ = some (.pointer (some ⟨ab, 0, none⟩)) ∧ w7.cell? ⟨bo, 2, none⟩ = some (.int .i64 f) ∧ w7.cell? ⟨bo, 8, none⟩ = some (.slice Bb cls.length cB) := ⟨H7.out.ws.blk.cell 0, HK7.out.cell 2, HK7.out.cell 8⟩))
  all_goals (
    have hbd7 : Below w7.heap.size w7 w7.drew := Below.drew (Below.refl _ w7)
    have hd7 := H7.out.new hbd7
    have hI7 : IntsIn w7.drew Bb cls := ((HI.out.new (Below.drew HBW5.out)).new (HB7.out)).new hbd7
    have hre := reval_any (f := f) (c := cB) hd7.ws.ra hI7
    rw [← HR.out] at hre
    have HRE := Hid.mk_ hre
    have HD7 := Hid.mk_ hd7
    have HI7 := Hid.mk_ hI7
    have z1 := H7.out.ws.blk.cell 1
    have zl := H7.out.ws.blk.lt
    have z2 := HK7.out.cell 2
    have z8 := HK7.out.cell 8
    have zbl := HK7.out.lt
    have j1 : w7.drew.cell? ⟨wb, 1, none⟩ = some (.pointer (some ⟨xb, 0, none⟩)) := z1
    have j2 : w7.drew.cell? ⟨bo, 2, none⟩ = some (.int .i64 f) := z2
    have j8 : w7.drew.cell? ⟨bo, 8, none⟩ = some (.slice Bb cls.length cB) := z8
    clear hbd7 hd7 hI7 hre y0 yl p2 p8' pl y0d p2d p8d
    go_upto_region 6 with fail
    go_region_held3 (fun w' => w'.cell? ⟨wb, 1, none⟩ = some (.pointer (some ⟨xb, 0, none⟩)) ∧ w'.cell? ⟨bo, 2, none⟩ = some (.int .i64 f) ∧ w'.cell? ⟨bo, 8, none⟩ = some (.slice Bb cls.length cB)) (first | exact ⟨j1, j2, j8⟩ | assumption)
      ((go_at_call 51; (with_reducible refine HRE.out.mono ?_); rintro e w8 ⟨rfl, hb8⟩; have H8 := Hid.mk_ (HD7.out.new hb8); have HK8 := Hid.mk_ ((Blk.drew HK7.out).below hb8 HK7.out.lt); have HO8 := Hid.mk_ ((Blk.drew HO7.out).below hb8 HO7.out.lt); have HB8 := Hid.mk_ hb8; have hS : w8.cell? ⟨wb, 1, none⟩ = some (.pointer (some ⟨xb, 0, none⟩)) ∧ w8.cell? ⟨bo, 2, none⟩ = some (.int .i64 f) ∧ w8.cell? ⟨bo, 8, none⟩ = some (.slice Bb cls.length cB) := ⟨H8.out.ws.blk.cell 1, HK8.out.cell 2, HK8.out.cell 8⟩))
    all_goals (
      have hbd8 : Below w8.heap.size w8 w8.drew := Below.drew (Below.refl _ w8)
      have hd8 := H8.out.new hbd8
      have hsa := same_any (some ⟨go, 0, none⟩) Bb (cls.length + 1) cB cls cls w8.drew (HOWN.out w8.drew HO8.out) ((HI7.out.new HB8.out).new hbd8)
      rw [show decide (cls = cls) = true from decide_eq_true rfl] at hsa
      have HSA := Hid.mk_ hsa
      have HD8 := Hid.mk_ hd8
      have v8 := HK8.out.cell 8
      have vbl := HK8.out.lt
      have v8d : w8.drew.cell? ⟨bo, 8, none⟩ = some (.slice Bb cls.length cB) := v8
      clear hbd8 hd8 hsa z1 zl z2 z8 zbl j1 j2 j8
      go_upto_region 7 with fail
      go_region_held3 (fun w' => w'.cell? ⟨bo, 8, none⟩ = some (.slice Bb cls.length cB)) (first | exact v8d | assumption)
        ((go_at_call 28; (with_reducible refine HSA.out.mono ?_); rintro e w9 ⟨rfl, q9, hw9⟩; have HW9 := Hid.mk_ hw9; have H9 : Hid (DS B n w0 w9 wb ab xb S M lv es N zp zr) := (by show DS _ _ _ _ _ _ _ _ _ _ _ _ _ _; rw [hw9]; exact HD8.out.new (Drawn_below _ _)); have HK9 := HK8.out.drew.drewN q9; rw [← hw9] at HK9; have HO9 := HO8.out.drew.drewN q9; rw [← hw9] at HO9; have hS : w9.cell? ⟨bo, 8, none⟩ = some (.slice Bb cls.length cB) := HK9.cell 8; clear hw9))
      all_goals (
        have u8 := HK9.cell 8
        have ubl := HK9.lt
        have e0 := HO9.cell cls.length
        simp at e0
        have el := HO9.lt
        have hcl : (cls.length : Int) < cls.length + 1 := by omega
        clear v8 vbl v8d
        go_wp2_with fail
        go_ret
        have h9 := H9.out
        exact ⟨rfl, lv, es, N, zp, zr, { h9 with len := by have := h9.len; omega }⟩)))
end
end Go.Proofs.Ytmfdcaalbpikpaa
namespace Go.Proofs.Ytmfdcaalbpikpaa
open Go.RowKit Go.Maps
set_option linter.unusedVariables false
set_option linter.unusedSimpArgs false
section
variable {B n : Nat} {w0 w w1 w2 w' : World} {wb ab xb : Nat} {S : List Int} {M : Int} {lv : Value} {es : List Value} {N N' : List Nd} {zp zr : List Nat}
set_option maxRecDepth 100000 in
set_option maxHeartbeats 8000000 in
theorem looks_back {o : OpD} (h : DS B n w0 w wb ab xb S M lv es N zp zr) (hwh : ¬ o.wh = 7 ∧ ¬ o.wh = 8 ∧ ¬ o.wh = 9) (hc : i64 o.c) :
    Calls Try.prog 20 #[.pointer (some ⟨wb, 0, none⟩), o.agg] w (LooksPost B n w0 wb ab xb S M) := by
  obtain ⟨w1, hw1⟩ : ∃ w1, w1 = w.alloc (.cells o.cells.toArray 37) := ⟨_, rfl⟩
  have hb1 : Below w.heap.size w w1 := by rw [hw1]; exact (Below.refl _ _).alloc (Nat.le_refl _) _
  have hkb := Blk.new w o.cells 37
  rw [← hw1] at hkb
  obtain ⟨bo, hbo⟩ : ∃ b, b = w.heap.size := ⟨_, rfl⟩
  rw [← hbo] at hkb
  have h1 := h.new hb1
  have HBO := Hid.mk_ hbo
  have HB1 := Hid.mk_ hb1
  have HKB := Hid.mk_ hkb
  have HH1 := Hid.mk_ h1
  have HW1 := Hid.mk_ hw1
  obtain ⟨near, wh, f, g, hh, l, c, A, cA, ins, Bb, cB, cls⟩ := o
  simp only [OpD.cells] at hw1 HKB hkb HW1
  simp only at hwh hc
  obtain ⟨n7, n8, n9⟩ := hwh
  have e7 : (wh == 7) = false := by simpa using n7
  have e8 : (wh == 8) = false := by simpa using n8
  have e9 : (wh == 9) = false := by simpa using n9
  have o1 := hkb.cell 1
  have o6 := hkb.cell 6
  have obl := hkb.lt
  have y1 := h1.ws.blk.cell 1
  have yl := h1.ws.blk.lt
  have hnn := h1.ws.pa.good.len2
  obtain ⟨p, hp⟩ : ∃ p, p = pickI c 3 := ⟨_, rfl⟩
  have hpr := pickI_range c 3 (by omega)
  rw [← hp] at hpr
  have HPQ := Hid.mk_ (fun q => quietly (w := w1) q (pick_at hp (by omega) hc (w1.drewN q)))
  have HLQ := Hid.mk_ (fun q => quietly (w := w1) q (rlen_at (h1.ws.ra.new (Drawn_below w1 q))))
  have hmx : max (0 : Int) ((N.length : Int) - p) = if (N.length : Int) - p ≤ 0 then 0 else (N.length : Int) - p := by split <;> omega
  unfold OpD.agg
  simp only
  clear h hw1 hb1 hkb hbo h1 hp
  go_enter Try.func20, Try.ntmps20
  go_upto_region 1 with fail
  rw [← HW1.out, ← HBO.out]
  go_upto_region 23 with fail
  go_big_quiet (first | (go_at_call 7; with_reducible exact HPQ.out _) | (go_at_call 19; with_reducible exact HLQ.out _))
  obtain ⟨m, hm⟩ : ∃ m : Int, m = if p < (N.length : Int) then (N.length : Int) - p else 0 := ⟨_, rfl⟩
  rw [← hm]
  obtain ⟨w2, hw2⟩ : ∃ w2, w2 = w1.drewN nq := ⟨_, rfl⟩
  rw [← hw2]
  have hb2 : Below w1.heap.size w1 w2 := by rw [hw2]; exact Drawn_below _ _
  have h2 := HH1.out.new hb2
  have HBP := Hid.mk_ (back_at h2.ws.pa m)
  have y0 := h2.ws.blk.cell 0
  have yl2 := h2.ws.blk.lt
  have HD2 := Hid.mk_ h2
  obtain ⟨R, hR⟩ : ∃ R, R = backA N m := ⟨_, rfl⟩
  rw [← hR] at HBP
  have HR := Hid.mk_ hR
  have te : (R.2 == R.2) = true := by simp
  clear hm hw2 hb2 h2 o1 o6 obl y1 yl hmx hR
  go_upto_region 25 with (go_at_call 55; (with_reducible refine HBP.out.mono ?_); rintro e w3 ⟨rfl, hg⟩; obtain ⟨zp2, hws, hmo, hz⟩ := HD2.out.ws.opP hg; have HWS := Hid.mk_ hws; have HMO := Hid.mk_ hmo; have HZ := Hid.mk_ hz; clear hg hws hmo hz)
  have HRP := Hid.mk_ (rback_at HWS.out.ra m)
  rw [← HR.out] at HRP
  have z1 := HWS.out.blk.cell 1
  have zl := HWS.out.blk.lt
  clear y0 yl2
  go_wp2_with (go_at_call 15; (with_reducible refine HRP.out.mono ?_); rintro e w4 ⟨rfl, hg⟩; obtain ⟨zr4, hws, hmo, hz⟩ := HWS.out.opR hg; have HWS4 := Hid.mk_ hws; have HMO4 := Hid.mk_ hmo; have HZ4 := Hid.mk_ hz; clear hg hws hmo hz)
  go_ret
  have hgr : WGrew w2 w4 wb ab xb lv S M R.1 R.1 zp zr := WS.both (R := (R.1, 0, R.2)) (Below.refl _ _) HMO.out HZ.out (Below.refl _ _) HWS4.out HMO4.out HZ4.out
  obtain ⟨zp', zr', h9⟩ := HD2.out.grew hgr
  exact ⟨rfl, lv, es, R.1, zp', zr', { h9 with len := by have := h9.len; omega }⟩
end
end Go.Proofs.Ytmfdcaalbpikpaa
