/- looks: Path. -/
import Derived.Test.YtmfdcaalbpikpaaX21
import Derived.Test.YtmfdcaalbpikpaaX15
namespace Go.Proofs.Ytmfdcaalbpikpaa
open Go.RowKit Go.Maps
set_option linter.unusedVariables false
set_option linter.unusedSimpArgs false
def LooksPost (B n : Nat) (w0 : World) (wb ab xb : Nat) (S : List Int) (M : Int) (e : Ending) (w' : World) : Prop := e = .returned (.bool true) ∧ DState B (n + 1) w0 w' wb ab xb S M
theorem pathA_len (N : List Nd) : ∀ (n : Nat) (f : Int) (out : List Int), (pathA N n f out).length = out.length
  | 0, f, out => rfl
  | n + 1, f, out => by
    unfold pathA
    split
    · rfl
    · rw [pathA_len, List.length_set]
theorem pathR_len (S : List Int) (N : List Nd) (f : Int) : (pathR S N f).1.length ≤ S.length := by
  unfold pathR
  split
  · split
    · simp
    · simp [pathA_len]
  · simp
section
variable {B n : Nat} {w0 w w1 w2 w' : World} {wb ab xb : Nat} {S : List Int} {M : Int} {lv : Value} {es : List Value} {N N' : List Nd} {zp zr : List Nat}
set_option maxRecDepth 100000 in
set_option maxHeartbeats 8000000 in
theorem looks_path {o : OpD} (h : DS B n w0 w wb ab xb S M lv es N zp zr) (hn : n ≤ 9000000) (hwh : o.wh = 8) :
    Calls Try.prog 20 #[.pointer (some ⟨wb, 0, none⟩), o.agg] w (LooksPost B n w0 wb ab xb S M) := by
  obtain ⟨w1, hw1⟩ : ∃ w1, w1 = w.alloc (.cells o.cells.toArray 37) := ⟨_, rfl⟩
  have hb1 : Below w.heap.size w w1 := by rw [hw1]; exact (Below.refl _ _).alloc (Nat.le_refl _) _
  have hkb := Blk.new w o.cells 37
  rw [← hw1] at hkb
  obtain ⟨bo, hbo⟩ : ∃ b, b = w.heap.size := ⟨_, rfl⟩
  rw [← hbo] at hkb
  have hbd : Below w1.heap.size w1 w1.drew := Below.drew (Below.refl _ w1)
  have hs1 := hb1.size
  have h1 := h.new (hb1.trans (hbd.mono hb1.size))
  have hS2 := h.ws.pa.good.s2
  have HBO := Hid.mk_ hbo
  have HB1 := Hid.mk_ hb1
  have HKB := Hid.mk_ hkb
  have HH := Hid.mk_ h
  have HH1 := Hid.mk_ h1
  have HW1 := Hid.mk_ hw1
  obtain ⟨near, wh, f, g, hh, l, c, A, cA, ins, Bb, cB, cls⟩ := o
  simp only [OpD.cells] at hw1 HKB hkb HW1
  simp only at hwh
  subst hwh
  have hpl := pathR_len S N f
  have o1 := hkb.cell 1
  have obl := hkb.lt
  have y0 := h1.ws.blk.cell 0
  have yl := h1.ws.blk.lt
  have k2 : w1.drew.cell? ⟨bo, 2, none⟩ = some (.int .i64 f) := hkb.cell 2
  have k0 : w1.drew.cell? ⟨wb, 0, none⟩ = some (.pointer (some ⟨ab, 0, none⟩)) := y0
  unfold OpD.agg
  simp only
  have HP := Hid.mk_ (path_any (f := f) h1.ws.pa)
  obtain ⟨R, hR⟩ : ∃ R, R = pathR S N f := ⟨_, rfl⟩
  rw [← hR] at HP hpl
  have HR := Hid.mk_ hR
  have tb : (R.2.1 == R.2.1) = true := by simp
  have te : (R.2.2 == R.2.2) = true := by simp
  obtain ⟨Al, cl, hlv⟩ := h.bk.row.shape
  subst hlv
  obtain ⟨i22, hi22, hc0, hc1, hc2⟩ := info_parts Try.info22
  clear h hw1 hb1 hkb hbo h1 hbd hs1 hR
  go_enter Try.func20, Try.ntmps20
  go_upto_region 1 with fail
  rw [← HW1.out, ← HBO.out]
  go_upto_region 10 with fail
  go_region_held3 (fun w' => w'.cell? ⟨wb, 0, none⟩ = some (.pointer (some ⟨ab, 0, none⟩)) ∧ w'.cell? ⟨bo, 2, none⟩ = some (.int .i64 f)) (first | exact ⟨k0, k2⟩ | assumption)
    ((go_at_call 27; (with_reducible refine HP.out.mono ?_); rintro e w2 ⟨v2, rfl, hrow2, hown2, hb2⟩; have H2 := Hid.mk_ (HH1.out.new hb2); have HK2 := Hid.mk_ ((Blk.drew HKB.out).below hb2 HKB.out.lt); have HROW2 := Hid.mk_ hrow2; have HOWN2 := Hid.mk_ hown2; have HB2 := Hid.mk_ hb2; have hS : w2.cell? ⟨wb, 0, none⟩ = some (.pointer (some ⟨ab, 0, none⟩)) ∧ w2.cell? ⟨bo, 2, none⟩ = some (.int .i64 f) := ⟨H2.out.ws.blk.cell 0, HK2.out.cell 2⟩))
  all_goals (
    have hbd2 : Below w2.heap.size w2 w2.drew := Below.drew (Below.refl _ w2)
    have hd2 := H2.out.new hbd2
    have hrp := rpath_any (f := f) hd2.ws.ra
    rw [← HR.out] at hrp
    have HRP := Hid.mk_ hrp
    have HD2 := Hid.mk_ hd2
    have z1 := H2.out.ws.blk.cell 1
    have zl := H2.out.ws.blk.lt
    have obl2 := HK2.out.lt
    have z2 : w2.cell? ⟨bo, 2, none⟩ = some (.int .i64 f) := HK2.out.cell 2
    have j1 : w2.drew.cell? ⟨wb, 1, none⟩ = some (.pointer (some ⟨xb, 0, none⟩)) := z1
    have j2 : w2.drew.cell? ⟨bo, 2, none⟩ = some (.int .i64 f) := z2
    clear hbd2 hd2 hrp y0 yl k2 k0 o1 obl
    go_upto_region 11 with fail
    go_region_held3 (fun w' => w'.cell? ⟨wb, 1, none⟩ = some (.pointer (some ⟨xb, 0, none⟩)) ∧ w'.cell? ⟨bo, 2, none⟩ = some (.int .i64 f)) (first | exact ⟨j1, j2⟩ | assumption)
      ((go_at_call 52; (with_reducible refine HRP.out.mono ?_); rintro e w4 ⟨v4, rfl, hrow4, hown4, hb4⟩; have H4 := Hid.mk_ (HD2.out.new hb4); have HK4 := Hid.mk_ ((Blk.drew HK2.out).below hb4 HK2.out.lt); have HROW4 := Hid.mk_ hrow4; have HB4 := Hid.mk_ hb4; have hS : w4.cell? ⟨wb, 1, none⟩ = some (.pointer (some ⟨xb, 0, none⟩)) ∧ w4.cell? ⟨bo, 2, none⟩ = some (.int .i64 f) := ⟨H4.out.ws.blk.cell 1, HK4.out.cell 2⟩))
    all_goals (
      obtain ⟨A2, c2, rfl⟩ := HROW2.out.shape
      obtain ⟨A4, c4, rfl⟩ := HROW4.out.shape
      have hr24 : Row w4 3 1 (.slice A2 R.1.length c2) R.1.length (R.1.map (Value.int .i64)) := Row.move (Row.drew HROW2.out) fun q hq => HB4.out.block q (HROW2.out.lt q hq)
      have HR24 := Hid.mk_ hr24
      have HSA := Hid.mk_ (same_any A2 A4 c2 c4 R.1 R.1 w4 (Row.ints hr24 (by omega)) (Row.ints HROW4.out (by omega)))
      rw [show decide (R.1 = R.1) = true from decide_eq_true rfl] at HSA
      have hlen := HH.out.len
      have HFR : Hid (∀ q, (Value.slice A2 R.1.length c2).ownBlock = some q → ¬ OwnB es q ∧ ¬ wsz zp zr q ∧ B ≤ q) := fun q hq => by
        have e1 := HOWN2.out q hq
        have e2 := HB1.out.size
        have e3 : w1.heap.size ≤ q := e1
        have e4 := HH.out.bs
        exact ⟨fun e => by have := HH.out.bk.elt q e; omega, fun e => by have := HH.out.ws.lt (.inl e); omega, by omega⟩
      clear hr24 j1 j2 z1 z2 zl obl2
      go_upto_region 13 with (go_at_call 28; (with_reducible refine HSA.out.mono ?_); rintro e w5 ⟨rfl, q5, hw5⟩; have HW5 := Hid.mk_ hw5; clear hw5)
      have h5 : DS B n w0 w5 wb ab xb S M (.slice Al es.length cl) es N zp zr := by rw [HW5.out]; exact H4.out.new (Drawn_below w4 q5)
      have hr5 : Row w5 3 1 (.slice A2 R.1.length c2) R.1.length (R.1.map (Value.int .i64)) := by rw [HW5.out]; exact HR24.out
      have H5 := Hid.mk_ h5
      have HR5 := Hid.mk_ hr5
      have b2 := h5.ws.blk.cell 2
      have b3 := h5.ws.blk.free 2
      have b4 := h5.ws.blk.lt
      clear h5 hr5
      go_upto_region 14 with (at_builtin; refine wpList_append_row _ rfl (.tmp 126) (.tmp 128) 45 rfl 22 i22 (.slice none 0 0) 1 24 Try.underlying45 hi22 hc0 hc1 hc2 rfl (by omega) (.slice Al es.length cl) es.length es rfl (H5.out.bk.row.alloc _) ⟨w5.heap.size, 0, none⟩ 1 1 [.slice A2 R.1.length c2] rfl rfl (one_cells_at w5 _ _ rfl) (by simp [Value.oneCell']) (by omega) (by unfold maxLen; omega) (by omega) (w5.heap.size + 1) (by simp) ?_; intro g9 c9 w9 hrow9 hgrow9 hloc9 hlt9; have hadd := H5.out.add (ks := R.1) HR5.out (by omega) HFR.out hrow9 rfl hgrow9 hloc9; have HADD := Hid.mk_ hadd; have q2 := hadd.2.cell 2; have q3 := hadd.2.free 2; have q4 := hadd.2.lt; clear hadd)
      go_wp2_with fail
      go_ret
      exact ⟨rfl, _, _, _, _, _, HADD.out.1⟩))
end
end Go.Proofs.Ytmfdcaalbpikpaa
namespace Go.Proofs.Ytmfdcaalbpikpaa
open Go.RowKit Go.Maps
set_option linter.unusedVariables false
set_option linter.unusedSimpArgs false
theorem nodesR_len {S : List Int} {M : Int} {N : List Nd} (hG : Good S M N) (roots : List Int) : (nodesR N roots).1.length ≤ N.length + 2 := by
  by_cases h : ∀ f ∈ roots, hasA N f = true
  · rw [nodesR_ok h]
    have := (walks_fits_ (n := N.length + 2) hG h (Fits.start (N := N))).cnt
    show List.length (walksN N (N.length + 2) roots (List.replicate (N.length + 2) false, [])).2 ≤ _
    omega
  · unfold nodesR
    rw [if_neg (fun e => h (fun f hf => List.all_eq_true.1 e f hf))]
    simp
theorem ints3 {w : World} {b : Nat} {f g h : Int} {r : List Value} (hb : Blk w b (.int .i64 f :: .int .i64 g :: .int .i64 h :: r) 3) : IntsIn w (some ⟨b, 0, none⟩) [f, g, h] :=
  ⟨by simp, fun _ => ⟨b, 0, rfl, hb.lt, fun j hj => by
    rw [Nat.zero_add, hb.cell j]
    match j, hj with
    | 0, _ => rfl
    | 1, _ => rfl
    | 2, _ => rfl⟩⟩
theorem ints4 {w : World} {b : Nat} {f g h i : Int} {r : List Value} (hb : Blk w b (.int .i64 f :: .int .i64 g :: .int .i64 h :: .int .i64 i :: r) 3) : IntsIn w (some ⟨b, 0, none⟩) [f, g, h, i] :=
  ⟨by simp, fun _ => ⟨b, 0, rfl, hb.lt, fun j hj => by
    rw [Nat.zero_add, hb.cell j]
    match j, hj with
    | 0, _ => rfl
    | 1, _ => rfl
    | 2, _ => rfl
    | 3, _ => rfl⟩⟩
section
variable {B n : Nat} {w0 w w1 w2 w' : World} {wb ab xb : Nat} {S : List Int} {M : Int} {lv : Value} {es : List Value} {N N' : List Nd} {zp zr : List Nat}
set_option maxRecDepth 100000 in
set_option maxHeartbeats 8000000 in
theorem looks_nodes {o : OpD} (h : DS B n w0 w wb ab xb S M lv es N zp zr) (hn : n ≤ 9000000) (hwh : o.wh = 9) :
    Calls Try.prog 20 #[.pointer (some ⟨wb, 0, none⟩), o.agg] w (LooksPost B n w0 wb ab xb S M) := by
  obtain ⟨w1, hw1⟩ : ∃ w1, w1 = w.alloc (.cells o.cells.toArray 37) := ⟨_, rfl⟩
  have hb1 : Below w.heap.size w w1 := by rw [hw1]; exact (Below.refl _ _).alloc (Nat.le_refl _) _
  have hkb := Blk.new w o.cells 37
  rw [← hw1] at hkb
  obtain ⟨bo, hbo⟩ : ∃ b, b = w.heap.size := ⟨_, rfl⟩
  rw [← hbo] at hkb
  have hbd : Below w1.heap.size w1 w1.drew := Below.drew (Below.refl _ w1)
  have hs1 := hb1.size
  have h1 := h.new (hb1.trans (hbd.mono hb1.size))
  have hS2 := h.ws.pa.good.s2
  have HBO := Hid.mk_ hbo
  have HB1 := Hid.mk_ hb1
  have HKB := Hid.mk_ hkb
  have HH := Hid.mk_ h
  have HH1 := Hid.mk_ h1
  have HW1 := Hid.mk_ hw1
  obtain ⟨near, wh, f, g, hh, l, c, A, cA, ins, Bb, cB, cls⟩ := o
  simp only [OpD.cells] at hw1 HKB hkb HW1
  simp only at hwh
  subst hwh
  have hpl := nodesR_len h.ws.pa.good [f, g, hh]
  have o1 := hkb.cell 1
  have obl := hkb.lt
  have y0 := h1.ws.blk.cell 0
  have yl := h1.ws.blk.lt
  have x2 := hkb.cell 2
  have x3 := hkb.cell 3
  have x4 := hkb.cell 4
  unfold OpD.agg
  simp only
  have hnn := h.ws.pa.good.len2
  obtain ⟨R, hR⟩ : ∃ R, R = nodesR N [f, g, hh] := ⟨_, rfl⟩
  rw [← hR] at hpl
  have HR := Hid.mk_ hR
  have te : (R.2 == R.2) = true := by simp
  obtain ⟨Al, cl, hlv⟩ := h.bk.row.shape
  subst hlv
  obtain ⟨i22, hi22, hc0, hc1, hc2⟩ := info_parts Try.info22
  clear h hw1 hb1 hkb hbo h1 hbd hs1 hR y0 yl
  go_enter Try.func20, Try.ntmps20
  go_upto_region 1 with fail
  rw [← HW1.out, ← HBO.out]
  go_upto_region 17 with fail
  obtain ⟨wa, hwa⟩ : ∃ wa, wa = w1.alloc (.cells #[.int .i64 f, .int .i64 g, .int .i64 hh, .int .i64 (-77)] 3) := ⟨_, rfl⟩
  obtain ⟨go, hgo⟩ : ∃ go, go = w1.heap.size := ⟨_, rfl⟩
  rw [← hwa, ← hgo]
  have hbo4 : Blk wa go [.int .i64 f, .int .i64 g, .int .i64 hh, .int .i64 (-77)] 3 := by rw [hwa, hgo]; exact Blk.new w1 _ 3
  have hba : Below w1.heap.size w1 wa := by rw [hwa]; exact (Below.refl _ _).alloc (Nat.le_refl _) _
  have hbad : Below wa.heap.size wa wa.drew := Below.drew (Below.refl _ wa)
  have hda := (HH.out.new HB1.out).new (hba.trans (hbad.mono hba.size))
  have hka := HKB.out.below hba HKB.out.lt
  have hpn := nodes_any (c := 4) hda.ws.pa (ints3 (Blk.drew hbo4))
  rw [← HR.out, show ([f, g, hh] : List Int).length = 3 from rfl] at hpn
  have HP := Hid.mk_ hpn
  have HDA := Hid.mk_ hda
  have HKA := Hid.mk_ hka
  have HOW := Hid.mk_ hbo4
  have HGO := Hid.mk_ hgo
  have HBA := Hid.mk_ hba
  have y0 : wa.cell? ⟨wb, 0, none⟩ = some (.pointer (some ⟨ab, 0, none⟩)) := hda.ws.blk.cell 0
  have yl : wb < wa.heap.size := hda.ws.blk.lt
  have k0 : wa.drew.cell? ⟨wb, 0, none⟩ = some (.pointer (some ⟨ab, 0, none⟩)) := y0
  clear hwa hgo hbo4 hba hbad hda hka hpn o1 obl x2 x3 x4
  go_region_held3 (fun w' => w'.cell? ⟨wb, 0, none⟩ = some (.pointer (some ⟨ab, 0, none⟩))) (first | exact k0 | assumption)
    ((go_at_call 53; (with_reducible refine HP.out.mono ?_); rintro e w2 ⟨v2, rfl, hrow2, hown2, hb2⟩; have H2 := Hid.mk_ (HDA.out.new hb2); have HK2 := Hid.mk_ ((Blk.drew HKA.out).below hb2 HKA.out.lt); have HO2 := Hid.mk_ ((Blk.drew HOW.out).below hb2 HOW.out.lt); have HROW2 := Hid.mk_ hrow2; have HOWN2 := Hid.mk_ hown2; have HB2 := Hid.mk_ hb2; have hS : w2.cell? ⟨wb, 0, none⟩ = some (.pointer (some ⟨ab, 0, none⟩)) := H2.out.ws.blk.cell 0))
  all_goals (
    have z1 := H2.out.ws.blk.cell 1
    have zl := H2.out.ws.blk.lt
    have obl2 := HK2.out.lt
    have z2 : w2.cell? ⟨bo, 2, none⟩ = some (.int .i64 f) := HK2.out.cell 2
    have z3 : w2.cell? ⟨bo, 3, none⟩ = some (.int .i64 g) := HK2.out.cell 3
    have z4 : w2.cell? ⟨bo, 4, none⟩ = some (.int .i64 hh) := HK2.out.cell 4
    obtain ⟨wc, hwc⟩ : ∃ wc, wc = (w2.alloc (.cells #[.int .i64 f, .int .i64 g, .int .i64 hh] 3)).drew := ⟨_, rfl⟩
    have hbc : Below w2.heap.size w2 wc := by rw [hwc]; exact Below.drew ((Below.refl _ _).alloc (Nat.le_refl _) _)
    have hdc := H2.out.new hbc
    have hbl3 : Blk wc w2.heap.size [.int .i64 f, .int .i64 g, .int .i64 hh] 3 := by rw [hwc]; exact (Blk.new w2 _ 3).drew
    have hrp := rnodes_any (c := 3) hdc.ws.ra (ints3 hbl3)
    rw [← HR.out, show ([f, g, hh] : List Int).length = 3 from rfl] at hrp
    have hkc := HK2.out.below hbc HK2.out.lt
    have l1 := hdc.ws.blk.cell 1
    have l2 := hkc.cell 2
    have l3 := hkc.cell 3
    have l4 := hkc.cell 4
    have HKC := Hid.mk_ hkc
    clear hkc
    rw [hwc] at l1 l2 l3 l4
    have HDC := Hid.mk_ hdc
    have HBC := Hid.mk_ hbc
    have HWC := Hid.mk_ hwc
    have j1 : w2.drew.cell? ⟨wb, 1, none⟩ = some (.pointer (some ⟨xb, 0, none⟩)) := z1
    have j2 : w2.drew.cell? ⟨bo, 2, none⟩ = some (.int .i64 f) := z2
    have j3 : w2.drew.cell? ⟨bo, 3, none⟩ = some (.int .i64 g) := z3
    have j4 : w2.drew.cell? ⟨bo, 4, none⟩ = some (.int .i64 hh) := z4
    rw [hwc] at hrp
    have HRP := Hid.mk_ hrp
    clear y0 yl k0 hwc hbc hdc hbl3 hrp
    go_upto_region 18 with fail
    go_region_held3 (fun w' => w'.cell? ⟨wb, 1, none⟩ = some (.pointer (some ⟨xb, 0, none⟩)) ∧ w'.cell? ⟨bo, 2, none⟩ = some (.int .i64 f) ∧ w'.cell? ⟨bo, 3, none⟩ = some (.int .i64 g) ∧ w'.cell? ⟨bo, 4, none⟩ = some (.int .i64 hh)) (first | exact ⟨j1, j2, j3, j4⟩ | exact ⟨l1, l2, l3, l4⟩ | assumption)
      ((go_at_call 54; (with_reducible refine HRP.out.mono ?_); rintro e w4 ⟨v4, rfl, hrow4, hown4, hb4⟩; rw [← HWC.out] at hb4; have H4 := Hid.mk_ (HDC.out.new hb4); have HK4 := Hid.mk_ (HKC.out.below hb4 HKC.out.lt); have HROW4 := Hid.mk_ hrow4; have HB4 := Hid.mk_ hb4; have hS : w4.cell? ⟨wb, 1, none⟩ = some (.pointer (some ⟨xb, 0, none⟩)) ∧ w4.cell? ⟨bo, 2, none⟩ = some (.int .i64 f) ∧ w4.cell? ⟨bo, 3, none⟩ = some (.int .i64 g) ∧ w4.cell? ⟨bo, 4, none⟩ = some (.int .i64 hh) := ⟨H4.out.ws.blk.cell 1, HK4.out.cell 2, HK4.out.cell 3, HK4.out.cell 4⟩))
    all_goals (
      obtain ⟨A2, c2, rfl⟩ := HROW2.out.shape
      obtain ⟨A4, c4, rfl⟩ := HROW4.out.shape
      have hb24 : Below w2.heap.size w2 w4 := HBC.out.trans (HB4.out.mono HBC.out.size)
      have hr24 : Row w4 3 1 (.slice A2 R.1.length c2) R.1.length (R.1.map (Value.int .i64)) := Row.move HROW2.out fun q hq => hb24.block q (HROW2.out.lt q hq)
      have ho4 := HO2.out.below hb24 HO2.out.lt
      have HO4 := Hid.mk_ ho4
      have HR24 := Hid.mk_ hr24
      have HSA := Hid.mk_ (same_any A2 A4 c2 c4 R.1 R.1 w4 (Row.ints hr24 (by omega)) (Row.ints HROW4.out (by omega)))
      rw [show decide (R.1 = R.1) = true from decide_eq_true rfl] at HSA
      have hlen := HH.out.len
      have HFR : Hid (∀ q, (Value.slice A2 R.1.length c2).ownBlock = some q → ¬ OwnB es q ∧ ¬ wsz zp zr q ∧ B ≤ q) := fun q hq => by
        have e1 := HOWN2.out q hq
        have e2 := HB1.out.size
        have e0 := HBA.out.size
        have e3 : wa.heap.size ≤ q := e1
        have e4 := HH.out.bs
        exact ⟨fun e => by have := HH.out.bk.elt q e; omega, fun e => by have := HH.out.ws.lt (.inl e); omega, by omega⟩
      clear hr24 ho4 hb24 j1 j2 j3 j4 z1 z2 z3 z4 zl obl2 l1 l2 l3 l4
      go_upto_region 20 with (go_at_call 28; (with_reducible refine HSA.out.mono ?_); rintro e w5 ⟨rfl, q5, hw5⟩; have HW5 := Hid.mk_ hw5; clear hw5)
      have h5 : DS B n w0 w5 wb ab xb S M (.slice Al es.length cl) es N zp zr := by rw [HW5.out]; exact H4.out.new (Drawn_below w4 q5)
      have hr5 : Row w5 3 1 (.slice A2 R.1.length c2) R.1.length (R.1.map (Value.int .i64)) := by rw [HW5.out]; exact HR24.out
      have ho5 : Blk w5 go [.int .i64 f, .int .i64 g, .int .i64 hh, .int .i64 (-77)] 3 := by rw [HW5.out]; exact HO4.out
      have hk5 := HK4.out.drewN q5
      rw [← HW5.out] at hk5
      have H5 := Hid.mk_ h5
      have HR5 := Hid.mk_ hr5
      have HO5 := Hid.mk_ ho5
      have HK5 := Hid.mk_ hk5
      have b2 := h5.ws.blk.cell 2
      have b3 := h5.ws.blk.free 2
      have b4 := h5.ws.blk.lt
      clear h5 hr5 ho5 hk5
      go_upto_region 21 with (at_builtin; refine wpList_append_row _ rfl (.tmp 184) (.tmp 186) 45 rfl 22 i22 (.slice none 0 0) 1 24 Try.underlying45 hi22 hc0 hc1 hc2 rfl (by omega) (.slice Al es.length cl) es.length es rfl (H5.out.bk.row.alloc _) ⟨w5.heap.size, 0, none⟩ 1 1 [.slice A2 R.1.length c2] rfl rfl (one_cells_at w5 _ _ rfl) (by simp [Value.oneCell']) (by omega) (by unfold maxLen; omega) (by omega) (w5.heap.size + 1) (by simp) ?_; intro g9 c9 w9 hrow9 hgrow9 hloc9 hlt9; have hadd := H5.out.add (ks := R.1) HR5.out (by omega) HFR.out hrow9 rfl hgrow9 hloc9; have HADD := Hid.mk_ hadd; have q2 := hadd.2.cell 2; have q3 := hadd.2.free 2; have q4 := hadd.2.lt; have HO9 := Hid.mk_ ((HO5.out.alloc _).grown hgrow9 (fun e => row_blk H5.out.bk.row HO5.out (by decide) e.symm)); have HK9 := Hid.mk_ ((HK5.out.alloc _).grown hgrow9 (fun e => row_blk H5.out.bk.row HK5.out (by decide) e.symm)); clear hadd)
      obtain ⟨wz, hwz⟩ : ∃ wz, wz = w9.setCell ⟨wb, 2, none⟩ (.slice (some ⟨g9, 0, none⟩) (es.length + 1) c9) := ⟨_, rfl⟩
      rw [← hwz]
      have hdz := HADD.out.1
      rw [← hwz] at hdz
      have hoz : Blk wz go [.int .i64 f, .int .i64 g, .int .i64 hh, .int .i64 (-77)] 3 := by rw [hwz]; exact HO9.out.far (p := ⟨wb, 2, none⟩) (blk_ne HO9.out HADD.out.2 (by decide)) _
      have hkz := HK9.out.far (p := ⟨wb, 2, none⟩) (blk_ne HK9.out HADD.out.2 (by decide)) (.slice (some ⟨g9, 0, none⟩) (es.length + 1) c9)
      rw [← hwz] at hkz
      obtain ⟨wy, hwy⟩ : ∃ wy, wy = wz.alloc (.cells #[.int .i64 f, .int .i64 g, .int .i64 hh, .int .i64 (-77)] 3) := ⟨_, rfl⟩
      have hby : Below wz.heap.size wz wy := by rw [hwy]; exact (Below.refl _ _).alloc (Nat.le_refl _) _
      have hly : Blk wy wz.heap.size [.int .i64 f, .int .i64 g, .int .i64 hh, .int .i64 (-77)] 3 := by rw [hwy]; exact Blk.new wz _ 3
      have hoy := hoz.below hby hoz.lt
      have hsa2 := same_any (some ⟨go, 0, none⟩) (some ⟨wz.heap.size, 0, none⟩) 4 4 [f, g, hh, -77] [f, g, hh, -77] wy (ints4 hoy) (ints4 hly)
      rw [show decide (([f, g, hh, -77] : List Int) = [f, g, hh, -77]) = true from decide_eq_true rfl, show ([f, g, hh, -77] : List Int).length = 4 from rfl, hwy] at hsa2
      have HSA2 := Hid.mk_ hsa2
      have HDY := Hid.mk_ (hdz.new hby)
      have HWY := Hid.mk_ hwy
      have m2 := hkz.cell 2
      have m3 := hkz.cell 3
      have m4 := hkz.cell 4
      have ml := hkz.lt
      clear hwz hdz hoz hkz hwy hby hly hoy hsa2 q2 q3 q4 b2 b3 b4
      go_upto_region 22 with (go_at_call 28; (with_reducible refine HSA2.out.mono ?_); rintro e w10 ⟨rfl, q10, hw10⟩; have HW10 := Hid.mk_ hw10; clear hw10)
      rw [← HWY.out] at HW10
      go_wp2_with fail
      go_ret
      have hfin := HDY.out.new (Drawn_below wy q10)
      rw [← HW10.out] at hfin
      exact ⟨rfl, _, _, _, _, _, hfin⟩))
end
end Go.Proofs.Ytmfdcaalbpikpaa
