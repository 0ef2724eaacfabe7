/- A step that answers a ref: Set. -/
import Derived.Test.YtmfdcaalbpikpaaX8
import Derived.Deep.OwnRows
import Derived.Laws.CopyOwn
namespace Go.Proofs.Ytmfdcaalbpikpaa
open Go.RowKit Go.Maps
set_option linter.unusedVariables false
set_option linter.unusedSimpArgs false
theorem size4 : (Try.prog.info? 4).map (·.size) = some 1 := by kernel_rfl
theorem BoolsIn.move0 {w w' : World} {A : Option Addr} {xs : List Bool} (h : BoolsIn w A xs) (hs : w.heap.size ≤ w'.heap.size) (hm : ∀ g o, A = some ⟨g, o, none⟩ → 0 < xs.length → g < w.heap.size → w'.heap[g]? = w.heap[g]?) : BoolsIn w' A xs := ⟨h.1, fun h0 => by
  obtain ⟨g, o, e, hg, hc⟩ := h.2 h0
  refine ⟨g, o, e, by omega, fun j hj => ?_⟩
  rw [World.cell?_of_block (a := ⟨g, o + j, none⟩) (hm g o e h0 hg)]
  exact hc j hj⟩
theorem WGrew.on {w w1 w2 : World} {wb ab xb : Nat} {lv : Value} {S : List Int} {M : Int} {N N' : List Nd} {zp zr : List Nat} (h : WGrew w w1 wb ab xb lv S M N N' zp zr) (hb : Below w1.heap.size w1 w2) : WGrew w w2 wb ab xb lv S M N N' zp zr := by
  obtain ⟨zp', zr', h1, h2, h3⟩ := h
  exact ⟨zp', zr', h1.new hb, h2.then_new hb, h3⟩
section
variable {w w' w1 : World} {wb ab xb : Nat} {lv : Value} {S : List Int} {M : Int} {N N' N1 : List Nd} {zp zr : List Nat} {f g : Int}
set_option maxRecDepth 100000 in
set_option maxHeartbeats 8000000 in
theorem makes_set {o : OpD} (h : WS w wb ab xb lv S M N N zp zr) (hwh : ¬ (2 ≤ o.wh ∧ o.wh ≤ 6)) (hi : BoolsIn w o.A o.ins) (hil : o.ins.length ≤ 200000000000000)
    (hfar : ∀ g p, o.A = some ⟨g, p, none⟩ → 0 < o.ins.length → ¬ wsz zp zr g) :
    Calls Try.prog 13 #[.pointer (some ⟨wb, 0, none⟩), o.agg] w (MakesPost w wb ab xb lv S M zp zr (opR S M N o)) := by
  obtain ⟨w1, hw1⟩ : ∃ w1, w1 = w.alloc (.cells o.cells.toArray 37) := ⟨_, rfl⟩
  have hb1 : Below w.heap.size w w1 := by rw [hw1]; exact (Below.refl _ _).alloc (Nat.le_refl _) _
  have hs1 : w1.heap.size = w.heap.size + 1 := by rw [hw1]; simp
  have hkb := Blk.new w o.cells 37
  rw [← hw1] at hkb
  obtain ⟨bo, hbo⟩ : ∃ b, b = w.heap.size := ⟨_, rfl⟩
  rw [← hbo] at hkb
  have HBO := Hid.mk_ hbo
  have hbz : ¬ wsz zp zr bo := fun hk => by have := h.lt (.inl hk); omega
  have HBZ := Hid.mk_ hbz
  have HH := Hid.mk_ h
  have HI := Hid.mk_ hi
  have HFAR := Hid.mk_ hfar
  obtain ⟨go, hgo⟩ : ∃ go, go = w1.heap.size := ⟨_, rfl⟩
  obtain ⟨w4, hw4⟩ : ∃ w4, w4 = w1.alloc (.cells (List.replicate (o.ins.length + 2) (Value.bool false)).toArray 4) := ⟨_, rfl⟩
  have hb4 : Below w1.heap.size w1 w4 := by rw [hw4]; exact (Below.refl _ _).alloc (Nat.le_refl _) _
  have hblk4 : Blk w4 go (List.replicate (o.ins.length + 2) (.bool false)) 4 := by rw [hw4, hgo]; exact Blk.new w1 _ 4
  have hk4 : Blk w4 bo o.cells 37 := hkb.below hb4 hkb.lt
  have hi4 := (hi.new hb1).new hb4
  have HGO := Hid.mk_ hgo
  have HW4 := Hid.mk_ hw4
  have hpos : 0 < (o.ins.map Value.bool).length → (some (⟨go, 0, none⟩ : Addr)) = some ⟨go, 0, none⟩ ∧ ∃ ad, o.A = some ad ∧ ∀ j v, (o.ins.map Value.bool)[j]? = some v → w4.cell? (ad.add j) = some v := fun h0 => by
    obtain ⟨g, p, e, hg, hc⟩ := hi4.2 (by simpa using h0)
    refine ⟨rfl, ⟨g, p, none⟩, e, fun j v hv => ?_⟩
    rw [Addr.add_lit]
    obtain ⟨hjl, e2⟩ := List.getElem?_eq_some_iff.1 hv
    rw [List.length_map] at hjl
    rw [List.getElem_map] at e2
    rw [← e2]
    exact hc j hjl
  have HPOS := Hid.mk_ hpos
  have HBLK4 := Hid.mk_ hblk4
  have HB4 := Hid.mk_ hb4
  have HB1 := Hid.mk_ hb1
  have HKB := Hid.mk_ hkb
  have HK4 := Hid.mk_ hk4
  have hsp : splice (List.replicate (o.ins.length + 2) (Value.bool false)) 0 (o.ins.map Value.bool) = o.ins.map Value.bool ++ [.bool false, .bool false] := by
    simp [splice]
  have HSP := Hid.mk_ hsp
  have eR : opR S M N o = setA S M N o.l o.ins := by
    unfold opR
    rw [if_neg (by omega), if_neg (by omega), if_neg (by omega), if_neg (by omega), if_neg (by omega)]
  rw [eR]
  obtain ⟨R, hR⟩ : ∃ R, R = setA S M N o.l o.ins := ⟨_, rfl⟩
  rw [← hR]
  have HR := Hid.mk_ hR
  have hz4 : ¬ wsz zp zr go := fun hk => by have := h.lt (.inl hk); omega
  have HZ4 := Hid.mk_ hz4
  have HS1 := Hid.mk_ hs1
  obtain ⟨near, wh, f, g, hh, l, c, A, cA, ins, B, cB, cls⟩ := o
  simp only [OpD.cells] at hw1 HKB hkb HK4 hk4
  simp only at hwh hil HI HFAR HPOS HBLK4 HSP HW4 HR ⊢
  have o1 := hkb.cell 1
  have o7 := hkb.cell 7
  have obl := hkb.lt
  have p7 := hk4.cell 7
  have pbl := hk4.lt
  have e2 : (wh == 2) = false := by simp; omega
  have e3 : (wh == 3) = false := by simp; omega
  have e4 : (wh == 4) = false := by simp; omega
  have e5 : (wh == 5) = false := by simp; omega
  have e6 : (wh == 6) = false := by simp; omega
  have n2 : ¬ wh = 2 := by omega
  have n3 : ¬ wh = 3 := by omega
  have n4 : ¬ wh = 4 := by omega
  have n5 : ¬ wh = 5 := by omega
  have n6 : ¬ wh = 6 := by omega
  have HW1 := Hid.mk_ hw1
  unfold OpD.agg
  simp only
  obtain ⟨i4, hi4, ha0, ha1, ha2⟩ := info_parts Try.info4
  have hi8 : i4.bytes = 1 := ha2
  clear h hi hfar hw1 hb1 hs1 hkb hbo hbz hgo hw4 hb4 hblk4 hk4 hpos hsp eR hz4 hwh hR
  go_enter Try.func13, Try.ntmps13
  go_upto_region 1 with fail
  rw [← HW1.out, ← HBO.out]
  go_upto_region 23 with (at_make; refine make_row' _ rfl (.tmp 189) (.tmp 189) 34 rfl 4 i4 (.bool false) Try.underlying34 hi4 ha0 ha1 rfl .i64 .i64 (ins.length + 2) ((ins.length : Int) + 2) (by omega) rfl rfl (by rw [hi8]; omega) (by omega) ?_; rw [← HGO.out, ← HW4.out])
  go_upto_region 24 with (refine wpList_copy_splice (o := ⟨some 194, _, _, _, _, _⟩) rfl (.tmp 191) (.tmp 193) 34 34 rfl 4 Try.underlying34 size4 (some ⟨go, 0, none⟩) A (ins.length + 2) (ins.length + 2) ins.length cA ?_ ?_ go 0 _ 4 HBLK4.out (ins.map Value.bool) (by rw [List.length_map]; exact (Nat.min_eq_left (by omega)).symm) (fun h0 => ⟨rfl, (HPOS.out h0).2⟩) (by simp only [List.length_map, List.length_replicate]; omega) (fun v hv => by obtain ⟨b, _, rfl⟩ := List.mem_map.1 hv; rfl) w1.heap.size w1 HB4.out (by rw [HGO.out]; exact Nat.le_refl _) ?_; rfl; rfl; intro w5 hcell5 hb5; have hk5 : Blk w5 go (ins.map Value.bool ++ [.bool false, .bool false]) 4 := (by rw [← HSP.out]; exact hcell5.out); have HK5 := Hid.mk_ hk5; have HB5 := Hid.mk_ hb5; clear hk5 hcell5 hb5)
  have hbw5 : Below w.heap.size w w5 := HB1.out.trans (HB5.out.mono HB1.out.size)
  have hd5 : Below w.heap.size w w5.drew := Below.drew hbw5
  have h5 := HH.out.new hd5
  have hk5 : Blk w5 bo [.bool near, .int .i64 wh, .int .i64 f, .int .i64 g, .int .i64 hh, .int .i64 l, .int .i64 c, .slice A ins.length cA, .slice B cls.length cB] 37 := HKB.out.below HB5.out HKB.out.lt
  have hown : ∀ W : World, Blk W go (ins.map Value.bool ++ [.bool false, .bool false]) 4 → BoolsIn W (some ⟨go, 0, none⟩) ins := fun W hW => ⟨by omega, fun _ => ⟨go, 0, rfl, hW.lt, fun j hj => by
    rw [Nat.zero_add]
    have := hW.cell j
    rw [List.getElem?_append_left (by simpa using hj)] at this
    simpa [hj] using this⟩⟩
  have HOWN := Hid.mk_ hown
  have hse := set_any (lv := l) (c := ins.length + 2) h5.pa (hown w5.drew HK5.out)
  have hrs : ∀ W zp', WS W wb ab xb lv S M (setA S M N l ins).1 N zp' zr → BoolsIn W A ins → Calls Try.prog 42 #[.pointer (some ⟨xb, 0, none⟩), .int .i64 l, .slice A ins.length cA] W (ROpPost W xb S M zr (setA S M N l ins)) := fun W zp' hW hb => rset_any (lv := l) (c := cA) hW.ra hb
  rw [← HR.out] at hse hrs
  have HSE := Hid.mk_ hse
  have HRS := Hid.mk_ hrs
  have H5 := Hid.mk_ h5
  have HD5 := Hid.mk_ hd5
  have HKO := Hid.mk_ hk5
  have y0 := h5.blk.cell 0
  have yl := h5.blk.lt
  have p5 := hk5.cell 5
  have p7 := hk5.cell 7
  have pl := hk5.lt
  have y0' : w5.cell? ⟨wb, 0, none⟩ = some (.pointer (some ⟨ab, 0, none⟩)) := y0
  have hgo5 := HK5.out.lt
  have hle2 : (ins.length : Int) ≤ ins.length + 2 := by omega
  clear hbw5 hd5 h5 hk5 hown hse hrs
  have y0d : w5.drew.cell? ⟨wb, 0, none⟩ = some (.pointer (some ⟨ab, 0, none⟩)) := y0
  have p5d : w5.drew.cell? ⟨bo, 5, none⟩ = some (.int .i64 l) := p5
  have p7d : w5.drew.cell? ⟨bo, 7, none⟩ = some (.slice A ins.length cA) := p7
  go_region_held3 (fun w' => w'.cell? ⟨wb, 0, none⟩ = some (.pointer (some ⟨ab, 0, none⟩)) ∧ w'.cell? ⟨bo, 5, none⟩ = some (.int .i64 l) ∧ w'.cell? ⟨bo, 7, none⟩ = some (.slice A ins.length cA)) (first | exact ⟨y0d, p5d, p7d⟩ | assumption)
    ((go_at_call 23; (with_reducible refine HSE.out.mono ?_); rintro e w7 ⟨rfl, hg7⟩; obtain ⟨zp2, hws, hmo, hz⟩ := H5.out.opP hg7; have HWS := Hid.mk_ hws; have HMO := Hid.mk_ hmo; have HZ := Hid.mk_ hz; have HKO2 := Hid.mk_ (HKO.out.drew.mods hmo HBZ.out); have HK7 := Hid.mk_ (HK5.out.drew.mods hmo HZ4.out); have hS : w7.cell? ⟨wb, 0, none⟩ = some (.pointer (some ⟨ab, 0, none⟩)) ∧ w7.cell? ⟨bo, 5, none⟩ = some (.int .i64 l) ∧ w7.cell? ⟨bo, 7, none⟩ = some (.slice A ins.length cA) := ⟨hws.blk.cell 0, HKO2.out.cell 5, HKO2.out.cell 7⟩; clear hg7 hws hmo hz))
  have hbd7 : Below w7.heap.size w7 w7.drew := Below.drew (Below.refl _ w7)
  have hwz : ∀ k, wsz zp2 zr k → wsz zp zr k ∨ w5.heap.size ≤ k := fun k hk => by
    rcases hk with e | e
    · rcases HZ.out k e with e2 | e2
      · exact .inl (.inl e2)
      · exact .inr e2
    · exact .inl (.inr e)
  have hI7 : BoolsIn w7.drew A ins := HI.out.move0 (Nat.le_trans HD5.out.size HMO.out.size) (fun g p e h0 hg => (HMO.out.block g (Nat.lt_of_lt_of_le hg HD5.out.size) (HFAR.out g p e h0)).trans (HD5.out.block g hg))
  have HRO := Hid.mk_ (HRS.out w7.drew zp2 (HWS.out.new hbd7) hI7)
  have HBD7 := Hid.mk_ hbd7
  have HH7 := Hid.mk_ (HWS.out.new hbd7)
  have HWZ := Hid.mk_ hwz
  have HI7 := Hid.mk_ hI7
  have z1 := HWS.out.blk.cell 1
  have zl := HWS.out.blk.lt
  have zbl := HKO2.out.lt
  have z5 := HKO2.out.cell 5
  have z7 := HKO2.out.cell 7
  have z1d : w7.drew.cell? ⟨wb, 1, none⟩ = some (.pointer (some ⟨xb, 0, none⟩)) := z1
  have z5d : w7.drew.cell? ⟨bo, 5, none⟩ = some (.int .i64 l) := z5
  have z7d : w7.drew.cell? ⟨bo, 7, none⟩ = some (.slice A ins.length cA) := z7
  have hbo5 := HKO.out.lt
  have HBO5 := Hid.mk_ hbo5
  have hgo5' := HK5.out.lt
  have HGO5 := Hid.mk_ hgo5'
  clear hbd7 hwz hI7 y0d p5d p7d y0 y0' yl p5 p7 pl o1 o7 obl pbl hgo5 hbo5 hgo5' e2 e3 e4 e5 e6 n2 n3 n4 n5 n6 i4 ha0 ha1 ha2 hi8 hi4
  go_upto_region 25 with fail
  go_region_held3 (fun w' => w'.cell? ⟨wb, 1, none⟩ = some (.pointer (some ⟨xb, 0, none⟩)) ∧ w'.cell? ⟨bo, 5, none⟩ = some (.int .i64 l) ∧ w'.cell? ⟨bo, 7, none⟩ = some (.slice A ins.length cA)) (first | exact ⟨z1d, z5d, z7d⟩ | assumption)
    ((go_at_call 42; (with_reducible refine HRO.out.mono ?_); rintro e w8 ⟨rfl, hg8⟩; obtain ⟨zr4, hws, hmo, hz⟩ := HH7.out.opR hg8; have HWS8 := Hid.mk_ hws; have HMO8 := Hid.mk_ hmo; have HZ8 := Hid.mk_ hz; have hbo8 : ¬ wsz zp2 zr bo := (fun hk => by rcases HWZ.out bo hk with e | e; exact HBZ.out e; have := HBO5.out; omega); have hgo8 : ¬ wsz zp2 zr go := (fun hk => by rcases HWZ.out go hk with e | e; exact HZ4.out e; have := HGO5.out; omega); have HKO8 := Hid.mk_ (HKO2.out.drew.mods hmo hbo8); have HK8 := Hid.mk_ (HK7.out.drew.mods hmo hgo8); have hS : w8.cell? ⟨wb, 1, none⟩ = some (.pointer (some ⟨xb, 0, none⟩)) ∧ w8.cell? ⟨bo, 5, none⟩ = some (.int .i64 l) ∧ w8.cell? ⟨bo, 7, none⟩ = some (.slice A ins.length cA) := ⟨hws.blk.cell 1, HKO8.out.cell 5, HKO8.out.cell 7⟩; clear hg8 hws hmo hz))
  have hI8 : BoolsIn w8 A ins := HI7.out.move0 HMO8.out.size (fun g p e h0 hg => by
    by_cases hz : wsz zp2 zr g
    · rcases HWZ.out g hz with e2 | e2
      · exact absurd e2 (HFAR.out g p e h0)
      · obtain ⟨g', o', e', hg', _⟩ := HI.out.2 h0
        rw [e] at e'
        cases e'
        have h1 := HD5.out.size
        have h2 : w5.drew.heap.size = w5.heap.size := rfl
        omega
    · exact HMO8.out.block g hg hz)
  have HI8 := Hid.mk_ hI8
  have x7 := HKO8.out.cell 7
  have xl := HKO8.out.lt
  have vl := HK8.out.lt
  have HW := Hid.mk_ (WS.both (R := R) HD5.out HMO.out HZ.out HBD7.out HWS8.out HMO8.out HZ8.out)
  clear z1 zl zbl z5 z7 z1d z5d z7d hS hbo8 hgo8 hI8
  go_wp2_with fail
  go_loopw [33] (fun x33 wr => ∃ (k q : Nat), k ≤ ins.length + 2 ∧ x33 = .int .i64 (k : Int) ∧ wr = w8.drewN q) (fun x33 _ => (ins.length + 2) - (intOf x33).toNat)
  case atStart => exact ⟨0, 0, Nat.zero_le _, rfl, rfl⟩
  case round =>
    obtain ⟨k, q, hk, rfl, rfl⟩ := hrel
    by_cases hlt : k < ins.length + 2
    · have hlt1 : (k : Int) < ins.length + 2 := by omega
      by_cases hki : k < ins.length
      · have hki1 : (k : Int) < ins.length := by omega
        have hki2 : ¬ (ins.length : Int) ≤ k := by omega
        have hki3 : decide ((ins.length : Int) ≤ k) = false := decide_eq_false hki2
        have hki4 : decide ((k : Int) < ins.length) = true := decide_eq_true hki1
        have hki5 : ¬ ins.length ≤ k := by omega
        have hki6 : decide (ins.length ≤ k) = false := decide_eq_false hki5
        obtain ⟨g', o', e', hg', hc'⟩ := HI8.out.2 (by omega)
        have c1 := hc' k hki
        have c0 := HK8.out.cell k
        rw [List.getElem?_append_left (by simpa using hki), List.getElem?_map, List.getElem?_eq_getElem hki] at c0
        obtain ⟨b, hb⟩ : ∃ b, b = ins[k]'hki := ⟨_, rfl⟩
        rw [← hb] at c1 c0
        have c0' : w8.cell? ⟨go, k, none⟩ = some (.bool b) := c0
        subst e'
        clear hc' hb c0
        cases b
        all_goals (
          go_wp2_with fail
          go_big_quiet (fail)
          go_wp2_with fail
          refine ⟨⟨k + 1, q + nq, by omega, by go_num, rfl⟩, by simp [intOf]; omega⟩)
      · have hki2 : (ins.length : Int) ≤ k := by omega
        have hki1 : ¬ (k : Int) < ins.length := by omega
        have hki3 : decide ((ins.length : Int) ≤ k) = true := decide_eq_true hki2
        have hki4 : decide ((k : Int) < ins.length) = false := decide_eq_false hki1
        have c0 := HK8.out.cell k
        have c0' : w8.cell? ⟨go, k, none⟩ = some (.bool false) := by
          rw [c0, List.getElem?_append_right (by simpa using (show ins.length ≤ k by omega)), List.length_map]
          rcases (by omega : k - ins.length = 0 ∨ k - ins.length = 1) with e | e <;> rw [e] <;> rfl
        clear c0
        go_wp2_with fail
        go_big_quiet (fail)
        go_wp2_with fail
        refine ⟨⟨k + 1, q + nq, by omega, by go_num, rfl⟩, by simp [intOf]; omega⟩
    · have hke : k = ins.length + 2 := by omega
      subst hke
      have hlt1 : ¬ ((ins.length + 2 : Nat) : Int) < ins.length + 2 := by omega
      go_wp2_with fail
      refine bodyPost_ret (v := .tuple #[.int .i64 R.2.1, .int .i64 R.2.2, .int .i64 R.2.1, .int .i64 R.2.2]) (by simp [results, Try.results13, go_sem]) rfl ?_
      exact ⟨rfl, HW.out.on (Drawn_below _ _)⟩
end
end Go.Proofs.Ytmfdcaalbpikpaa
