/- Both arenas side by side, for the laws of diagrams: a step that answers a ref. -/
import Derived.Test.YtmfdcaalbpikpaaX7
import Derived.Test.YtmfdcaalbpikpaaW13
namespace Go.Proofs.Ytmfdcaalbpikpaa
open Go.RowKit Go.Maps
set_option linter.unusedVariables false
set_option linter.unusedSimpArgs false
/-- an arena, and the document's, beside a list -/
structure WS (w : World) (wb ab xb : Nat) (lv : Value) (S : List Int) (M : Int) (N N' : List Nd) (zp zr : List Nat) : Prop where
  blk : Blk w wb [.pointer (some ⟨ab, 0, none⟩), .pointer (some ⟨xb, 0, none⟩), lv] 47
  pa : PAt w ab S M N zp
  ra : RAt w xb S M N' zr
  dis : ∀ k ∈ zp, k ∉ zr
  wp : wb ∉ zp
  wr : wb ∉ zr
def wsz (zp zr : List Nat) (k : Nat) : Prop := k ∈ zp ∨ k ∈ zr
section
variable {w w' w1 : World} {wb ab xb : Nat} {lv : Value} {S : List Int} {M : Int} {N N' N1 : List Nd} {zp zr : List Nat} {f g : Int}
theorem WS.move (h : WS w wb ab xb lv S M N N' zp zr) (hs : w.heap.size ≤ w'.heap.size) (hm : ∀ k, wsz zp zr k ∨ k = wb → w'.heap[k]? = w.heap[k]?) : WS w' wb ab xb lv S M N N' zp zr :=
  ⟨h.blk.move (hm wb (.inr rfl)), h.pa.move hs (fun k hk => hm k (.inl (.inl hk))), h.ra.move hs (fun k hk => hm k (.inl (.inr hk))), h.dis, h.wp, h.wr⟩
theorem WS.lt (h : WS w wb ab xb lv S M N N' zp zr) {k : Nat} (hk : wsz zp zr k ∨ k = wb) : k < w.heap.size := by
  rcases hk with (e | e) | rfl
  · exact h.pa.zlt e
  · exact h.ra.zlt e
  · exact h.blk.lt
theorem WS.new (h : WS w wb ab xb lv S M N N' zp zr) (hb : Below w.heap.size w w') : WS w' wb ab xb lv S M N N' zp zr := h.move hb.size fun k hk => hb.block k (h.lt hk)
theorem WS.opP (h : WS w wb ab xb lv S M N N' zp zr) (hg : Grew w w' ab S M N1 zp) : ∃ zp', WS w' wb ab xb lv S M N1 N' zp' zr ∧ Mods (wsz zp zr) w w' ∧ (∀ k ∈ zp', k ∈ zp ∨ w.heap.size ≤ k) := by
  obtain ⟨z', hp, hm, hz⟩ := hg
  have hbl := h.blk.lt
  refine ⟨z', ⟨h.blk.move (hm.block wb hbl h.wp), hp, h.ra.move hm.size (fun k hk => hm.block k (h.ra.zlt hk) (fun e => h.dis k e hk)), fun k hk hkr => ?_, fun hk => ?_, h.wr⟩, hm.mono (fun k _ hk => .inl hk), hz⟩
  · rcases hz k hk with e | e
    · exact h.dis k e hkr
    · have := h.ra.zlt hkr; omega
  · rcases hz wb hk with e | e
    · exact h.wp e
    · omega
theorem WS.opR (h : WS w wb ab xb lv S M N N' zp zr) (hg : RGrew w w' xb S M N1 zr) : ∃ zr', WS w' wb ab xb lv S M N N1 zp zr' ∧ Mods (wsz zp zr) w w' ∧ (∀ k ∈ zr', k ∈ zr ∨ w.heap.size ≤ k) := by
  obtain ⟨z', hp, hm, hz⟩ := hg
  have hbl := h.blk.lt
  refine ⟨z', ⟨h.blk.move (hm.block wb hbl h.wr), h.pa.move hm.size (fun k hk => hm.block k (h.pa.zlt hk) (fun e => h.dis k hk e)), hp, fun k hk hkr => ?_, h.wp, fun hk => ?_⟩, hm.mono (fun k _ hk => .inr hk), hz⟩
  · rcases hz k hkr with e | e
    · exact h.dis k hk e
    · have := h.pa.zlt hk; omega
  · rcases hz wb hk with e | e
    · exact h.wr e
    · omega
/-- both arenas behind a step -/
def WGrew (w w' : World) (wb ab xb : Nat) (lv : Value) (S : List Int) (M : Int) (N N' : List Nd) (zp zr : List Nat) : Prop :=
  ∃ zp' zr', WS w' wb ab xb lv S M N N' zp' zr' ∧ Mods (wsz zp zr) w w' ∧ ∀ k, wsz zp' zr' k → wsz zp zr k ∨ w.heap.size ≤ k
def opR (S : List Int) (M : Int) (N : List Nd) (o : OpD) : Out :=
  if o.wh = 2 then binA 2 S M N o.f 1 else if o.wh = 3 then binA 0 S M N o.f o.g else if o.wh = 4 then binA 1 S M N o.f o.g else if o.wh = 5 then binA 2 S M N o.f o.g
  else if o.wh = 6 then resA S M o.l o.c N o.f else setA S M N o.l o.ins
def MakesPost (w : World) (wb ab xb : Nat) (lv : Value) (S : List Int) (M : Int) (zp zr : List Nat) (R : Out) (e : Ending) (w' : World) : Prop :=
  e = .returned (.tuple #[.int .i64 R.2.1, .int .i64 R.2.2, .int .i64 R.2.1, .int .i64 R.2.2]) ∧ WGrew w w' wb ab xb lv S M R.1 R.1 zp zr
theorem WS.both {w0 w2 w3 w4 : World} {zp2 zr4 : List Nat} {R : Out} (hb : Below w0.heap.size w0 w) (hm2 : Mods (wsz zp zr) w w2) (hz2 : ∀ k ∈ zp2, k ∈ zp ∨ w.heap.size ≤ k)
    (hb3 : Below w2.heap.size w2 w3) (h4 : WS w4 wb ab xb lv S M N N' zp2 zr4) (hm4 : Mods (wsz zp2 zr) w3 w4) (hz4 : ∀ k ∈ zr4, k ∈ zr ∨ w3.heap.size ≤ k) : WGrew w0 w4 wb ab xb lv S M N N' zp zr := by
  have s1 := hb.size
  have s2 := hm2.size
  have s3 := hb3.size
  have m1 : Mods (wsz zp zr) w0 w2 := (Mods.of_new hb).trans hm2 (fun k _ hk => hk)
  refine ⟨zp2, zr4, h4, (m1.then_new hb3).trans hm4 (fun k hk hkz => ?_), fun k hk => ?_⟩
  · rcases hkz with e | e
    · rcases hz2 k e with e2 | e2
      · exact .inl e2
      · omega
    · exact .inr e
  · rcases hk with e | e
    · rcases hz2 k e with e2 | e2
      · exact .inl (.inl e2)
      · exact .inr (by omega)
    · rcases hz4 k e with e2 | e2
      · exact .inl (.inr e2)
      · exact .inr (by omega)
set_option maxRecDepth 100000 in
set_option maxHeartbeats 8000000 in
theorem makes_ops {o : OpD} (h : WS w wb ab xb lv S M N N zp zr) (hwh : 2 ≤ o.wh ∧ o.wh ≤ 6) :
    Calls Try.prog 13 #[.pointer (some ⟨wb, 0, none⟩), o.agg] w (MakesPost w wb ab xb lv S M zp zr (opR S M N o)) := by
  obtain ⟨w1, hw1⟩ : ∃ w1, w1 = w.alloc (.cells o.cells.toArray 37) := ⟨_, rfl⟩
  have hb1 : Below w.heap.size w w1 := by rw [hw1]; exact (Below.refl _ _).alloc (Nat.le_refl _) _
  have hkb := Blk.new w o.cells 37
  rw [← hw1] at hkb
  obtain ⟨bo, hbo⟩ : ∃ b, b = w.heap.size := ⟨_, rfl⟩
  rw [← hbo] at hkb
  have HBO := Hid.mk_ hbo
  have HB1 := Hid.mk_ hb1
  have HKB := Hid.mk_ hkb
  have hbd : Below w1.heap.size w1 w1.drew := Below.drew (Below.refl _ w1)
  have hbz : ¬ wsz zp zr bo := fun hk => by have := h.lt (.inl hk); omega
  have HBZ := Hid.mk_ hbz
  have h1 := (h.new hb1).new hbd
  have HH1 := Hid.mk_ h1
  have HBD := Hid.mk_ (hb1.trans (hbd.mono hb1.size))
  obtain ⟨near, wh, f, g, hh, l, c, A, cA, ins, B, cB, cls⟩ := o
  simp only [OpD.cells] at hw1 HKB hkb
  simp only at hwh
  have o1 := hkb.cell 1
  have obl := hkb.lt
  have y0 := h1.blk.cell 0
  have yl := h1.blk.lt
  have k2 : w1.drew.cell? ⟨bo, 2, none⟩ = some (.int .i64 f) := hkb.cell 2
  have k3 : w1.drew.cell? ⟨bo, 3, none⟩ = some (.int .i64 g) := hkb.cell 3
  have k5 : w1.drew.cell? ⟨bo, 5, none⟩ = some (.int .i64 l) := hkb.cell 5
  have k6 : w1.drew.cell? ⟨bo, 6, none⟩ = some (.int .i64 c) := hkb.cell 6
  have k0 : w1.drew.cell? ⟨wb, 0, none⟩ = some (.pointer (some ⟨ab, 0, none⟩)) := y0
  have HW1 := Hid.mk_ hw1
  unfold OpD.agg opR
  simp only
  clear h hw1 hb1 hkb hbo h1 hbd hbz
  rcases (by omega : wh = 2 ∨ wh = 3 ∨ wh = 4 ∨ wh = 5 ∨ wh = 6) with rfl | rfl | rfl | rfl | rfl
  · rw [if_pos rfl]
    have HOP := Hid.mk_ (not_any (f := f) HH1.out.pa)
    have HROP : Hid (∀ W zp' , WS W wb ab xb lv S M (binA 2 S M N f 1).1 N zp' zr → Calls Try.prog 37 #[.pointer (some ⟨xb, 0, none⟩), .int .i64 f] W (ROpPost W xb S M zr (binA 2 S M N f 1))) := fun W zp' hW => rnot_any (f := f) hW.ra
    obtain ⟨R, hR⟩ : ∃ R, R = binA 2 S M N f 1 := ⟨_, rfl⟩
    rw [← hR] at HOP HROP ⊢
    clear hR
    go_enter Try.func13, Try.ntmps13
    go_upto_region 1 with fail
    rw [← HW1.out, ← HBO.out]
    go_upto_region 3 with fail
    go_region_held3 (fun w' => w'.cell? ⟨wb, 0, none⟩ = some (.pointer (some ⟨ab, 0, none⟩)) ∧ w'.cell? ⟨bo, 2, none⟩ = some (.int .i64 f)) (first | exact ⟨k0, k2⟩ | assumption)
      ((go_at_call 25; (with_reducible refine HOP.out.mono ?_); rintro e w2 ⟨rfl, hg⟩; obtain ⟨zp2, hws, hmo, hz⟩ := HH1.out.opP hg; have HWS := Hid.mk_ hws; have HMO := Hid.mk_ hmo; have HZ := Hid.mk_ hz; have HK2 := Hid.mk_ (HKB.out.drew.mods hmo HBZ.out); have hS : w2.cell? ⟨wb, 0, none⟩ = some (.pointer (some ⟨ab, 0, none⟩)) ∧ w2.cell? ⟨bo, 2, none⟩ = some (.int .i64 f) := ⟨hws.blk.cell 0, HK2.out.cell 2⟩; clear hg hws hmo hz))
    all_goals (
      have hbd2 : Below w2.heap.size w2 w2.drew := Below.drew (Below.refl _ w2)
      have HRO := Hid.mk_ (HROP.out w2.drew zp2 (HWS.out.new hbd2))
      have HBD2 := Hid.mk_ hbd2
      have HH2 := Hid.mk_ (HWS.out.new hbd2)
      have z1 := HWS.out.blk.cell 1
      have zl := HWS.out.blk.lt
      have obl2 := HK2.out.lt
      have z2 : w2.cell? ⟨bo, 2, none⟩ = some (.int .i64 f) := HK2.out.cell 2
      have j1 : w2.drew.cell? ⟨wb, 1, none⟩ = some (.pointer (some ⟨xb, 0, none⟩)) := z1
      have j2 : w2.drew.cell? ⟨bo, 2, none⟩ = some (.int .i64 f) := z2
      clear hbd2 y0 yl k2 k3 k5 k6 k0 o1 obl
      go_upto_region 4 with fail
      go_region_held3 (fun w' => w'.cell? ⟨wb, 1, none⟩ = some (.pointer (some ⟨xb, 0, none⟩)) ∧ w'.cell? ⟨bo, 2, none⟩ = some (.int .i64 f)) (first | exact ⟨j1, j2⟩ | assumption)
        ((go_at_call 37; (with_reducible refine HRO.out.mono ?_); rintro e w4 ⟨rfl, hg⟩; obtain ⟨zr4, hws, hmo, hz⟩ := HH2.out.opR hg; have HWS4 := Hid.mk_ hws; have HMO4 := Hid.mk_ hmo; have HZ4 := Hid.mk_ hz; have HK4 := Hid.mk_ (HK2.out.drew.mods hmo (fun hk => by rcases hk with e | e; exact (by rcases HZ.out _ e with e2 | e2; exact HBZ.out (.inl e2); have := HBO.out; have := HB1.out.size; have e3 : w1.heap.size ≤ bo := e2; have := HKB.out.lt; omega); exact HBZ.out (.inr e))); have hS4 : w4.cell? ⟨wb, 1, none⟩ = some (.pointer (some ⟨xb, 0, none⟩)) ∧ w4.cell? ⟨bo, 2, none⟩ = some (.int .i64 f) := ⟨hws.blk.cell 1, HK4.out.cell 2⟩; clear hg hws hmo hz)))
    all_goals (
      go_wp2_with fail
      refine bodyPost_ret (v := .tuple #[.int .i64 R.2.1, .int .i64 R.2.2, .int .i64 R.2.1, .int .i64 R.2.2]) (by simp [results, Try.results13, go_sem]) rfl ?_
      exact ⟨rfl, WS.both (R := R) HBD.out HMO.out HZ.out HBD2.out HWS4.out HMO4.out HZ4.out⟩)
  · rw [if_neg (by decide), if_pos rfl]
    have HOP := Hid.mk_ (and_any (f := f) (g := g) HH1.out.pa)
    have HROP : Hid (∀ W zp' , WS W wb ab xb lv S M (binA 0 S M N f g).1 N zp' zr → Calls Try.prog 38 #[.pointer (some ⟨xb, 0, none⟩), .int .i64 f, .int .i64 g] W (ROpPost W xb S M zr (binA 0 S M N f g))) := fun W zp' hW => rand_any (f := f) (g := g) hW.ra
    obtain ⟨R, hR⟩ : ∃ R, R = binA 0 S M N f g := ⟨_, rfl⟩
    rw [← hR] at HOP HROP ⊢
    clear hR
    go_enter Try.func13, Try.ntmps13
    go_upto_region 1 with fail
    rw [← HW1.out, ← HBO.out]
    go_upto_region 7 with fail
    go_region_held3 (fun w' => w'.cell? ⟨wb, 0, none⟩ = some (.pointer (some ⟨ab, 0, none⟩)) ∧ w'.cell? ⟨bo, 2, none⟩ = some (.int .i64 f) ∧ w'.cell? ⟨bo, 3, none⟩ = some (.int .i64 g)) (first | exact ⟨k0, k2, k3⟩ | assumption)
      ((go_at_call 24; (with_reducible refine HOP.out.mono ?_); rintro e w2 ⟨rfl, hg⟩; obtain ⟨zp2, hws, hmo, hz⟩ := HH1.out.opP hg; have HWS := Hid.mk_ hws; have HMO := Hid.mk_ hmo; have HZ := Hid.mk_ hz; have HK2 := Hid.mk_ (HKB.out.drew.mods hmo HBZ.out); have hS : w2.cell? ⟨wb, 0, none⟩ = some (.pointer (some ⟨ab, 0, none⟩)) ∧ w2.cell? ⟨bo, 2, none⟩ = some (.int .i64 f) ∧ w2.cell? ⟨bo, 3, none⟩ = some (.int .i64 g) := ⟨hws.blk.cell 0, HK2.out.cell 2, HK2.out.cell 3⟩; clear hg hws hmo hz))
    all_goals (
      have hbd2 : Below w2.heap.size w2 w2.drew := Below.drew (Below.refl _ w2)
      have HRO := Hid.mk_ (HROP.out w2.drew zp2 (HWS.out.new hbd2))
      have HBD2 := Hid.mk_ hbd2
      have HH2 := Hid.mk_ (HWS.out.new hbd2)
      have z1 := HWS.out.blk.cell 1
      have zl := HWS.out.blk.lt
      have obl2 := HK2.out.lt
      have z2 : w2.cell? ⟨bo, 2, none⟩ = some (.int .i64 f) := HK2.out.cell 2
      have z3 : w2.cell? ⟨bo, 3, none⟩ = some (.int .i64 g) := HK2.out.cell 3
      have j1 : w2.drew.cell? ⟨wb, 1, none⟩ = some (.pointer (some ⟨xb, 0, none⟩)) := z1
      have j2 : w2.drew.cell? ⟨bo, 2, none⟩ = some (.int .i64 f) := z2
      have j3 : w2.drew.cell? ⟨bo, 3, none⟩ = some (.int .i64 g) := z3
      clear hbd2 y0 yl k2 k3 k5 k6 k0 o1 obl
      go_upto_region 8 with fail
      go_region_held3 (fun w' => w'.cell? ⟨wb, 1, none⟩ = some (.pointer (some ⟨xb, 0, none⟩)) ∧ w'.cell? ⟨bo, 2, none⟩ = some (.int .i64 f) ∧ w'.cell? ⟨bo, 3, none⟩ = some (.int .i64 g)) (first | exact ⟨j1, j2, j3⟩ | assumption)
        ((go_at_call 38; (with_reducible refine HRO.out.mono ?_); rintro e w4 ⟨rfl, hg⟩; obtain ⟨zr4, hws, hmo, hz⟩ := HH2.out.opR hg; have HWS4 := Hid.mk_ hws; have HMO4 := Hid.mk_ hmo; have HZ4 := Hid.mk_ hz; have HK4 := Hid.mk_ (HK2.out.drew.mods hmo (fun hk => by rcases hk with e | e; exact (by rcases HZ.out _ e with e2 | e2; exact HBZ.out (.inl e2); have := HBO.out; have := HB1.out.size; have e3 : w1.heap.size ≤ bo := e2; have := HKB.out.lt; omega); exact HBZ.out (.inr e))); have hS4 : w4.cell? ⟨wb, 1, none⟩ = some (.pointer (some ⟨xb, 0, none⟩)) ∧ w4.cell? ⟨bo, 2, none⟩ = some (.int .i64 f) ∧ w4.cell? ⟨bo, 3, none⟩ = some (.int .i64 g) := ⟨hws.blk.cell 1, HK4.out.cell 2, HK4.out.cell 3⟩; clear hg hws hmo hz)))
    all_goals (
      go_wp2_with fail
      refine bodyPost_ret (v := .tuple #[.int .i64 R.2.1, .int .i64 R.2.2, .int .i64 R.2.1, .int .i64 R.2.2]) (by simp [results, Try.results13, go_sem]) rfl ?_
      exact ⟨rfl, WS.both (R := R) HBD.out HMO.out HZ.out HBD2.out HWS4.out HMO4.out HZ4.out⟩)
  · rw [if_neg (by decide), if_neg (by decide), if_pos rfl]
    have HOP := Hid.mk_ (or_any (f := f) (g := g) HH1.out.pa)
    have HROP : Hid (∀ W zp' , WS W wb ab xb lv S M (binA 1 S M N f g).1 N zp' zr → Calls Try.prog 39 #[.pointer (some ⟨xb, 0, none⟩), .int .i64 f, .int .i64 g] W (ROpPost W xb S M zr (binA 1 S M N f g))) := fun W zp' hW => ror_any (f := f) (g := g) hW.ra
    obtain ⟨R, hR⟩ : ∃ R, R = binA 1 S M N f g := ⟨_, rfl⟩
    rw [← hR] at HOP HROP ⊢
    clear hR
    go_enter Try.func13, Try.ntmps13
    go_upto_region 1 with fail
    rw [← HW1.out, ← HBO.out]
    go_upto_region 11 with fail
    go_region_held3 (fun w' => w'.cell? ⟨wb, 0, none⟩ = some (.pointer (some ⟨ab, 0, none⟩)) ∧ w'.cell? ⟨bo, 2, none⟩ = some (.int .i64 f) ∧ w'.cell? ⟨bo, 3, none⟩ = some (.int .i64 g)) (first | exact ⟨k0, k2, k3⟩ | assumption)
      ((go_at_call 35; (with_reducible refine HOP.out.mono ?_); rintro e w2 ⟨rfl, hg⟩; obtain ⟨zp2, hws, hmo, hz⟩ := HH1.out.opP hg; have HWS := Hid.mk_ hws; have HMO := Hid.mk_ hmo; have HZ := Hid.mk_ hz; have HK2 := Hid.mk_ (HKB.out.drew.mods hmo HBZ.out); have hS : w2.cell? ⟨wb, 0, none⟩ = some (.pointer (some ⟨ab, 0, none⟩)) ∧ w2.cell? ⟨bo, 2, none⟩ = some (.int .i64 f) ∧ w2.cell? ⟨bo, 3, none⟩ = some (.int .i64 g) := ⟨hws.blk.cell 0, HK2.out.cell 2, HK2.out.cell 3⟩; clear hg hws hmo hz))
    all_goals (
      have hbd2 : Below w2.heap.size w2 w2.drew := Below.drew (Below.refl _ w2)
      have HRO := Hid.mk_ (HROP.out w2.drew zp2 (HWS.out.new hbd2))
      have HBD2 := Hid.mk_ hbd2
      have HH2 := Hid.mk_ (HWS.out.new hbd2)
      have z1 := HWS.out.blk.cell 1
      have zl := HWS.out.blk.lt
      have obl2 := HK2.out.lt
      have z2 : w2.cell? ⟨bo, 2, none⟩ = some (.int .i64 f) := HK2.out.cell 2
      have z3 : w2.cell? ⟨bo, 3, none⟩ = some (.int .i64 g) := HK2.out.cell 3
      have j1 : w2.drew.cell? ⟨wb, 1, none⟩ = some (.pointer (some ⟨xb, 0, none⟩)) := z1
      have j2 : w2.drew.cell? ⟨bo, 2, none⟩ = some (.int .i64 f) := z2
      have j3 : w2.drew.cell? ⟨bo, 3, none⟩ = some (.int .i64 g) := z3
      clear hbd2 y0 yl k2 k3 k5 k6 k0 o1 obl
      go_upto_region 12 with fail
      go_region_held3 (fun w' => w'.cell? ⟨wb, 1, none⟩ = some (.pointer (some ⟨xb, 0, none⟩)) ∧ w'.cell? ⟨bo, 2, none⟩ = some (.int .i64 f) ∧ w'.cell? ⟨bo, 3, none⟩ = some (.int .i64 g)) (first | exact ⟨j1, j2, j3⟩ | assumption)
        ((go_at_call 39; (with_reducible refine HRO.out.mono ?_); rintro e w4 ⟨rfl, hg⟩; obtain ⟨zr4, hws, hmo, hz⟩ := HH2.out.opR hg; have HWS4 := Hid.mk_ hws; have HMO4 := Hid.mk_ hmo; have HZ4 := Hid.mk_ hz; have HK4 := Hid.mk_ (HK2.out.drew.mods hmo (fun hk => by rcases hk with e | e; exact (by rcases HZ.out _ e with e2 | e2; exact HBZ.out (.inl e2); have := HBO.out; have := HB1.out.size; have e3 : w1.heap.size ≤ bo := e2; have := HKB.out.lt; omega); exact HBZ.out (.inr e))); have hS4 : w4.cell? ⟨wb, 1, none⟩ = some (.pointer (some ⟨xb, 0, none⟩)) ∧ w4.cell? ⟨bo, 2, none⟩ = some (.int .i64 f) ∧ w4.cell? ⟨bo, 3, none⟩ = some (.int .i64 g) := ⟨hws.blk.cell 1, HK4.out.cell 2, HK4.out.cell 3⟩; clear hg hws hmo hz)))
    all_goals (
      go_wp2_with fail
      refine bodyPost_ret (v := .tuple #[.int .i64 R.2.1, .int .i64 R.2.2, .int .i64 R.2.1, .int .i64 R.2.2]) (by simp [results, Try.results13, go_sem]) rfl ?_
      exact ⟨rfl, WS.both (R := R) HBD.out HMO.out HZ.out HBD2.out HWS4.out HMO4.out HZ4.out⟩)
  · rw [if_neg (by decide), if_neg (by decide), if_neg (by decide), if_pos rfl]
    have HOP := Hid.mk_ (xor_any (f := f) (g := g) HH1.out.pa)
    have HROP : Hid (∀ W zp' , WS W wb ab xb lv S M (binA 2 S M N f g).1 N zp' zr → Calls Try.prog 40 #[.pointer (some ⟨xb, 0, none⟩), .int .i64 f, .int .i64 g] W (ROpPost W xb S M zr (binA 2 S M N f g))) := fun W zp' hW => rxor_any (f := f) (g := g) hW.ra
    obtain ⟨R, hR⟩ : ∃ R, R = binA 2 S M N f g := ⟨_, rfl⟩
    rw [← hR] at HOP HROP ⊢
    clear hR
    go_enter Try.func13, Try.ntmps13
    go_upto_region 1 with fail
    rw [← HW1.out, ← HBO.out]
    go_upto_region 15 with fail
    go_region_held3 (fun w' => w'.cell? ⟨wb, 0, none⟩ = some (.pointer (some ⟨ab, 0, none⟩)) ∧ w'.cell? ⟨bo, 2, none⟩ = some (.int .i64 f) ∧ w'.cell? ⟨bo, 3, none⟩ = some (.int .i64 g)) (first | exact ⟨k0, k2, k3⟩ | assumption)
      ((go_at_call 36; (with_reducible refine HOP.out.mono ?_); rintro e w2 ⟨rfl, hg⟩; obtain ⟨zp2, hws, hmo, hz⟩ := HH1.out.opP hg; have HWS := Hid.mk_ hws; have HMO := Hid.mk_ hmo; have HZ := Hid.mk_ hz; have HK2 := Hid.mk_ (HKB.out.drew.mods hmo HBZ.out); have hS : w2.cell? ⟨wb, 0, none⟩ = some (.pointer (some ⟨ab, 0, none⟩)) ∧ w2.cell? ⟨bo, 2, none⟩ = some (.int .i64 f) ∧ w2.cell? ⟨bo, 3, none⟩ = some (.int .i64 g) := ⟨hws.blk.cell 0, HK2.out.cell 2, HK2.out.cell 3⟩; clear hg hws hmo hz))
    all_goals (
      have hbd2 : Below w2.heap.size w2 w2.drew := Below.drew (Below.refl _ w2)
      have HRO := Hid.mk_ (HROP.out w2.drew zp2 (HWS.out.new hbd2))
      have HBD2 := Hid.mk_ hbd2
      have HH2 := Hid.mk_ (HWS.out.new hbd2)
      have z1 := HWS.out.blk.cell 1
      have zl := HWS.out.blk.lt
      have obl2 := HK2.out.lt
      have z2 : w2.cell? ⟨bo, 2, none⟩ = some (.int .i64 f) := HK2.out.cell 2
      have z3 : w2.cell? ⟨bo, 3, none⟩ = some (.int .i64 g) := HK2.out.cell 3
      have j1 : w2.drew.cell? ⟨wb, 1, none⟩ = some (.pointer (some ⟨xb, 0, none⟩)) := z1
      have j2 : w2.drew.cell? ⟨bo, 2, none⟩ = some (.int .i64 f) := z2
      have j3 : w2.drew.cell? ⟨bo, 3, none⟩ = some (.int .i64 g) := z3
      clear hbd2 y0 yl k2 k3 k5 k6 k0 o1 obl
      go_upto_region 16 with fail
      go_region_held3 (fun w' => w'.cell? ⟨wb, 1, none⟩ = some (.pointer (some ⟨xb, 0, none⟩)) ∧ w'.cell? ⟨bo, 2, none⟩ = some (.int .i64 f) ∧ w'.cell? ⟨bo, 3, none⟩ = some (.int .i64 g)) (first | exact ⟨j1, j2, j3⟩ | assumption)
        ((go_at_call 40; (with_reducible refine HRO.out.mono ?_); rintro e w4 ⟨rfl, hg⟩; obtain ⟨zr4, hws, hmo, hz⟩ := HH2.out.opR hg; have HWS4 := Hid.mk_ hws; have HMO4 := Hid.mk_ hmo; have HZ4 := Hid.mk_ hz; have HK4 := Hid.mk_ (HK2.out.drew.mods hmo (fun hk => by rcases hk with e | e; exact (by rcases HZ.out _ e with e2 | e2; exact HBZ.out (.inl e2); have := HBO.out; have := HB1.out.size; have e3 : w1.heap.size ≤ bo := e2; have := HKB.out.lt; omega); exact HBZ.out (.inr e))); have hS4 : w4.cell? ⟨wb, 1, none⟩ = some (.pointer (some ⟨xb, 0, none⟩)) ∧ w4.cell? ⟨bo, 2, none⟩ = some (.int .i64 f) ∧ w4.cell? ⟨bo, 3, none⟩ = some (.int .i64 g) := ⟨hws.blk.cell 1, HK4.out.cell 2, HK4.out.cell 3⟩; clear hg hws hmo hz)))
    all_goals (
      go_wp2_with fail
      refine bodyPost_ret (v := .tuple #[.int .i64 R.2.1, .int .i64 R.2.2, .int .i64 R.2.1, .int .i64 R.2.2]) (by simp [results, Try.results13, go_sem]) rfl ?_
      exact ⟨rfl, WS.both (R := R) HBD.out HMO.out HZ.out HBD2.out HWS4.out HMO4.out HZ4.out⟩)
  · rw [if_neg (by decide), if_neg (by decide), if_neg (by decide), if_neg (by decide), if_pos rfl]
    have HOP := Hid.mk_ (restrict_any (f := f) (lv := l) (cl := c) HH1.out.pa)
    have HROP : Hid (∀ W zp' , WS W wb ab xb lv S M (resA S M l c N f).1 N zp' zr → Calls Try.prog 41 #[.pointer (some ⟨xb, 0, none⟩), .int .i64 f, .int .i64 l, .int .i64 c] W (ROpPost W xb S M zr (resA S M l c N f))) := fun W zp' hW => rrestrict_any (f := f) (lv := l) (cl := c) hW.ra
    obtain ⟨R, hR⟩ : ∃ R, R = resA S M l c N f := ⟨_, rfl⟩
    rw [← hR] at HOP HROP ⊢
    clear hR
    go_enter Try.func13, Try.ntmps13
    go_upto_region 1 with fail
    rw [← HW1.out, ← HBO.out]
    go_upto_region 19 with fail
    go_region_held3 (fun w' => w'.cell? ⟨wb, 0, none⟩ = some (.pointer (some ⟨ab, 0, none⟩)) ∧ w'.cell? ⟨bo, 2, none⟩ = some (.int .i64 f) ∧ w'.cell? ⟨bo, 5, none⟩ = some (.int .i64 l) ∧ w'.cell? ⟨bo, 6, none⟩ = some (.int .i64 c)) (first | exact ⟨k0, k2, k5, k6⟩ | assumption)
      ((go_at_call 26; (with_reducible refine HOP.out.mono ?_); rintro e w2 ⟨rfl, hg⟩; obtain ⟨zp2, hws, hmo, hz⟩ := HH1.out.opP hg; have HWS := Hid.mk_ hws; have HMO := Hid.mk_ hmo; have HZ := Hid.mk_ hz; have HK2 := Hid.mk_ (HKB.out.drew.mods hmo HBZ.out); have hS : w2.cell? ⟨wb, 0, none⟩ = some (.pointer (some ⟨ab, 0, none⟩)) ∧ w2.cell? ⟨bo, 2, none⟩ = some (.int .i64 f) ∧ w2.cell? ⟨bo, 5, none⟩ = some (.int .i64 l) ∧ w2.cell? ⟨bo, 6, none⟩ = some (.int .i64 c) := ⟨hws.blk.cell 0, HK2.out.cell 2, HK2.out.cell 5, HK2.out.cell 6⟩; clear hg hws hmo hz))
    all_goals (
      have hbd2 : Below w2.heap.size w2 w2.drew := Below.drew (Below.refl _ w2)
      have HRO := Hid.mk_ (HROP.out w2.drew zp2 (HWS.out.new hbd2))
      have HBD2 := Hid.mk_ hbd2
      have HH2 := Hid.mk_ (HWS.out.new hbd2)
      have z1 := HWS.out.blk.cell 1
      have zl := HWS.out.blk.lt
      have obl2 := HK2.out.lt
      have z2 : w2.cell? ⟨bo, 2, none⟩ = some (.int .i64 f) := HK2.out.cell 2
      have z5 : w2.cell? ⟨bo, 5, none⟩ = some (.int .i64 l) := HK2.out.cell 5
      have z6 : w2.cell? ⟨bo, 6, none⟩ = some (.int .i64 c) := HK2.out.cell 6
      have j1 : w2.drew.cell? ⟨wb, 1, none⟩ = some (.pointer (some ⟨xb, 0, none⟩)) := z1
      have j2 : w2.drew.cell? ⟨bo, 2, none⟩ = some (.int .i64 f) := z2
      have j5 : w2.drew.cell? ⟨bo, 5, none⟩ = some (.int .i64 l) := z5
      have j6 : w2.drew.cell? ⟨bo, 6, none⟩ = some (.int .i64 c) := z6
      clear hbd2 y0 yl k2 k3 k5 k6 k0 o1 obl
      go_upto_region 20 with fail
      go_region_held3 (fun w' => w'.cell? ⟨wb, 1, none⟩ = some (.pointer (some ⟨xb, 0, none⟩)) ∧ w'.cell? ⟨bo, 2, none⟩ = some (.int .i64 f) ∧ w'.cell? ⟨bo, 5, none⟩ = some (.int .i64 l) ∧ w'.cell? ⟨bo, 6, none⟩ = some (.int .i64 c)) (first | exact ⟨j1, j2, j5, j6⟩ | assumption)
        ((go_at_call 41; (with_reducible refine HRO.out.mono ?_); rintro e w4 ⟨rfl, hg⟩; obtain ⟨zr4, hws, hmo, hz⟩ := HH2.out.opR hg; have HWS4 := Hid.mk_ hws; have HMO4 := Hid.mk_ hmo; have HZ4 := Hid.mk_ hz; have HK4 := Hid.mk_ (HK2.out.drew.mods hmo (fun hk => by rcases hk with e | e; exact (by rcases HZ.out _ e with e2 | e2; exact HBZ.out (.inl e2); have := HBO.out; have := HB1.out.size; have e3 : w1.heap.size ≤ bo := e2; have := HKB.out.lt; omega); exact HBZ.out (.inr e))); have hS4 : w4.cell? ⟨wb, 1, none⟩ = some (.pointer (some ⟨xb, 0, none⟩)) ∧ w4.cell? ⟨bo, 2, none⟩ = some (.int .i64 f) ∧ w4.cell? ⟨bo, 5, none⟩ = some (.int .i64 l) ∧ w4.cell? ⟨bo, 6, none⟩ = some (.int .i64 c) := ⟨hws.blk.cell 1, HK4.out.cell 2, HK4.out.cell 5, HK4.out.cell 6⟩; clear hg hws hmo hz)))
    all_goals (
      go_wp2_with fail
      refine bodyPost_ret (v := .tuple #[.int .i64 R.2.1, .int .i64 R.2.2, .int .i64 R.2.1, .int .i64 R.2.2]) (by simp [results, Try.results13, go_sem]) rfl ?_
      exact ⟨rfl, WS.both (R := R) HBD.out HMO.out HZ.out HBD2.out HWS4.out HMO4.out HZ4.out⟩)
end
end Go.Proofs.Ytmfdcaalbpikpaa
