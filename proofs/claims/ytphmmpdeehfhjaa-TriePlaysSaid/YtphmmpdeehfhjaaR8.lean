/- side.step: Rows, kept in the book. -/
import Derived.Test.YtphmmpdeehfhjaaR7
import Derived.Test.YtphmmpdeehfhjaaQ5
namespace Go.Proofs.Ytphmmpdeehfhjaa
open Go.RowKit
set_option linter.unusedVariables false
set_option linter.unusedSimpArgs false
/-- all blocks of a book -/
def bz (bb : Nat) (fv wv av : Value) (fl : List (Nat × List Row)) (wz dz : List Nat) (k : Nat) : Prop := k ∈ hz bb fv wv av ∨ k ∈ fl.map (·.1) ∨ k ∈ dz ∨ k ∈ wz
/-- a book that has grown from another one -/
structure Grown (w wr : World) (bb : Nat) (fv wv av : Value) (fl : List (Nat × List Row)) (es : List Value) (wz dz : List Nat) (N j : Nat) (fv' wv' : Value) (fl' : List (Nat × List Row)) (ws' : List Value) (wz' : List Nat) : Prop where
  book : Book wr bb fv' wv' av fl' ws' es wz' dz N
  len : fl'.length = fl.length + j
  sub : ∀ k, bz bb fv' wv' av fl' wz' dz k → bz bb fv wv av fl wz dz k ∨ w.heap.size ≤ k
  hs : ∀ k ∈ hz bb fv' wv' av, k ∈ hz bb fv wv av ∨ w.heap.size ≤ k
  m : Mods (fun k => k ∈ hz bb fv wv av) w wr
def BookEnd (w : World) (bb : Nat) (fv wv av : Value) (fl : List (Nat × List Row)) (es : List Value) (wz dz : List Nat) (N : Nat) (e : Ending) (w' : World) : Prop :=
  e = .returned (.bool true) ∧ ∃ fv' wv' fl' ws' wz', Grown w w' bb fv wv av fl es wz dz N 2 fv' wv' fl' ws' wz'
section
variable {w wr w3 w4 w6 : World} {bb : Nat} {fv wv av fv' wv' fv2 wv2 v : Value} {fl fl' : List (Nat × List Row)} {ws ws' es : List Value} {wz wz' dz : List Nat} {N j : Nat} {g : Nat} {L : List Row} {O1 O2 : Obj}
theorem Grown.add (h : Grown w wr bb fv wv av fl es wz dz N j fv' wv' fl' ws' wz') (hb3 : Below wr.heap.size wr w3) (hr : RowBlk w3 g (rowsCells L)) (hL : 0 < L.length ∧ L.length ≤ 4294967296) (hg : wr.heap.size ≤ g) {A : Option Addr} {c : Nat} (hv : v = .slice A L.length c) (hA : RowsIn w3 A L) {wz2 : List Nat} (hz2 : ∀ k ∈ wz2, k < w3.heap.size ∧ wr.heap.size ≤ k) (hAz : ∀ q o, A = some ⟨q, o, none⟩ → q ∈ wz2)
    (o1 : w4.ownsRow 0 44 1 fv2 (fl'.length + 1) (fl'.map fval ++ [fval (g, L)])) (g1 : (w3.alloc O1).grownBy w4 fv'.ownBlock) (l1 : fv2.ownBlock = fv'.ownBlock ∨ fv2.ownBlock = some (w3.alloc O1).heap.size)
    (o2 : w6.ownsRow 0 44 1 wv2 (fl'.length + 1) (ws' ++ [v])) (g2 : ((w4.setCell ⟨bb, 0, none⟩ fv2).alloc O2).grownBy w6 wv'.ownBlock) (l2 : wv2.ownBlock = wv'.ownBlock ∨ wv2.ownBlock = some ((w4.setCell ⟨bb, 0, none⟩ fv2).alloc O2).heap.size) :
    Blk w6 bb [fv2, wv', av, .int .i64 (N : Int)] 28 ∧ Grown w (w6.setCell ⟨bb, 1, none⟩ wv2) bb fv wv av fl es wz dz N (j + 1) fv2 wv2 (fl' ++ [(g, L)]) (ws' ++ [v]) (wz' ++ wz2) := by
  have hbk := h.book.move (w' := w3) hb3.size (fun k hk => hb3.block k (h.book.lt k hk))
  have hsz := h.m.size
  have hgn : ∀ k, wr.heap.size ≤ k → ¬ bz bb fv' wv' av fl' wz' dz k := fun k hk hk2 => by have := h.book.lt k hk2; omega
  obtain ⟨r1, r2, r3, r4⟩ := hbk.add hr hL ⟨fun e => hgn g hg (.inl e), fun e => hgn g hg (.inr (.inl e)), fun e => hgn g hg (.inr (.inr (.inl e)))⟩ hv hA (fun k hk => ⟨(hz2 k hk).1, fun e => hgn k (hz2 k hk).2 (.inl e)⟩) hAz o1 g1 l1 o2 g2 l2
  refine ⟨r1, r2, by rw [List.length_append, h.len]; rfl, fun k hk => ?_, fun k hk => ?_, ?_⟩
  · have hb3s := hb3.size
    rcases hk with hk | hk | hk | hk
    · rcases r4 k hk with h1 | h1
      · exact h.sub k (.inl h1)
      · exact .inr (by omega)
    · rw [List.map_append] at hk
      rcases List.mem_append.1 hk with h1 | h1
      · exact h.sub k (.inr (.inl h1))
      · simp at h1; exact .inr (by omega)
    · exact h.sub k (.inr (.inr (.inl hk)))
    · rcases List.mem_append.1 hk with h1 | h1
      · exact h.sub k (.inr (.inr (.inr h1)))
      · exact .inr (by have := (hz2 k h1).2; omega)
  · rcases r4 k hk with h1 | h1
    · exact h.hs k h1
    · exact .inr (by have := hb3.size; omega)
  · refine (h.m.then_new hb3).trans r3 (fun k hk e => ?_)
    rcases h.hs k e with h1 | h1
    · exact h1
    · omega
theorem Book.wn5' (h : Book w3 bb fv wv av fl ws es wz dz N) (hg : (w3.alloc O1).grownBy w4 fv.ownBlock) : (w4.setCell ⟨bb, 0, none⟩ fv2).ownsRow 0 44 1 wv fl.length ws := by
  have := h.wn5 (fv2 := fv2) hg
  rwa [h.lw] at this
theorem Grown.start (h : Book w bb fv wv av fl ws es wz dz N) {W : World} (hb : Below w.heap.size w W) : Grown w W bb fv wv av fl es wz dz N 0 fv wv fl ws wz :=
  ⟨h.move hb.size (fun k hk => hb.block k (h.lt k hk)), rfl, fun k hk => .inl hk, fun k hk => .inl hk, Mods.of_new hb⟩
theorem rows16_any {t : Tr} {a : Nat} {fp : List Nat} {W : World} (h : TrieAt W t a fp) (hh : t.ht ≤ 32) :
    Calls Try.prog 16 #[.pointer (some ⟨a, 0, none⟩)] W fun e w' => ∃ g, e = .returned (.slice (some ⟨g, 0, none⟩) (t.all 0 0).length (t.all 0 0).length) ∧ RowBlk w' g (rowsCells (t.all 0 0)) ∧ W.heap.size ≤ g ∧ Below W.heap.size W w' := by
  refine (rows_any t a fp W h hh).mono ?_
  rintro e w' ⟨g, cur, rfl, hg, hc, ht, hB⟩
  exact ⟨g, rfl, ⟨cur.toList, by simpa using hc, by rw [rowsCells_length]; exact ht⟩, hg, hB⟩
theorem own_rowsIn {base : Nat} {W : World} {v : Value} {L : List Row} (h : OwnRows base W v L) (hL : 0 < L.length ∧ L.length ≤ 4294967296) : ∃ q c, v = .slice (some ⟨q, 0, none⟩) L.length c ∧ base ≤ q ∧ q < W.heap.size ∧ RowsIn W (some ⟨q, 0, none⟩) L := by
  obtain ⟨q, c, rfl, h1, h2⟩ := h.form hL.1
  exact ⟨q, c, rfl, h1, h2, (own_rowBlk h).rowsIn (by omega)⟩
set_option maxHeartbeats 8000000 in
set_option maxRecDepth 100000 in
theorem step_rows {sb a b : Nat} {t : Tr} {fp fr : List Nat} {l : List Cut} (h : Side w sb t a fp b fr l) (hb : Book w bb fv wv av fl ws es wz dz N) (hd : ∀ k ∈ sz sb fp fr, k ∉ hz bb fv wv av) (hN : N + fl.length ≤ 900000) (o : OpV) (ho : o.kind = 4) :
    Calls Try.prog 12 #[.pointer (some ⟨sb, 0, none⟩), o.val, .pointer (some ⟨bb, 0, none⟩)] w (BookEnd w bb fv wv av fl es wz dz N) := by
  obtain ⟨kind, on, n, pa, pb, LA, lc, xs, RA, rc, rows⟩ := o
  simp only at ho
  subst ho
  unfold OpV.val
  simp only
  obtain ⟨bx, hbx⟩ : ∃ bx, bx = w.heap.size := ⟨_, rfl⟩
  obtain ⟨W, hW⟩ : ∃ W, W = w.alloc (.cells #[.int .i64 4, .int .i64 on, .int .i64 n, .int .i64 pa, .int .i64 pb, .slice LA xs.length lc, .slice RA rows.length rc] 46) := ⟨_, rfl⟩
  have hB : Below w.heap.size w W := by rw [hW]; exact (Below.refl _ _).alloc (Nat.le_refl _) _
  have hbl : Blk W bx [.int .i64 4, .int .i64 on, .int .i64 n, .int .i64 pa, .int .i64 pb, .slice LA xs.length lc, .slice RA rows.length rc] 46 := by rw [hW, hbx]; exact Blk.new w _ 46
  have cb0 : W.cell? ⟨bx, 0, none⟩ = some (.int .i64 4) := hbl.cell 0
  have hbxl : bx < W.heap.size := hbl.lt
  have HG0 := Hid.mk_ (Grown.start hb hB)
  have HSD := Hid.mk_ (fun (W2 : World) (hm : Mods (fun k => k ∈ hz bb fv wv av) w W2) => h.move (w' := W2) (fun k hk => hm.block k (h.lt k hk) (hd k hk)))
  obtain ⟨L, hLe⟩ : ∃ L, L = t.all 0 0 := ⟨_, rfl⟩
  have hL : 0 < L.length ∧ L.length ≤ 4294967296 := by
    have h1 := Tr.all_length t 0 0
    have h2 := Nat.pow_le_pow_right (n := 2) (by omega) h.ht
    rw [hLe]
    omega
  obtain ⟨hL0, hL1⟩ := hL
  have HT := Hid.mk_ (fun (W2 : World) (hs : Side W2 sb t a fp b fr l) => rows16_any hs.trie h.ht)
  have HR := Hid.mk_ (fun (W2 : World) (hs : Side W2 sb t a fp b fr l) => rows31_any hs.norm hs.ref h.ht h.can)
  rw [← hLe] at HT HR
  have HW := Hid.mk_ hW
  have HX := Hid.mk_ hbx
  have HNN := Hid.mk_ hN
  obtain ⟨i1, hi1, hy0, hy1, hy2⟩ := info_parts Try.info44
  clear hW hB hbx hbl h hb hd hLe hN
  go_enter Try.func12, Try.ntmps12
  go_upto_region 1 with fail
  rw [← HW.out, ← HX.out]
  go_wp2_with fail
  go_loopw [14] (fun x14 wr => ∃ (j : Nat) (fv' wv' : Value) (fl' : List (Nat × List Row)) (ws' : List Value) (wz' : List Nat), j ≤ 2 ∧ x14 = .int .i64 (j : Int) ∧ Hid (Grown w wr bb fv wv av fl es wz dz N j fv' wv' fl' ws' wz')) (fun x _ => 2 - (intOf x).toNat)
  case atStart => exact ⟨0, fv, wv, fl, ws, wz, by omega, rfl, HG0⟩
  case round =>
    obtain ⟨j, fv', wv', fl', ws', wz', hj, rfl, HG⟩ := hrel
    by_cases hj2 : j < 2
    · have hj3 : (j : Int) < 2 := by omega
      obtain ⟨Af, cf, hfv⟩ := own_shape HG.out.book.hf
      obtain ⟨Aw, cw, hwv⟩ := own_shape HG.out.book.hw
      subst hfv hwv
      have hlen := HG.out.len
      have hfl : fl'.length ≤ 1000000 := by have := HNN.out; omega
      have hS := HSD.out wr HG.out.m
      have s0 : wr.cell? ⟨sb, 0, none⟩ = some (.pointer (some ⟨a, 0, none⟩)) := hS.blk.cell 0
      have hsbl : sb < wr.heap.size := hS.blk.lt
      have HS := Hid.mk_ hS
      have HC1 := Hid.mk_ (HT.out wr hS)
      clear hS hlen
      go_wp2_with (first
        | (go_at_call 16; (with_reducible refine HC1.out.mono ?_); rintro e w1 ⟨g, rfl, hr1, hg1, hb1⟩; have HS1 := Hid.mk_ (HS.out.new hb1); have s1 : w1.cell? ⟨sb, 1, none⟩ = some (.pointer (some ⟨b, 0, none⟩)) := HS1.out.blk.cell 1; have hsb1 : sb < w1.heap.size := HS1.out.blk.lt; have HR1 := Hid.mk_ hr1; have HB1 := Hid.mk_ hb1; have HC2 := Hid.mk_ (HR.out w1 HS1.out); clear hr1 hb1)
        | (go_at_call 31; (with_reducible refine HC2.out.mono ?_); rintro e w2 ⟨v2, rfl, hown2, hb2⟩; obtain ⟨q, c, rfl, hq1, hq2, hR2⟩ := own_rowsIn hown2 ⟨hL0, hL1⟩; have HB2 := Hid.mk_ (HB1.out.trans (hb2.mono HB1.out.size)); have HR2 := Hid.mk_ (HR1.out.move (hb2.block g HR1.out.lt)); have HRI := Hid.mk_ hR2; have hw12 : w1.heap.size ≤ w2.heap.size := hb2.size; clear hown2 hb2 hR2)
        | (go_at_call 15; (with_reducible refine (lawrows_any _ _ _ _ L L w2 (HR2.out.rowsIn (by omega)) HRI.out).mono ?_); rintro e w3 ⟨he, n3, hw3⟩; rw [decide_eq_true rfl] at he; subst he; have HB3 := Hid.mk_ (show Below wr.heap.size wr w3 by rw [hw3]; exact HB2.out.trans (Drawn_below _ _)); have HR3 := Hid.mk_ (show RowBlk w3 g (rowsCells L) by rw [hw3]; exact HR2.out.move rfl); have HRI3 := Hid.mk_ (show RowsIn w3 (some ⟨q, 0, none⟩) L by rw [hw3]; exact HRI.out.move (fun _ _ _ _ => rfl)); have hq3 : q < w3.heap.size := (by rw [hw3]; exact hq2); have hwr1 := HB1.out.size; have HBK3 := Hid.mk_ (HG.out.book.move (w' := w3) HB3.out.size (fun k hk => HB3.out.block k (HG.out.book.lt k hk))); have b0 : w3.cell? ⟨bb, 0, none⟩ = some (.slice Af fl'.length cf) := HBK3.out.head.blk.cell 0; have f0 := HBK3.out.head.blk.free 0; have hbb3 : bb < w3.heap.size := HBK3.out.head.blk.lt; clear hw3)
        | (at_builtin; refine wpList_append_own_at _ rfl _ _ 26 rfl 0 44 i1 _ 1 24 Try.underlying26 hi1 hy0 hy1 hy2 rfl (by omega) _ _ _ rfl (World.ownsRow.alloc HBK3.out.hf _) ⟨_, 0, none⟩ 1 1 [.slice (some ⟨g, 0, none⟩) L.length L.length] rfl rfl (one_cells_at _ _ _ (by simp)) (by simp [Value.oneCell']) (by unfold maxLen; omega) (by omega) (by simp) ?_; intro fv2 w4 o1 g1 _ l1; obtain ⟨Ag, cg, rfl⟩ := own_shape o1; have hb4 := HBK3.out.blk4 g1; have p0 : w4.cell? ⟨bb, 0, none⟩ = some (.slice Af fl'.length cf) := hb4.cell 0; have p1 : w4.cell? ⟨bb, 1, none⟩ = some (.slice Aw fl'.length cw) := hb4.cell 1; have pf0 := hb4.free 0; have pf1 := hb4.free 1; have hbb4 : bb < w4.heap.size := hb4.lt; have HO1 := Hid.mk_ o1; have HG1 := Hid.mk_ g1; have HL1 := Hid.mk_ l1; clear o1 g1 l1 hb4)
        | (at_builtin; refine wpList_append_own_at _ rfl _ _ 26 rfl 0 44 i1 _ 1 24 Try.underlying26 hi1 hy0 hy1 hy2 rfl (by omega) _ _ _ rfl (World.ownsRow.alloc (HBK3.out.wn5' HG1.out) _) ⟨_, 0, none⟩ 1 1 [.slice (some ⟨q, 0, none⟩) L.length c] rfl rfl (one_cells_at _ _ _ (by simp)) (by simp [Value.oneCell']) (by unfold maxLen; omega) (by omega) (by simp) ?_; intro wv2 w6 o2 g2 _ l2; obtain ⟨Ah, ch, rfl⟩ := own_shape o2; obtain ⟨hb6, hgr⟩ := HG.out.add HB3.out HR3.out ⟨hL0, hL1⟩ hg1 rfl HRI3.out (wz2 := [q]) (fun k hk => by simp at hk; subst hk; exact ⟨hq3, by omega⟩) (fun q o e => by cases e; simp) HO1.out HG1.out HL1.out o2 g2 l2; have r1 : w6.cell? ⟨bb, 1, none⟩ = some (.slice Aw fl'.length cw) := hb6.cell 1; have rf1 := hb6.free 1; have hbb6 : bb < w6.heap.size := hb6.lt; have HGR := Hid.mk_ hgr; clear hb6 hgr o2 g2 l2))
      exact ⟨⟨j + 1, _, _, _, _, _, by omega, by go_num, HGR⟩, by simp [intOf]; omega⟩
    · have hge : ¬ ((j : Int) < 2) := by omega
      obtain rfl : j = 2 := by omega
      go_wp2_with fail
      go_ret
      exact ⟨rfl, _, _, _, _, _, HG.out⟩
end
end Go.Proofs.Ytphmmpdeehfhjaa
