/- near. -/
import Derived.Test.YtmfdcaalbpikpaaX9
import Derived.StillTactics
namespace Go.Proofs.Ytmfdcaalbpikpaa
open Go.RowKit Go.Maps
set_option linter.unusedVariables false
set_option linter.unusedSimpArgs false
/-- a step whose numbers are of what is there -/
def NearPost (w : World) (S : List Int) (N : List Nd) (o : OpD) (e : Ending) (w' : World) : Prop :=
  ∃ o' : OpD, e = .returned o'.agg ∧ o'.wh = o.wh ∧ OpDOk w' o' ∧ hasA N o'.g = true ∧ (hasA N o'.f = true ∧ (0 ≤ o'.l ∧ o'.l < S.length) ∧ (0 ≤ o'.c ∧ o'.c < S.getD o'.l.toNat 0) ∧ (o'.ins.length : Int) = S.getD o'.l.toNat 0) ∧ o'.ins.length ≤ 256 ∧ (∀ g p, o'.A = some ⟨g, p, none⟩ → 0 < o'.ins.length → w.heap.size ≤ g) ∧ Below w.heap.size w w' ∧ o'.cls.length = S.length ∧ ∀ g p, o'.B = some ⟨g, p, none⟩ → w.heap.size ≤ g
def zeros37 : List Value := [.bool false, .int .i64 0, .int .i64 0, .int .i64 0, .int .i64 0, .int .i64 0, .int .i64 0, .slice none 0 0, .slice none 0 0]
structure NS (w wr : World) (bo : Nat) (cs : List Value) : Prop where
  blk : Blk wr bo cs 37
  res : Blk wr (bo + 1) zeros37 37
  below : Below w.heap.size w wr
theorem skip_no {c : Bool} {X E : Prop} (h : c = false) (hE : E) : if c = true then X else E := by rw [if_neg (by rw [h]; decide)]; exact hE
theorem slot_put {a : Act} {d e : Nat} {v u : Value} (hne : d ≠ e) (h : a.tmps[e]? = some u) : (a.put (some d) v).tmps[e]? = some u := by
  simp only [Act.put]
  rw [Array.getElem?_setIfInBounds, if_neg hne]
  exact h
theorem no_wanted {ops : Array Oper} {a : Act} {o : Oper} {i e : Nat} (hg : o.guard = some (i, true)) (hi : (ops[i]?).bind (·.dst) = some e) (h : a.tmps[e]? = some (.bool false)) : Region.wanted o (yielded ops a.tmps) = false := by
  unfold Region.wanted yielded
  rw [hg]
  simp only [hi, Option.bind_some, h]
  rfl
/-- an operation of a region that draws, whose guard says no, is passed over -/
theorem take_no {P : Program} {md : Region.Mode} {ops : Array Oper} {Q : Exit → Act → World → Prop} {i g d e : Nat} {oi : Oper} {fuel : Nat} {listed : Array Bool} {a : Act} {w : World} (hi : ops[i]? = some oi)
    (hs : Region.noSelect ops = true) (hf : Region.free md ops listed i = true) (hr : (Region.ready md ops listed).contains i = true) (hQ : ∀ c a w, Q (.panic c) (a.put oi.dst undef) w → Q (.panic c) a w)
    (hg : oi.guard = some (g, true)) (h5 : (ops[g]?).bind (·.dst) = some e) (hd : oi.dst = some d) (hne : d ≠ e) (hG : a.tmps[e]? = some (.bool false))
    (h : ∀ a', a' = a.put (some d) undef → a'.tmps[e]? = some (.bool false) → wpAny P md ops Q fuel (listed.setIfInBounds i true) a' w) : wpAny P md ops Q (fuel + 1) listed a w :=
  wpAny_take hi hs hf hr hQ (.inr ⟨no_wanted hg h5 hG, rfl⟩) (h _ (by rw [hd]) (by rw [hd]; exact slot_put hne hG))
theorem bools_row {w : World} {A : Option Addr} {c : Nat} {xs : List Bool} (h : Row w 4 1 (.slice A xs.length c) xs.length (xs.map Value.bool)) : BoolsIn w A xs := by
  refine ⟨?_, fun h0 => ?_⟩
  · rcases h.2 with ⟨e, e2⟩ | ⟨g, cap, cur, e, _, _, hc, _⟩
    · omega
    · have := h.capLe; cases e; unfold maxLen at hc; omega
  · obtain ⟨g, c', e, hg, _⟩ := h.some_ h0
    cases e
    exact ⟨g, 0, rfl, hg, fun j hj => by rw [Nat.zero_add]; exact bools4 h rfl j hj⟩
/-- a list that grows beside a step -/
structure NL (w wr : World) (bo : Nat) (cs : List Value) (e : TypeId) (vs : List Value) (A : Option Addr) (n c : Nat) : Prop where
  ns : NS w wr bo cs
  row : Row wr e 1 (.slice A n c) n vs
  own : ∀ q, (Value.slice A n c).ownBlock = some q → w.heap.size ≤ q
theorem NL.step {w wr w3 : World} {bo : Nat} {cs : List Value} {e : TypeId} {vs : List Value} {A : Option Addr} {n c g cap : Nat} {o : Obj} {v : Value} (h : NL w wr bo cs e vs A n c) (he : e ≠ 37) (hrow : Row w3 e 1 (.slice (some ⟨g, 0, none⟩) (n + 1) cap) (n + 1) (vs ++ [v]))
    (hg : (wr.alloc o).grownBy w3 (Value.slice A n c).ownBlock) (hl : (Value.slice A n c).ownBlock = some g ∨ g = wr.heap.size + 1) : NL w w3 bo cs e (vs ++ [v]) (some ⟨g, 0, none⟩) (n + 1) cap where
  ns := ⟨(h.ns.blk.alloc o).grown hg (fun e2 => row_blk h.row h.ns.blk he e2.symm), (h.ns.res.alloc o).grown hg (fun e2 => row_blk h.row h.ns.res he e2.symm), Below.grown (h.ns.below.alloc h.ns.below.size _) hg (by simp; have := h.ns.below.size; omega) (fun q e2 => h.own q e2)⟩
  row := hrow
  own := fun q hq => by
    cases hq
    rcases hl with e2 | e2
    · exact h.own g e2
    · have := h.ns.below.size; show w.heap.size ≤ g; omega
section
variable {w wr w' : World} {wb ab xb bo : Nat} {lv : Value} {S : List Int} {M : Int} {N0 N N' N1 N2 : List Nd} {zp0 zp zp2 zr : List Nat} {f g op : Int} {R : Out} {cs : List Value}
theorem NS.set (h : NS w wr bo cs) (hb : w.heap.size ≤ bo) (i : Nat) (v : Value) : NS w (wr.setCell ⟨bo, i, none⟩ v) bo (cs.set i v) := ⟨h.blk.set i v, h.res.far (p := ⟨bo, i, none⟩) (by show bo + 1 ≠ bo; omega) v, h.below.setCell hb v⟩
theorem NS.drewN (h : NS w wr bo cs) (n : Nat) : NS w (wr.drewN n) bo cs := ⟨h.blk.drewN n, h.res.drewN n, h.below.trans (Drawn_below _ _)⟩
theorem NS.drew (h : NS w wr bo cs) : NS w wr.drew bo cs := ⟨h.blk.drew, h.res.drew, Below.drew h.below⟩
theorem NL.drewN {w wr : World} {bo : Nat} {cs : List Value} {e : TypeId} {vs : List Value} {A : Option Addr} {n c : Nat} (h : NL w wr bo cs e vs A n c) (m : Nat) : NL w (wr.drewN m) bo cs e vs A n c :=
  ⟨h.ns.drewN m, h.row.move (fun _ _ => rfl), h.own⟩
theorem NL.drew {w wr : World} {bo : Nat} {cs : List Value} {e : TypeId} {vs : List Value} {A : Option Addr} {n c : Nat} (h : NL w wr bo cs e vs A n c) : NL w wr.drew bo cs e vs A n c :=
  ⟨h.ns.drew, h.row.move (fun _ _ => rfl), h.own⟩
set_option maxRecDepth 100000 in
set_option maxHeartbeats 16000000 in
theorem near_any {o : OpD} (h : WS w wb ab xb lv S M N N' zp zr) (ho : OpDOk w o) (h64 : ∀ x ∈ o.cls, i64 x) :
    Calls Try.prog 12 #[.pointer (some ⟨wb, 0, none⟩), o.agg] w (NearPost w S N' o) := by
  obtain ⟨w2, hw2⟩ : ∃ w2, w2 = (w.alloc (.cells o.cells.toArray 37)).alloc (.cells zeros37.toArray 37) := ⟨_, rfl⟩
  have hb1 : Below w.heap.size w (w.alloc (.cells o.cells.toArray 37)) := (Below.refl _ _).alloc (Nat.le_refl _) _
  have hs1 : (w.alloc (.cells o.cells.toArray 37)).heap.size = w.heap.size + 1 := by simp
  have hb2 : Below w.heap.size w w2 := by rw [hw2]; exact hb1.alloc hb1.size _
  obtain ⟨bo, hbo⟩ : ∃ b, b = w.heap.size := ⟨_, rfl⟩
  have hns : NS w w2 bo o.cells := by
    refine ⟨?_, ?_, hb2⟩
    · rw [hw2, hbo]; exact (Blk.new w o.cells 37).alloc _
    · have := Blk.new (w.alloc (.cells o.cells.toArray 37)) zeros37 37
      rw [hs1, ← hbo, ← hw2] at this
      exact this
  have HBO := Hid.mk_ (show w.heap.size ≤ bo by omega)
  have HNS := Hid.mk_ hns
  have HO := Hid.mk_ ho
  have H64 := Hid.mk_ h64
  obtain ⟨gs, cs0, r0, hgs, hrb, hsc⟩ := h.ra.sizes
  have y1 := h.blk.cell 1
  have yl := h.blk.lt
  have HSZ : Hid (∀ W, Below w.heap.size w W → W.cell? ⟨wb, 1, none⟩ = some (.pointer (some ⟨xb, 0, none⟩)) ∧ wb < W.heap.size ∧ W.cell? ⟨xb, 0, none⟩ = some (.slice (some ⟨gs, 0, none⟩) S.length cs0) ∧ xb < W.heap.size ∧ gs < W.heap.size) := fun W hW =>
    ⟨(hW.cell (p := ⟨wb, 1, none⟩) yl).trans y1, Nat.lt_of_lt_of_le yl hW.size, (hW.cell (p := ⟨xb, 0, none⟩) hrb).trans r0, Nat.lt_of_lt_of_le hrb hW.size, Nat.lt_of_lt_of_le hgs hW.size⟩
  have HSC : Hid (∀ W, Below w.heap.size w W → ∀ i (hi : i < S.length), W.cell? ⟨gs, i, none⟩ = some (.int .i64 (S[i]'hi))) := fun W hW i hi => (hW.cell (p := ⟨gs, i, none⟩) hgs).trans (hsc i hi)
  have hG := h.ra.good
  have HGO := Hid.mk_ hG
  have hl8 := hG.len2
  have hs12 := hG.s2
  have hs1' := hG.s1
  have HLEN : Hid (∀ W, Below w.heap.size w W → Calls Try.prog 19 #[.pointer (some ⟨xb, 0, none⟩)] W fun e w' => e = .returned (.int .i64 (N'.length : Int)) ∧ W = w') := fun W hW => rlen_at (h.ra.new hW)
  have HPF := Hid.mk_ (fun W => pick_any o.f ((N'.length : Int) + 2) (by omega) ho.f.1 ho.f.2 W)
  have HPG := Hid.mk_ (fun W => pick_any o.g ((N'.length : Int) + 2) (by omega) ho.g.1 ho.g.2 W)
  have HPH := Hid.mk_ (fun W => pick_any o.h ((N'.length : Int) + 2) (by omega) ho.h.1 ho.h.2 W)
  have HPL : Hid (∀ W, Calls Try.prog 7 #[.int .i64 o.l, .int .i64 (S.length : Int)] W fun e w' => e = .returned (.int .i64 (pickI o.l (S.length : Int))) ∧ w' = W) := fun W => (pick_any o.l (S.length : Int) (by omega) ho.l.1 ho.l.2 W).mono fun e w' hh => ⟨hh.1, hh.2.symm⟩
  have hrl := pickI_range o.l (S.length : Int) (by omega)
  obtain ⟨ln, hln⟩ : ∃ ln : Nat, pickI o.l (S.length : Int) = (ln : Int) := ⟨(pickI o.l (S.length : Int)).toNat, by omega⟩
  rw [hln] at HPL hrl
  have hlS : ln < S.length := by omega
  have hlS1 : (ln : Int) < S.length := by omega
  have hsz := hG.toSized.at_ ln hlS
  obtain ⟨s, hs⟩ : ∃ s, s = S[ln]'hlS := ⟨_, rfl⟩
  rw [← hs] at hsz
  have HS := Hid.mk_ hs
  have HPC : Hid (∀ W, Calls Try.prog 7 #[.int .i64 o.c, .int .i64 s] W fun e w' => e = .returned (.int .i64 (pickI o.c s)) ∧ w' = W) := fun W => (pick_any o.c s (by omega) ho.c.1 ho.c.2 W).mono fun e w' hh => ⟨hh.1, hh.2.symm⟩
  have hrf := pickI_range o.f ((N'.length : Int) + 2) (by omega)
  have hrg := pickI_range o.g ((N'.length : Int) + 2) (by omega)
  have hrh := pickI_range o.h ((N'.length : Int) + 2) (by omega)
  have hrc := pickI_range o.c s (by omega)
  obtain ⟨near, wh, f, g, hh, l, c, A, cA, ins, B, cB, cls⟩ := o
  simp only at HPF HPG HPH HPL HPC hrf hrg hrh hrc
  obtain ⟨pf, hpf⟩ : ∃ x, x = pickI f ((N'.length : Int) + 2) := ⟨_, rfl⟩
  obtain ⟨pg, hpg⟩ : ∃ x, x = pickI g ((N'.length : Int) + 2) := ⟨_, rfl⟩
  obtain ⟨ph, hph⟩ : ∃ x, x = pickI hh ((N'.length : Int) + 2) := ⟨_, rfl⟩
  obtain ⟨pc, hpc⟩ : ∃ x, x = pickI c s := ⟨_, rfl⟩
  rw [← hpf] at HPF hrf
  rw [← hpg] at HPG hrg
  rw [← hph] at HPH hrh
  rw [← hpc] at HPC hrc
  unfold OpD.cells at hw2 HNS hns
  simp only at hw2 HNS hns
  have hilb : ins.length ≤ 9223372036854775807 := ho.ins.1
  obtain ⟨il, hil⟩ : ∃ il, il = ins.length := ⟨_, rfl⟩
  rw [← hil] at hw2 HNS hns hilb
  have HIL := Hid.mk_ hil
  have HW2 := Hid.mk_ hw2
  obtain ⟨s1, s2, s3, s4, s5⟩ := HSZ.out w2 hb2
  have HL2 := Hid.mk_ (HLEN.out w2 hb2)
  have b2 := hns.blk.cell 2
  have b3 := hns.blk.cell 3
  have b4 := hns.blk.cell 4
  have f2 := hns.blk.free 2
  have f3 := hns.blk.free 3
  have f4 := hns.blk.free 4
  have bl := hns.blk.lt
  unfold OpD.agg
  simp only
  suffices hgoal : Calls Try.prog 12 #[.pointer (some ⟨wb, 0, none⟩), .agg #[.bool near, .int .i64 wh, .int .i64 f, .int .i64 g, .int .i64 hh, .int .i64 l, .int .i64 c, .slice A il cA, .slice B cls.length cB]] w (NearPost w S N' ⟨near, wh, f, g, hh, l, c, A, cA, ins, B, cB, cls⟩) by
    rw [hil] at hgoal; exact hgoal
  clear h ho h64 hil hw2 hb1 hs1 hb2 hns r0 hgs hrb hsc y1 yl hG hln hs hpf hpg hph hpc
  go_enter Try.func12, Try.ntmps12
  go_upto_region 1 with fail
  unfold zeros37 at HW2
  rw [← HW2.out, ← hbo]
  clear hbo
  go_upto_region 3 with (first
    | (go_at_call 19; (with_reducible refine HL2.out.mono ?_); rintro e w' ⟨rfl, rfl⟩)
    | (go_at_call 7; (with_reducible refine (HPF.out _).mono ?_); rintro e w' ⟨rfl, rfl⟩))
  obtain ⟨w3, hw⟩ : ∃ W, W = w2.setCell ⟨bo, 2, none⟩ (Value.int .i64 pf) := ⟨_, rfl⟩
  rw [← hw]
  have hns : NS w w3 bo [.bool near, .int .i64 wh, .int .i64 pf, .int .i64 g, .int .i64 hh, .int .i64 l, .int .i64 c, .slice A il cA, .slice B cls.length cB] := by rw [hw]; exact HNS.out.set HBO.out 2 _
  have HN3 := Hid.mk_ hns
  clear hw
  clear s1 s2 s3 s4 s5 b2 b3 b4 f2 f3 f4 bl HL2
  have b3 := hns.blk.cell 3
  have f3 := hns.blk.free 3
  have bl := hns.blk.lt
  clear hns
  go_upto_region 4 with (go_at_call 7; (with_reducible refine (HPG.out _).mono ?_); rintro e w' ⟨rfl, rfl⟩)
  obtain ⟨w4, hw⟩ : ∃ W, W = w3.setCell ⟨bo, 3, none⟩ (Value.int .i64 pg) := ⟨_, rfl⟩
  rw [← hw]
  have hns : NS w w4 bo [.bool near, .int .i64 wh, .int .i64 pf, .int .i64 pg, .int .i64 hh, .int .i64 l, .int .i64 c, .slice A il cA, .slice B cls.length cB] := by rw [hw]; exact HN3.out.set HBO.out 3 _
  have HN4 := Hid.mk_ hns
  clear hw
  clear b3 f3 bl
  have b4 := hns.blk.cell 4
  have f4 := hns.blk.free 4
  have bl := hns.blk.lt
  clear hns
  go_upto_region 5 with (go_at_call 7; (with_reducible refine (HPH.out _).mono ?_); rintro e w' ⟨rfl, rfl⟩)
  obtain ⟨w5, hw⟩ : ∃ W, W = w4.setCell ⟨bo, 4, none⟩ (Value.int .i64 ph) := ⟨_, rfl⟩
  rw [← hw]
  have hns : NS w w5 bo [.bool near, .int .i64 wh, .int .i64 pf, .int .i64 pg, .int .i64 ph, .int .i64 l, .int .i64 c, .slice A il cA, .slice B cls.length cB] := by rw [hw]; exact HN4.out.set HBO.out 4 _
  have HN5 := Hid.mk_ hns
  clear hw
  clear b4 f4 bl
  obtain ⟨s1, s2, s3, s4, s5⟩ := HSZ.out w5 hns.below
  have b5 := hns.blk.cell 5
  have f5 := hns.blk.free 5
  have bl := hns.blk.lt
  have s1d : w5.drew.cell? ⟨wb, 1, none⟩ = some (.pointer (some ⟨xb, 0, none⟩)) := s1
  have s3d : w5.drew.cell? ⟨xb, 0, none⟩ = some (.slice (some ⟨gs, 0, none⟩) S.length cs0) := s3
  have b5d : w5.drew.cell? ⟨bo, 5, none⟩ = some (.int .i64 l) := b5
  have f5d : w5.drew.frozen? ⟨bo, 5, none⟩ = false := f5
  clear hns HN3 HN4 HNS
  go_wp2_with fail
  refine still_tail_drew 12 (by kernel_rfl) (by kernel_rfl) ?_
  simp only [List.take_succ_cons, List.take_zero, List.drop_succ_cons, List.drop_zero]
  repeat (first | still_step | still_call (HPL.out _))
  refine wpStill_nil ?_
  go_upto_region 6 with fail
  obtain ⟨w6, hw⟩ : ∃ W, W = (w5.setCell ⟨bo, 5, none⟩ (Value.int .i64 (ln : Int))).drew := ⟨_, rfl⟩
  rw [← hw]
  have hns : NS w w6 bo [.bool near, .int .i64 wh, .int .i64 pf, .int .i64 pg, .int .i64 ph, .int .i64 (ln : Int), .int .i64 c, .slice A il cA, .slice B cls.length cB] := by rw [hw]; exact (HN5.out.set HBO.out 5 _).drew
  have HN6 := Hid.mk_ hns
  clear hw
  clear s1 s2 s3 s4 s5 b5 f5 bl s1d s3d b5d f5d
  obtain ⟨s1, s2, s3, s4, s5⟩ := HSZ.out w6 hns.below
  have s6 := HSC.out w6 hns.below ln hlS
  rw [← HS.out] at s6
  have b5 := hns.blk.cell 5
  have b6 := hns.blk.cell 6
  have f6 := hns.blk.free 6
  have bl := hns.blk.lt
  have s1d : w6.drew.cell? ⟨wb, 1, none⟩ = some (.pointer (some ⟨xb, 0, none⟩)) := s1
  have s3d : w6.drew.cell? ⟨xb, 0, none⟩ = some (.slice (some ⟨gs, 0, none⟩) S.length cs0) := s3
  have s6d : w6.drew.cell? ⟨gs, ln, none⟩ = some (.int .i64 s) := s6
  have b5d : w6.drew.cell? ⟨bo, 5, none⟩ = some (.int .i64 (ln : Int)) := b5
  have b6d : w6.drew.cell? ⟨bo, 6, none⟩ = some (.int .i64 c) := b6
  have f6d : w6.drew.frozen? ⟨bo, 6, none⟩ = false := f6
  clear hns HN5
  go_wp2_with fail
  refine still_tail_drew 15 (by kernel_rfl) (by kernel_rfl) ?_
  simp only [List.take_succ_cons, List.take_zero, List.drop_succ_cons, List.drop_zero]
  repeat (first | still_step | still_call (HPC.out _))
  refine wpStill_nil ?_
  go_upto_region 7 with fail
  obtain ⟨w7, hw⟩ : ∃ W, W = (w6.setCell ⟨bo, 6, none⟩ (Value.int .i64 pc)).drew := ⟨_, rfl⟩
  rw [← hw]
  have hns : NS w w7 bo [.bool near, .int .i64 wh, .int .i64 pf, .int .i64 pg, .int .i64 ph, .int .i64 (ln : Int), .int .i64 pc, .slice A il cA, .slice B cls.length cB] := by rw [hw]; exact (HN6.out.set HBO.out 6 _).drew
  have HN7 := Hid.mk_ hns
  clear hw
  clear s1 s2 s3 s4 s5 s6 b5 b6 f6 bl s1d s3d s6d b5d b6d f6d HN6
  obtain ⟨cs, hcs⟩ : ∃ cs, cs = [Value.bool near, .int .i64 wh, .int .i64 pf, .int .i64 pg, .int .i64 ph, .int .i64 (ln : Int), .int .i64 pc, .slice A il cA, .slice B cls.length cB] := ⟨_, rfl⟩
  have b5 : cs[5]? = some (.int .i64 (ln : Int)) := by rw [hcs]; rfl
  have b7 : cs[7]? = some (.slice A il cA) := by rw [hcs]; rfl
  rw [← hcs] at hns
  have HN := Hid.mk_ hns
  have HCS := Hid.mk_ hcs
  have HB5 := Hid.mk_ b5
  have HB7 := Hid.mk_ b7
  clear hns hcs b5 b7 HN7
  obtain ⟨i4, hi4, hb0, hb1, hb2⟩ := info_parts Try.info4
  go_wp2_with fail
  go_loopw [6, 7] (fun x6 x7 wr => ∃ (n : Nat) (xs : List Bool) (A1 : Option Addr) (c1 : Nat), (n : Int) ≤ s ∧ x7 = .int .i64 (n : Int) ∧ x6 = .slice A1 n c1 ∧ Hid (xs.length = n) ∧ Hid (NL w wr bo cs 4 (xs.map Value.bool) A1 n c1)) (fun _ x7 _ => s.toNat - (intOf x7).toNat)
  case atStart => exact ⟨0, [], none, 0, by omega, rfl, rfl, rfl, HN.out, Row.nil _ _ _, fun q hq => by simp [Value.ownBlock] at hq⟩
  case round =>
    obtain ⟨n, xs, A1, c1, hn, rfl, rfl, HXL, HNL⟩ := hrel
    have HNR := Hid.mk_ HNL.out.ns
    obtain ⟨s1, s2, s3, s4, s5⟩ := HSZ.out wr HNR.out.below
    have s6 := HSC.out wr HNR.out.below ln hlS
    rw [← HS.out] at s6
    have b5 : wr.cell? ⟨bo, 5, none⟩ = some (.int .i64 (ln : Int)) := (HNR.out.blk.cell 5).trans HB5.out
    have bl := HNR.out.blk.lt
    go_upto_region 9 with fail
    go_big_quiet (fail)
    have HN2 := Hid.mk_ (HNR.out.drewN nq)
    have b7 : (wr.drewN nq).cell? ⟨bo, 7, none⟩ = some (.slice A il cA) := (HN2.out.blk.cell 7).trans HB7.out
    have f7 := HN2.out.blk.free 7
    have bl2 := HN2.out.blk.lt
    have HNL2 := Hid.mk_ (HNL.out.drewN nq)
    obtain ⟨wq, hwq⟩ : ∃ W, W = wr.drewN nq := ⟨_, rfl⟩
    rw [← hwq] at HN2 b7 f7 bl2 HNL2 ⊢
    clear hwq s1 s2 s3 s4 s5 s6 b5 bl HNR HNL
    by_cases hlt : (n : Int) < s
    · have ht : decide ((n : Int) < s) = true := decide_eq_true hlt
      have b7d : wq.drew.cell? ⟨bo, 7, none⟩ = some (.slice A il cA) := b7
      have HNL3 := Hid.mk_ HNL2.out.drew
      by_cases hz : il = 0
      · subst hz
        go_upto_region 11 with fail
        refine wp_region_any (by kernel_rfl) ?_
        change wpAny _ _ _ _ _ _ _ (World.drew _)
        refine wpAny_take (i := 0) (v := ?_) rfl (by kernel_rfl) (by kernel_rfl) (by kernel_rfl) (fun _ _ _ h => h) (Or.inl ⟨by rfl, ?_⟩) ?_
        rotate_left
        · intro w; go_simp; first | done | with_reducible rfl
        refine wpAny_take (i := 1) (v := ?_) rfl (by kernel_rfl) (by kernel_rfl) (by kernel_rfl) (fun _ _ _ h => h) (Or.inl ⟨by rfl, ?_⟩) ?_
        rotate_left
        · intro w; go_simp; first | done | with_reducible rfl
        refine wpAny_ready (rs := [2]) (by kernel_rfl) (by simp) ?_
        refine AllReady.cons (o := { dst := some 76, op := Op.load 34 (Operand.tmp 75), type := 34, pos := "law.go:75", after := #[{ on := 1, ground := Ground.data }], guard := none }) rfl (fun K hK => ?_) AllReady.nil
        go_simp
        refine hK _ _ ?_
        clear hK K
        refine wpAny_take (i := 3) (v := ?_) rfl (by kernel_rfl) (by kernel_rfl) (by kernel_rfl) (fun _ _ _ h => h) (Or.inl ⟨by rfl, ?_⟩) ?_
        rotate_left
        · intro w; go_simp; first | done | with_reducible rfl
        refine wpAny_take (i := 4) (v := ?_) rfl (by kernel_rfl) (by kernel_rfl) (by kernel_rfl) (fun _ _ _ h => h) (Or.inl ⟨by rfl, ?_⟩) ?_
        rotate_left
        · intro w; go_simp; first | done | with_reducible rfl
        refine wpAny_ready (rs := [5]) (by kernel_rfl) (by simp) ?_
        refine AllReady.cons (o := { dst := some 79, op := Op.move (Operand.tmp 78), type := 4, pos := "law.go:75", after := #[{ on := 4, ground := Ground.data }], guard := none }) rfl (fun K hK => ?_) AllReady.nil
        go_simp
        refine hK _ _ ?_
        clear hK K
        refine take_no (i := 6) (g := 5) (e := 79) (d := 80) rfl (by kernel_rfl) (by kernel_rfl) (by kernel_rfl) (fun _ _ _ h => h) rfl rfl rfl (by decide) (by rfl) (fun a6 ea6 hG6 => ?_)
        refine take_no (i := 7) (g := 5) (e := 79) (d := 81) rfl (by kernel_rfl) (by kernel_rfl) (by kernel_rfl) (fun _ _ _ h => h) rfl rfl rfl (by decide) hG6 (fun a7 ea7 hG7 => ?_)
        refine take_no (i := 8) (g := 5) (e := 79) (d := 82) rfl (by kernel_rfl) (by kernel_rfl) (by kernel_rfl) (fun _ _ _ h => h) rfl rfl rfl (by decide) hG7 (fun a8 ea8 hG8 => ?_)
        refine take_no (i := 9) (g := 5) (e := 79) (d := 83) rfl (by kernel_rfl) (by kernel_rfl) (by kernel_rfl) (fun _ _ _ h => h) rfl rfl rfl (by decide) hG8 (fun a9 ea9 hG9 => ?_)
        refine take_no (i := 10) (g := 5) (e := 79) (d := 84) rfl (by kernel_rfl) (by kernel_rfl) (by kernel_rfl) (fun _ _ _ h => h) rfl rfl rfl (by decide) hG9 (fun a10 ea10 hG10 => ?_)
        refine take_no (i := 11) (g := 5) (e := 79) (d := 85) rfl (by kernel_rfl) (by kernel_rfl) (by kernel_rfl) (fun _ _ _ h => h) rfl rfl rfl (by decide) hG10 (fun a11 ea11 hG11 => ?_)
        refine take_no (i := 12) (g := 5) (e := 79) (d := 86) rfl (by kernel_rfl) (by kernel_rfl) (by kernel_rfl) (fun _ _ _ h => h) rfl rfl rfl (by decide) hG11 (fun a12 ea12 hG12 => ?_)
        refine take_no (i := 13) (g := 5) (e := 79) (d := 87) rfl (by kernel_rfl) (by kernel_rfl) (by kernel_rfl) (fun _ _ _ h => h) rfl rfl rfl (by decide) hG12 (fun a13 ea13 hG13 => ?_)
        refine take_no (i := 14) (g := 5) (e := 79) (d := 88) rfl (by kernel_rfl) (by kernel_rfl) (by kernel_rfl) (fun _ _ _ h => h) rfl rfl rfl (by decide) hG13 (fun a14 ea14 hG14 => ?_)
        refine take_no (i := 15) (g := 5) (e := 79) (d := 89) rfl (by kernel_rfl) (by kernel_rfl) (by kernel_rfl) (fun _ _ _ h => h) rfl rfl rfl (by decide) hG14 (fun a15 ea15 hG15 => ?_)
        refine take_no (i := 16) (g := 5) (e := 79) (d := 90) rfl (by kernel_rfl) (by kernel_rfl) (by kernel_rfl) (fun _ _ _ h => h) rfl rfl rfl (by decide) hG15 (fun a16 ea16 hG16 => ?_)
        refine take_no (i := 17) (g := 5) (e := 79) (d := 91) rfl (by kernel_rfl) (by kernel_rfl) (by kernel_rfl) (fun _ _ _ h => h) rfl rfl rfl (by decide) hG16 (fun a17 ea17 hG17 => ?_)
        refine take_no (i := 18) (g := 5) (e := 79) (d := 92) rfl (by kernel_rfl) (by kernel_rfl) (by kernel_rfl) (fun _ _ _ h => h) rfl rfl rfl (by decide) hG17 (fun a18 ea18 hG18 => ?_)
        refine take_no (i := 19) (g := 5) (e := 79) (d := 93) rfl (by kernel_rfl) (by kernel_rfl) (by kernel_rfl) (fun _ _ _ h => h) rfl rfl rfl (by decide) hG18 (fun a19 ea19 hG19 => ?_)
        refine take_no (i := 20) (g := 5) (e := 79) (d := 94) rfl (by kernel_rfl) (by kernel_rfl) (by kernel_rfl) (fun _ _ _ h => h) rfl rfl rfl (by decide) hG19 (fun a20 ea20 hG20 => ?_)
        subst ea20 ea19 ea18 ea17 ea16 ea15 ea14 ea13 ea12 ea11 ea10 ea9 ea8 ea7 ea6
        refine wpAny_ready (rs := [21]) (by kernel_rfl) (by simp) ?_
        refine AllReady.cons (o := { dst := some 95, op := Op.pick (Operand.tmp 79) (Operand.tmp 94) (Operand.const (Value.bool false)), type := 4, pos := "law.go:75", after := #[{ on := 5, ground := Ground.data }, { on := 20, ground := Ground.data }], guard := none }) rfl (fun K hK => ?_) AllReady.nil
        go_simp
        refine hK _ _ ?_
        clear hK K
        refine wpAny_ready (rs := [22]) (by kernel_rfl) (by simp) ?_
        refine AllReady.cons (o := { dst := some 96, op := Op.buildSlice 34 1 #[(0, Operand.tmp 95)], type := 34, pos := "law.go:75", after := #[{ on := 21, ground := Ground.data }], guard := none }) rfl (fun K hK => ?_) AllReady.nil
        go_simp
        refine hK _ _ ?_
        clear hK K
        refine wpAny_ready (rs := [23]) (by kernel_rfl) (by simp) ?_
        refine AllReady.cons (o := { dst := some 97, op := Op.call { callee := Callee.builtin Builtin.append, args := #[Operand.tmp 74, Operand.tmp 96], argTypes := #[34, 34] }, type := 34, pos := "law.go:75", after := #[{ on := 0, ground := Ground.data }, { on := 22, ground := Ground.data }, { on := 5, ground := Ground.chain }], guard := none }) rfl (fun K hK => ?_) AllReady.nil
        refine step_append_row _ (by rfl) _ _ 34 (by rfl) 4 i4 (.bool false) 1 1 Try.underlying34 hi4 hb0 hb1 hb2 rfl (by decide) (.slice A1 n c1) n (xs.map Value.bool) (by rfl) ((HNL2.out.row.alloc _).drew) ⟨wq.heap.size, 0, none⟩ 1 1 [.bool _] (by rfl) (by rfl) (one_cells_at wq _ _ rfl) (by simp [Value.oneCell']) (by decide) (by unfold maxLen; omega) (by omega) (wq.heap.size + 1) (by simp) ?_; intro g' cap' w6 hrow hgrow hloc hlt'; have HSS : Hid (∃ b, NL w w6 bo cs 4 (xs.map Value.bool ++ [.bool b]) (some ⟨g', 0, none⟩) (n + 1) cap') := ⟨_, HNL2.out.step (by decide) hrow (grown_drew0 hgrow) hloc⟩; clear hrow hgrow hloc
        refine hK _ _ ?_
        clear hK K
        refine wpAny_take (i := 24) (v := ?_) rfl (by kernel_rfl) (by kernel_rfl) (by kernel_rfl) (fun _ _ _ h => h) (Or.inl ⟨by rfl, ?_⟩) ?_
        rotate_left
        · intro w; go_simp; first | done | with_reducible rfl
        refine wpAny_done (by kernel_rfl) ?_ _
        go_wp2_with fail
        obtain ⟨bb, hss⟩ := HSS.out
        exact ⟨⟨n + 1, xs ++ [bb], _, _, by omega, by go_num, rfl, by rw [List.length_append, HXL.out]; rfl, by rw [List.map_append]; exact hss⟩, by simp [intOf]; omega⟩
      · have hz1 : (0 : Int) < il := by omega
        have hz2 : decide ((0 : Int) < il) = true := decide_eq_true hz1
        have hz3 : 0 < il := by omega
        have hz4 : decide (0 < il) = true := decide_eq_true hz3
        have hz5 : ¬ (il : Int) = 0 := by omega
        have hz6 : 0 < ins.length := by have := HIL.out; omega
        obtain ⟨g0, o0, e0, hg0, hc0⟩ := HO.out.ins.2 hz6
        have e0 : A = some ⟨g0, o0, none⟩ := e0
        subst e0
        obtain ⟨J, hJ⟩ : ∃ J, J = n % il := ⟨_, rfl⟩
        have hml : J < il := by rw [hJ]; exact Nat.mod_lt _ hz3
        have hml1 : (J : Int) < il := by omega
        have hml3 : (0 : Int) ≤ (J : Int) := by omega
        have hml2 : J < ins.length := by rw [← HIL.out]; exact hml
        have hq2 : (n : Int) % (il : Int) = (J : Int) := by rw [hJ]; rfl
        have hq1 : (n : Int).tmod (il : Int) = (J : Int) := by rw [Int.tmod_eq_emod_of_nonneg (by omega)]; exact hq2
        obtain ⟨b0, hb0⟩ : ∃ b, b = ins[J]'hml2 := ⟨_, rfl⟩
        have HC0 : Hid (∀ W, Below w.heap.size w W → W.cell? ⟨g0, o0 + J, none⟩ = some (.bool b0)) := fun W hW => by
          rw [hb0]
          exact (hW.cell (p := ⟨g0, o0 + J, none⟩) hg0).trans (hc0 J hml2)
        have c0d := HC0.out wq.drew (Below.drew HN2.out.below)
        have hgl0 : g0 < wq.heap.size := Nat.lt_of_lt_of_le hg0 HN2.out.below.size
        clear hc0 hb0 hJ
        go_upto_region 11 with fail
        go_region_held3 (fun w' => w'.cell? ⟨bo, 7, none⟩ = some (.slice (some ⟨g0, o0, none⟩) il cA) ∧ w'.cell? ⟨g0, o0 + J, none⟩ = some (.bool b0)) (first | exact ⟨b7d, c0d⟩ | assumption | exact ⟨(((HN2.out.blk.alloc _).drew).cell 7).trans HB7.out, HC0.out _ (Below.drew (HN2.out.below.alloc HN2.out.below.size _))⟩ | exact ⟨(((HN2.out.blk.drew).alloc _).cell 7).trans HB7.out, HC0.out _ ((Below.drew HN2.out.below).alloc HN2.out.below.size _)⟩ | (obtain ⟨bb, hss⟩ := HSS.out; exact ⟨(hss.ns.blk.cell 7).trans HB7.out, HC0.out _ hss.ns.below⟩))
          ((refine step_append_row _ (by rfl) _ _ 34 (by rfl) 4 i4 (.bool false) 1 1 Try.underlying34 hi4 hb0 hb1 hb2 rfl (by decide) (.slice A1 n c1) n (xs.map Value.bool) (by rfl) ((HNL2.out.row.alloc _).drew) ⟨wq.heap.size, 0, none⟩ 1 1 [.bool _] (by rfl) (by rfl) (one_cells_at wq _ _ rfl) (by simp [Value.oneCell']) (by decide) (by unfold maxLen; omega) (by omega) (wq.heap.size + 1) (by simp) ?_; intro g' cap' w6 hrow hgrow hloc hlt'; have HSS : Hid (∃ b, NL w w6 bo cs 4 (xs.map Value.bool ++ [.bool b]) (some ⟨g', 0, none⟩) (n + 1) cap') := ⟨_, HNL2.out.step (by decide) hrow (grown_drew0 hgrow) hloc⟩; clear hrow hgrow hloc))
        all_goals (
          go_wp2_with fail
          obtain ⟨bb, hss⟩ := HSS.out
          exact ⟨⟨n + 1, xs ++ [bb], _, _, by omega, by go_num, rfl, by rw [List.length_append, HXL.out]; rfl, by rw [List.map_append]; exact hss⟩, by simp [intOf]; omega⟩)
    · have ht : decide ((n : Int) < s) = false := decide_eq_false hlt
      go_upto_region 13 with fail
      obtain ⟨w8, hw⟩ : ∃ W, W = wq.setCell ⟨bo, 7, none⟩ (Value.slice A1 n c1) := ⟨_, rfl⟩
      rw [← hw]
      have hn8 : NS w w8 bo (cs.set 7 (.slice A1 n c1)) := by rw [hw]; exact HN2.out.set HBO.out 7 _
      have hrx : Row w8 4 1 (.slice A1 n c1) n (xs.map Value.bool) := by rw [hw]; exact HNL2.out.row.far (p := ⟨bo, 7, none⟩) (HNL2.out.row.notBlk HN2.out.blk (by decide)) _
      obtain ⟨cs2, hcs2⟩ : ∃ cs2, cs2 = cs.set 7 (Value.slice A1 n c1) := ⟨_, rfl⟩
      rw [← hcs2] at hn8
      have hb8 : cs2[8]? = some (.slice B cls.length cB) := by rw [hcs2, HCS.out]; rfl
      have HCS2 := Hid.mk_ hcs2
      have HN8 := Hid.mk_ hn8
      have HRX := Hid.mk_ hrx
      have HB8 := Hid.mk_ hb8
      have HXO := Hid.mk_ HNL2.out.own
      have hn256 : n ≤ 256 := by omega
      have hcl := HO.out.cls.1
      have hcl : cls.length ≤ 9223372036854775807 := hcl
      obtain ⟨i3, hi3, ha0, ha1, ha2⟩ := info_parts Try.info3
      clear hw hn8 hrx hcs2 hb8 HNL2 HN2 b7 f7 bl2 ht hlt hi4 hb0 hb1 hb2
      go_wp2_with fail
      go_loopw [8, 9] (fun x8 x9 wr => ∃ (i : Nat) (ys : List Int) (A2 : Option Addr) (c2 : Nat), i ≤ S.length ∧ x9 = .int .i64 (i : Int) ∧ x8 = .slice A2 i c2 ∧ Hid (ys.length = i) ∧ Hid (NL w wr bo cs2 3 (ys.map (Value.int .i64)) A2 i c2) ∧ Hid (Row wr 4 1 (.slice A1 n c1) n (xs.map Value.bool))) (fun _ x9 _ => S.length - (intOf x9).toNat)
      case atStart => exact ⟨0, [], none, 0, Nat.zero_le _, rfl, rfl, rfl, ⟨HN8.out, Row.nil _ _ _, fun q hq => by simp [Value.ownBlock] at hq⟩, HRX⟩
      case round =>
        obtain ⟨i, ys, A2, c2, hi, rfl, rfl, HYL, HNY, HRR⟩ := hrel
        obtain ⟨s1, s2, s3, s4, s5⟩ := HSZ.out wr HNY.out.ns.below
        have b8 : wr.cell? ⟨bo, 8, none⟩ = some (.slice B cls.length cB) := (HNY.out.ns.blk.cell 8).trans HB8.out
        have f8 := HNY.out.ns.blk.free 8
        have bl := HNY.out.ns.blk.lt
        by_cases hlt : i < S.length
        · have hlt1 : (i : Int) < S.length := by omega
          by_cases hic : i < cls.length
          · have hic1 : (i : Int) < cls.length := by omega
            have s6 := HSC.out wr HNY.out.ns.below i hlt
            have hsb := HGO.out.toSized.at_ i hlt
            obtain ⟨si, hsi⟩ : ∃ si, si = S[i]'hlt := ⟨_, rfl⟩
            rw [← hsi] at s6 hsb
            obtain ⟨g0, o0, e0, hg0, hc0⟩ := HO.out.cls.2 (by show 0 < cls.length; omega)
            have e0 : B = some ⟨g0, o0, none⟩ := e0
            subst e0
            have d0 : wr.cell? ⟨g0, o0 + i, none⟩ = some (.int .i64 (cls[i]'hic)) := (HNY.out.ns.below.cell (p := ⟨g0, o0 + i, none⟩) hg0).trans (hc0 i hic)
            have hgl : g0 < wr.heap.size := Nat.lt_of_lt_of_le hg0 HNY.out.ns.below.size
            obtain ⟨ci, hci⟩ : ∃ ci, ci = cls[i]'hic := ⟨_, rfl⟩
            have hc64 : i64 ci := by rw [hci]; exact H64.out _ (List.getElem_mem hic)
            rw [← hci] at d0
            have HPI := Hid.mk_ (fun W => pick_any ci si (by omega) hc64.1 hc64.2 W)
            obtain ⟨pv, hpv⟩ : ∃ pv, pv = pickI ci si := ⟨_, rfl⟩
            rw [← hpv] at HPI
            clear hsi hc0 hci hpv hc64
            go_upto_region 19 with fail
            go_big_quiet ((go_at_call 7; with_reducible exact quietly _ (HPI.out _)))
            have HNY2 := Hid.mk_ (HNY.out.drewN nq)
            have HRR2 : Hid (Row (wr.drewN nq) 4 1 (.slice A1 n c1) n (xs.map Value.bool)) := HRR.out.move (fun _ _ => rfl)
            obtain ⟨wq, hwq⟩ : ∃ W, W = wr.drewN nq := ⟨_, rfl⟩
            rw [← hwq] at HNY2 HRR2 ⊢
            clear hwq
            go_upto_region 20 with fail
            go_wp2_with (at_builtin; refine wpList_append_row _ rfl _ _ 22 rfl 3 i3 (.int .i64 0) 1 8 Try.underlying22 hi3 ha0 ha1 ha2 rfl (by decide) (.slice A2 i c2) i (ys.map (Value.int .i64)) rfl (HNY2.out.row.alloc _) ⟨wq.heap.size, 0, none⟩ 1 1 [.int .i64 pv] rfl rfl (one_cells_at wq _ _ rfl) (by simp [Value.oneCell']) (by decide) (by unfold maxLen; omega) (by omega) (wq.heap.size + 1) (by simp) ?_; intro g' cap' w6 hrow hgrow hloc hlt'; have HSS := Hid.mk_ (HNY2.out.step (by decide) hrow hgrow hloc); have HRW := Hid.mk_ ((HRR2.out.alloc _).other hgrow (HRR2.out.notRow HNY2.out.row (by decide))); clear hrow hgrow hloc)
            exact ⟨⟨i + 1, ys ++ [pv], _, _, by omega, by go_num, rfl, by rw [List.length_append, HYL.out]; rfl, by rw [List.map_append]; exact HSS.out, HRW.out⟩, by simp [intOf]; omega⟩
          · have hic1 : ¬ (i : Int) < cls.length := by omega
            go_upto_region 20 with fail
            go_wp2_with (at_builtin; refine wpList_append_row _ rfl _ _ 22 rfl 3 i3 (.int .i64 0) 1 8 Try.underlying22 hi3 ha0 ha1 ha2 rfl (by decide) (.slice A2 i c2) i (ys.map (Value.int .i64)) rfl (HNY.out.row.alloc _) ⟨wr.heap.size, 0, none⟩ 1 1 [.int .i64 0] rfl rfl (one_cells_at wr _ _ rfl) (by simp [Value.oneCell']) (by decide) (by unfold maxLen; omega) (by omega) (wr.heap.size + 1) (by simp) ?_; intro g' cap' w6 hrow hgrow hloc hlt'; have HSS := Hid.mk_ (HNY.out.step (by decide) hrow hgrow hloc); have HRW := Hid.mk_ ((HRR.out.alloc _).other hgrow (HRR.out.notRow HNY.out.row (by decide))); clear hrow hgrow hloc)
            exact ⟨⟨i + 1, ys ++ [0], _, _, by omega, by go_num, rfl, by rw [List.length_append, HYL.out]; rfl, by rw [List.map_append]; exact HSS.out, HRW.out⟩, by simp [intOf]; omega⟩
        · have hie : i = S.length := by omega
          subst hie
          have hlt1 : ¬ ((S.length : Nat) : Int) < S.length := by omega
          go_upto_region 22 with fail
          obtain ⟨w9, hw⟩ : ∃ W, W = wr.setCell ⟨bo, 8, none⟩ (Value.slice A2 S.length c2) := ⟨_, rfl⟩
          rw [← hw]
          have hcs3 : cs2.set 8 (Value.slice A2 S.length c2) = [.bool near, .int .i64 wh, .int .i64 pf, .int .i64 pg, .int .i64 ph, .int .i64 (ln : Int), .int .i64 pc, .slice A1 n c1, .slice A2 S.length c2] := by rw [HCS2.out, HCS.out]; rfl
          have hn9 : NS w w9 bo [.bool near, .int .i64 wh, .int .i64 pf, .int .i64 pg, .int .i64 ph, .int .i64 (ln : Int), .int .i64 pc, .slice A1 n c1, .slice A2 S.length c2] := by rw [← hcs3, hw]; exact HNY.out.ns.set HBO.out 8 _
          have hry : Row w9 3 1 (.slice A2 S.length c2) S.length (ys.map (Value.int .i64)) := by rw [hw]; exact HNY.out.row.far (p := ⟨bo, 8, none⟩) (HNY.out.row.notBlk HNY.out.ns.blk (by decide)) _
          have hrz : Row w9 4 1 (.slice A1 n c1) n (xs.map Value.bool) := by rw [hw]; exact HRR.out.far (p := ⟨bo, 8, none⟩) (HRR.out.notBlk HNY.out.ns.blk (by decide)) _
          have HN9 := Hid.mk_ hn9
          have HRY := Hid.mk_ hry
          have HRZ := Hid.mk_ hrz
          have k0 := hn9.blk.cell 0
          have k1 := hn9.blk.cell 1
          have k2 := hn9.blk.cell 2
          have k3 := hn9.blk.cell 3
          have k4 := hn9.blk.cell 4
          have k5 := hn9.blk.cell 5
          have k6 := hn9.blk.cell 6
          have k7 := hn9.blk.cell 7
          have k8 := hn9.blk.cell 8
          have kl := hn9.blk.lt
          have hz9 : Blk w9 (bo + 1) [.bool false, .int .i64 0, .int .i64 0, .int .i64 0, .int .i64 0, .int .i64 0, .int .i64 0, .slice none 0 0, .slice none 0 0] 37 := hn9.res
          have z0 := hz9.cell 0
          have z1 := hz9.cell 1
          have z2 := hz9.cell 2
          have z3 := hz9.cell 3
          have z4 := hz9.cell 4
          have z5 := hz9.cell 5
          have z6 := hz9.cell 6
          have z7 := hz9.cell 7
          have z8 := hz9.cell 8
          have zf0 := hn9.res.free 0
          have zf1 := hn9.res.free 1
          have zf2 := hn9.res.free 2
          have zf3 := hn9.res.free 3
          have zf4 := hn9.res.free 4
          have zf5 := hn9.res.free 5
          have zf6 := hn9.res.free 6
          have zf7 := hn9.res.free 7
          have zf8 := hn9.res.free 8
          have zl := hn9.res.lt
          clear hz9 hn9 hry hrz hw hcs3 s1 s2 s3 s4 s5 b8 f8 bl
          go_wp2_with fail
          obtain ⟨wz, hwz⟩ : ∃ W, W = (((((((((w9.setCell ⟨bo + 1, 0, none⟩ (Value.bool near)).setCell ⟨bo + 1, 1, none⟩ (Value.int .i64 wh)).setCell ⟨bo + 1, 2, none⟩ (Value.int .i64 pf)).setCell ⟨bo + 1, 3, none⟩ (Value.int .i64 pg)).setCell ⟨bo + 1, 4, none⟩ (Value.int .i64 ph)).setCell ⟨bo + 1, 5, none⟩ (Value.int .i64 (ln : Int))).setCell ⟨bo + 1, 6, none⟩ (Value.int .i64 pc)).setCell ⟨bo + 1, 7, none⟩ (Value.slice A1 n c1)).setCell ⟨bo + 1, 8, none⟩ (Value.slice A2 S.length c2)) := ⟨_, rfl⟩
          rw [← hwz]
          have hbz : Blk wz (bo + 1) [.bool near, .int .i64 wh, .int .i64 pf, .int .i64 pg, .int .i64 ph, .int .i64 (ln : Int), .int .i64 pc, .slice A1 n c1, .slice A2 S.length c2] 37 := by
            have := ((((((((HN9.out.res.set 0 (Value.bool near)).set 1 (Value.int .i64 wh)).set 2 (Value.int .i64 pf)).set 3 (Value.int .i64 pg)).set 4 (Value.int .i64 ph)).set 5 (Value.int .i64 (ln : Int))).set 6 (Value.int .i64 pc)).set 7 (Value.slice A1 n c1)).set 8 (Value.slice A2 S.length c2)
            rw [← hwz] at this
            exact this
          have hfar : ∀ k, k ≠ bo + 1 → wz.heap[k]? = w9.heap[k]? := fun k hk => by
            rw [hwz]
            repeat rw [Below.heap_setCell _ _ _ _ hk]
          have hB1 : w.heap.size ≤ bo + 1 := by have := HBO.out; omega
          have hbel : Below w.heap.size w wz := by
            rw [hwz]
            exact ((((((((HN9.out.below.setCell hB1 _).setCell hB1 _).setCell hB1 _).setCell hB1 _).setCell hB1 _).setCell hB1 _).setCell hB1 _).setCell hB1 _).setCell hB1 _
          have hrz : Row wz 4 1 (.slice A1 n c1) n (xs.map Value.bool) := HRZ.out.move (fun k hk => hfar k (HRZ.out.notBlk HN9.out.res (by decide) k hk))
          have hry : Row wz 3 1 (.slice A2 S.length c2) S.length (ys.map (Value.int .i64)) := HRY.out.move (fun k hk => hfar k (HRY.out.notBlk HN9.out.res (by decide) k hk))
          have e0 := hbz.cell 0
          have e1 := hbz.cell 1
          have e2 := hbz.cell 2
          have e3 := hbz.cell 3
          have e4 := hbz.cell 4
          have e5 := hbz.cell 5
          have e6 := hbz.cell 6
          have e7 := hbz.cell 7
          have e8 := hbz.cell 8
          have hxl := HXL.out
          have hyl := HYL.out
          subst hxl
          rw [← hyl] at hry
          refine bodyPost_ret (v := .agg #[.bool near, .int .i64 wh, .int .i64 pf, .int .i64 pg, .int .i64 ph, .int .i64 (ln : Int), .int .i64 pc, .slice A1 xs.length c1, .slice A2 S.length c2]) (by simp [results, Try.results12, go_sem, e0, e1, e2, e3, e4, e5, e6, e7, e8]) rfl ?_
          obtain ⟨A3, c3, e9, hiy⟩ := ints_row hry
          cases e9
          have q1 : i64 pf := by unfold i64; omega
          have q2 : i64 pg := by unfold i64; omega
          have q3 : i64 ph := by unfold i64; omega
          have q4 : i64 (ln : Int) := by unfold i64; omega
          have q5 : i64 pc := by unfold i64; omega
          refine ⟨⟨near, wh, pf, pg, ph, (ln : Int), pc, A1, c1, xs, A2, c2, ys⟩, by rw [← hyl]; rfl, rfl, ⟨HO.out.wh, q1, q2, q3, q4, q5, bools_row hrz, hiy⟩, has_iff.2 hrg, ⟨has_iff.2 hrf, hrl, by show 0 ≤ pc ∧ pc < S.getD ((ln : Nat) : Int).toNat 0; rw [Int.toNat_natCast, getD_mem hlS, ← HS.out]; exact hrc, by show (xs.length : Int) = S.getD ((ln : Nat) : Int).toNat 0; rw [Int.toNat_natCast, getD_mem hlS, ← HS.out]; omega⟩, hn256, fun g p e h0 => HXO.out g (by have e : A1 = some ⟨g, p, none⟩ := e; rw [e]; rfl), hbel, hyl, fun g p e => HNY.out.own g (by have e : A2 = some ⟨g, p, none⟩ := e; rw [e]; rfl)⟩
end
end Go.Proofs.Ytmfdcaalbpikpaa
