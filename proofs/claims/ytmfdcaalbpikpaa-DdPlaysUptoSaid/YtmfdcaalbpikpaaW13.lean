/- A table's put. -/
import Derived.Test.YtmfdcaalbpikpaaW12
namespace Go.Proofs.Ytmfdcaalbpikpaa
open Go.RowKit Go.Maps
set_option linter.unusedVariables false
set_option linter.unusedSimpArgs false
/-- a step as it came in -/
structure OpD where
  near : Bool
  wh : Int
  f : Int
  g : Int
  h : Int
  l : Int
  c : Int
  A : Option Addr
  cA : Nat
  ins : List Bool
  B : Option Addr
  cB : Nat
  cls : List Int
def OpD.cells (o : OpD) : List Value := [.bool o.near, .int .i64 o.wh, .int .i64 o.f, .int .i64 o.g, .int .i64 o.h, .int .i64 o.l, .int .i64 o.c, .slice o.A o.ins.length o.cA, .slice o.B o.cls.length o.cB]
def OpD.agg (o : OpD) : Value := .agg #[.bool o.near, .int .i64 o.wh, .int .i64 o.f, .int .i64 o.g, .int .i64 o.h, .int .i64 o.l, .int .i64 o.c, .slice o.A o.ins.length o.cA, .slice o.B o.cls.length o.cB]
structure OpDOk (w : World) (o : OpD) : Prop where
  wh : i64 o.wh
  f : i64 o.f
  g : i64 o.g
  h : i64 o.h
  l : i64 o.l
  c : i64 o.c
  ins : BoolsIn w o.A o.ins
  cls : IntsIn w o.B o.cls
theorem OpDOk.new {w w' : World} {o : OpD} (h : OpDOk w o) (hb : Below w.heap.size w w') : OpDOk w' o := ⟨h.wh, h.f, h.g, h.h, h.l, h.c, h.ins.new hb, h.cls.new hb⟩
/-- what an operation must say of a point -/
def putF (S : List Int) (N : List Nd) (wh fi fk lv cl : Int) (n : Nat) : Bool :=
  if wh = 2 then !(den N (pt S (n : Int)) fi) else if wh = 3 then (den N (pt S (n : Int)) fi && den N (pt S (n : Int)) fk) else if wh = 4 then (den N (pt S (n : Int)) fi || den N (pt S (n : Int)) fk)
  else if wh = 5 then (den N (pt S (n : Int)) fi != den N (pt S (n : Int)) fk) else den N ((pt S (n : Int)).set lv.toNat cl) fi
def putL (S : List Int) (N : List Nd) (wh fi fk lv cl : Int) : List Bool := (List.range (prodI S).toNat).map (putF S N wh fi fk lv cl)
def BoolsPost (w : World) (L : List Bool) (e : Ending) (w' : World) : Prop :=
  ∃ v, e = .returned v ∧ Row w' 4 1 v L.length (L.map Value.bool) ∧ (∀ k, v.ownBlock = some k → w.heap.size ≤ k) ∧ Below w.heap.size w w'
theorem putL_get {S : List Int} {N : List Nd} {wh fi fk lv cl : Int} {n : Nat} (h : n < (putL S N wh fi fk lv cl).length) : (putL S N wh fi fk lv cl)[n]'h = putF S N wh fi fk lv cl n := by simp [putL]
/-- a list that grows -/
structure PR (w wr : World) (bo : Nat) (cs : List Value) (L : List Bool) (n : Nat) (A : Option Addr) (c : Nat) : Prop where
  row : Row wr 4 1 (.slice A n c) n ((L.take n).map Value.bool)
  own : ∀ q, (Value.slice A n c).ownBlock = some q → w.heap.size ≤ q
  blk : Blk wr bo cs 37
  below : Below w.heap.size w wr
theorem PR.on {w wr w2 : World} {bo : Nat} {cs : List Value} {L : List Bool} {n : Nat} {A : Option Addr} {c : Nat} (h : PR w wr bo cs L n A c) (hb : Below wr.heap.size wr w2) : PR w w2 bo cs L n A c :=
  ⟨h.row.move fun k hk => hb.block k (h.row.lt k hk), h.own, h.blk.below hb h.blk.lt, h.below.trans (hb.mono h.below.size)⟩
theorem PR.step {w wr w3 : World} {bo : Nat} {cs : List Value} {L : List Bool} {n : Nat} {A : Option Addr} {c g cap : Nat} {o : Obj} {b : Bool} (h : PR w wr bo cs L n A c) (hrow : Row w3 4 1 (.slice (some ⟨g, 0, none⟩) (n + 1) cap) (n + 1) ((L.take n).map Value.bool ++ [.bool b]))
    (hg : (wr.alloc o).grownBy w3 (Value.slice A n c).ownBlock) (hl : (Value.slice A n c).ownBlock = some g ∨ g = wr.heap.size + 1) (hn : n < L.length) (hb : L[n]'hn = b) : PR w w3 bo cs L (n + 1) (some ⟨g, 0, none⟩) cap where
  row := by
    have e : (L.take (n + 1)).map Value.bool = (L.take n).map Value.bool ++ [.bool b] := by rw [List.take_succ_eq_append_getElem hn, List.map_append, hb]; rfl
    rw [e]; exact hrow
  own := fun q hq => by
    cases hq
    rcases hl with e | e
    · exact h.own g e
    · have := h.below.size; show w.heap.size ≤ g; omega
  blk := (h.blk.alloc o).grown hg (fun e => row_blk h.row h.blk (by decide) e.symm)
  below := Below.grown (h.below.alloc h.below.size _) hg (by simp; have := h.below.size; omega) (fun q e => h.own q e)
theorem Pt.drop {S p : List Int} (h : Pt S p) (j : Nat) : Pt (S.drop j) (p.drop j) where
  len := by rw [List.length_drop, List.length_drop, h.len]
  each := fun i hi => by
    rw [List.length_drop] at hi
    have := h.each (j + i) (by omega)
    simpa [List.getD] using this
theorem idx_small {S p : List Int} (hF : Few S) (hp : Pt S p) (j : Nat) : 0 ≤ idx (S.drop j) (p.drop j) ∧ idx (S.drop j) (p.drop j) ≤ 81 := by
  have hs : ∀ s ∈ S.drop j, 1 ≤ s ∧ s ≤ 3 := fun s h => hF.sz s (List.mem_of_mem_drop h)
  have h1 := idx_range (S.drop j) (p.drop j) (fun s h => (hs s h).1) (hp.drop j)
  have h2 := Few.prod (S.drop j) hs
  have h3 : (3 : Int) ^ (S.drop j).length ≤ 81 := by
    have := hF.len
    have hl : (S.drop j).length ≤ 4 := by rw [List.length_drop]; omega
    rcases (by omega : (S.drop j).length = 0 ∨ (S.drop j).length = 1 ∨ (S.drop j).length = 2 ∨ (S.drop j).length = 3 ∨ (S.drop j).length = 4) with e | e | e | e | e <;> rw [e] <;> decide
  omega
section
variable {w w' w0 : World} {tb ab : Nat} {S F : List Int} {V : List Value} {sv fv yv : Value} {N : List Nd} {z : List Nat}
/-- a cell of what a diagram says -/
theorem TS.say (h : TS w0 w ab tb S N z F V sv fv yv) {i n : Nat} (hi : i < F.length) (hn : n < (prodI S).toNat) : ∃ gy cy gv cv, yv = .slice (some ⟨gy, 0, none⟩) V.length cy ∧ i < V.length ∧ gy < w.heap.size ∧ gv < w.heap.size ∧
    w.cell? ⟨gy, i, none⟩ = some (.slice (some ⟨gv, 0, none⟩) (prodI S).toNat cv) ∧ w.cell? ⟨gv, n, none⟩ = some (.bool (den N (pt S (n : Int)) (F[i]'hi))) := by
  have hvl : V.length = F.length := by rw [h.tbl.vl, List.length_map]
  have hiV : i < V.length := by omega
  obtain ⟨gy, cy, e, hgy, _⟩ := h.tbl.yrow.some_ (by omega)
  have hrow := h.tbl.rows i hiV (by rw [List.length_map]; exact hi)
  rw [show (F.map (tab S N))[i]'(by rw [List.length_map]; exact hi) = tab S N (F[i]'hi) by rw [List.getElem_map], tab_length] at hrow
  obtain ⟨gv, cv, e2, hgv, _⟩ := hrow.some_ (by omega)
  have hy := h.tbl.yrow
  rw [e] at hy
  have c0 := hy.cell i (by omega)
  rw [List.getElem?_eq_getElem hiV, e2] at c0
  rw [e2] at hrow
  have c1 := bools4 hrow tab_length.symm n (by rw [tab_length]; exact hn)
  rw [tab_get hn] at c1
  exact ⟨gy, cy, gv, cv, e, hiV, hgy, hgv, c0, c1⟩
set_option maxRecDepth 100000 in
set_option maxHeartbeats 8000000 in
theorem put_tab {o : OpD} {i k : Nat} (h : TS w0 w ab tb S N z F V sv fv yv) (hFew : Few S) (hol : i64 o.l) (hoc : i64 o.c) (hi : i < F.length) (hk : k < F.length) (hwh : 2 ≤ o.wh ∧ o.wh ≤ 6) :
    Calls Try.prog 34 #[.pointer (some ⟨tb, 0, none⟩), o.agg, .int .i64 (i : Int), .int .i64 (k : Int)] w
      (BoolsPost w (putL S N o.wh (F[i]'hi) (F[k]'hk) (pickI o.l S.length) (pickI o.c (S.getD (pickI o.l S.length).toNat 0)))) := by
  obtain ⟨w1, hw1⟩ : ∃ w1, w1 = w.alloc (.cells o.cells.toArray 37) := ⟨_, rfl⟩
  have hb1 : Below w.heap.size w w1 := by rw [hw1]; exact (Below.refl _ _).alloc (Nat.le_refl _) _
  have hkb := Blk.new w o.cells 37
  rw [← hw1] at hkb
  obtain ⟨bo, hbo⟩ : ∃ b, b = w.heap.size := ⟨_, rfl⟩
  rw [← hbo] at hkb
  have HBO := Hid.mk_ hbo
  have HB1 := Hid.mk_ hb1
  have HKB := Hid.mk_ hkb
  have HH := Hid.mk_ h
  have HFW := Hid.mk_ hFew
  obtain ⟨pn, hpn⟩ : ∃ pn : Nat, prodI S = (pn : Int) := ⟨(prodI S).toNat, by have := hFew.pts; omega⟩
  have hpts := hFew.pts
  rw [hpn] at hpts
  have HPN := Hid.mk_ hpn
  have HOL := Hid.mk_ hol
  have HOC := Hid.mk_ hoc
  obtain ⟨L, hL⟩ : ∃ L, L = putL S N o.wh (F[i]'hi) (F[k]'hk) (pickI o.l S.length) (pickI o.c (S.getD (pickI o.l S.length).toNat 0)) := ⟨_, rfl⟩
  rw [← hL]
  have hLl : L.length = pn := by rw [hL]; unfold putL; rw [List.length_map, List.length_range, hpn]; simp
  have HL := Hid.mk_ hL
  have HLL := Hid.mk_ hLl
  have HLG : Hid (∀ n (hn : n < L.length), L[n]'hn = putF S N o.wh (F[i]'hi) (F[k]'hk) (pickI o.l S.length) (pickI o.c (S.getD (pickI o.l S.length).toNat 0)) n) := fun n hn => by
    have := hL
    subst this
    exact putL_get hn
  obtain ⟨As, cs, rfl⟩ := h.tbl.srow.shape
  have hvl : V.length = F.length := by rw [h.tbl.vl, List.length_map]
  have HVL := Hid.mk_ hvl
  obtain ⟨i4, hi4, hb0, hb1', hb2⟩ := info_parts Try.info4
  obtain ⟨near, wh, f, g, hh, l, c, A, cA, ins, B, cB, cls⟩ := o
  simp only [OpD.cells] at hw1 HKB
  simp only at hwh HOL HOC HLG
  have HW1 := Hid.mk_ hw1
  unfold OpD.agg
  simp only
  clear h hFew hol hoc hpn hL hLl hvl hw1 hb1 hkb hbo
  rcases (by omega : wh = 6 ∨ (wh = 2 ∨ wh = 3 ∨ wh = 4 ∨ wh = 5)) with rfl | hwh'
  · have hS1 := HFW.out.len
    have hlp := pickI_range l (S.length : Int) (by omega)
    have HPL := Hid.mk_ (pick_any l (S.length : Int) (by omega) HOL.out.1 HOL.out.2)
    obtain ⟨lv, hlv⟩ : ∃ lv : Nat, pickI l S.length = (lv : Int) := ⟨(pickI l S.length).toNat, by omega⟩
    rw [hlv] at hlp HPL HLG
    rw [Int.toNat_natCast] at HLG
    have hlvS : lv < S.length := by omega
    have hlvS1 : (lv : Int) < S.length := by omega
    have hsz := HFW.out.sz _ (List.getElem_mem hlvS)
    rw [getD_mem hlvS] at HLG
    obtain ⟨s, hs⟩ : ∃ s, s = S[lv]'hlvS := ⟨_, rfl⟩
    rw [← hs] at hsz HLG
    have hcp := pickI_range c s (by omega)
    have HPC := Hid.mk_ (pick_any c s (by omega) HOC.out.1 HOC.out.2)
    obtain ⟨cl, hcl⟩ : ∃ cl, cl = pickI c s := ⟨_, rfl⟩
    rw [← hcl] at hcp HPC HLG
    have HS := Hid.mk_ hs
    have HSZ := Hid.mk_ hsz
    have HCP := Hid.mk_ hcp
    clear hs hlv hcl hlp hcp hsz
    go_enter Try.func34, Try.ntmps34
    go_upto_region 1 with fail
    rw [← HW1.out, ← HBO.out]
    go_wp2_with fail
    go_loopw [9, 10] (fun x9 x10 wr => ∃ (n : Nat) (A1 : Option Addr) (c1 : Nat), n ≤ pn ∧ x10 = .int .i64 (n : Int) ∧ x9 = .slice A1 n c1 ∧ Hid (PR w wr bo _ L n A1 c1)) (fun _ x10 _ => pn - (intOf x10).toNat)
    case atStart => exact ⟨0, none, 0, Nat.zero_le _, rfl, rfl, ⟨Row.nil _ _ _, fun q hq => by simp [Value.ownBlock] at hq, HKB.out, HB1.out⟩⟩
    case round =>
      obtain ⟨n, A1, c1, hn, rfl, rfl, HP⟩ := hrel
      have hT := HH.out.new HP.out.below
      have HT := Hid.mk_ hT
      have x1 : wr.cell? ⟨tb, 1, none⟩ = some (.int .i64 (pn : Int)) := by rw [← HPN.out]; exact hT.tbl.blk.cell 1
      have hbl := hT.tbl.blk.lt
      have o1 := HP.out.blk.cell 1
      have obl := HP.out.blk.lt
      by_cases hlt : n < pn
      · have hlt1 : (n : Int) < pn := by omega
        have hpnn : (prodI S).toNat = pn := by rw [HPN.out]; simp
        have hnp : n < (prodI S).toNat := by omega
        obtain ⟨gy, cy, gv, cv, rfl, hiV, hgy, hgv, y0, v0⟩ := hT.say hi hnp
        obtain ⟨gy', cy', gv', cv', e, hkV, _, hgv', y1, v1⟩ := hT.say hk hnp
        cases e
        have x3 : wr.cell? ⟨tb, 3, none⟩ = some (.slice (some ⟨gy, 0, none⟩) V.length cy) := hT.tbl.blk.cell 3
        have hiV1 : (i : Int) < V.length := by omega
        have hkV1 : (k : Int) < V.length := by omega
        have hnL : n < L.length := by rw [HLL.out]; exact hlt
        have hval : L[n]'hnL = den N ((pt S (n : Int)).set lv cl) (F[i]'hi) := by
          have := HLG.out n hnL
          unfold putF at this
          rw [this, if_neg (by decide), if_neg (by decide), if_neg (by decide), if_neg (by decide)]
          rfl
        rw [hpnn] at y0 y1
        have HVAL := Hid.mk_ hval
        have hpoint := point_any (n := (n : Int)) hT.tbl.blk hT.tbl.srow (fun s hs => by have := HFW.out.sz s hs; omega) (by omega) (by omega)
        have HPT := Hid.mk_ hpoint
        obtain ⟨b1x, hb1x⟩ : ∃ bx, bx = den N (pt S (n : Int)) (F[i]'hi) := ⟨_, rfl⟩
        obtain ⟨b2x, hb2x⟩ : ∃ bx, bx = den N (pt S (n : Int)) (F[k]'hk) := ⟨_, rfl⟩
        rw [← hb1x] at v0
        rw [← hb2x] at v1
        have HPNN := Hid.mk_ hpnn
        clear hT hval hpoint hb1x hb2x hpnn hnp
        go_upto_region 18 with (go_at_call 33; (with_reducible refine HPT.out.mono ?_); rintro e w2 ⟨v2, rfl, hrow2, hv2, hbel2⟩; have HR2 := Hid.mk_ hrow2; have HV2 := Hid.mk_ hv2; have HB2 := Hid.mk_ hbel2; clear hrow2 hv2 hbel2)
        have hr2 := HR2.out
        rw [pt_length] at hr2
        obtain ⟨gp, cp, rfl, hgp, _⟩ := hr2.some_ (by omega)
        have hgpB : wr.heap.size ≤ gp := HV2.out gp rfl
        have HGP := Hid.mk_ hgpB
        have HRP := Hid.mk_ hr2
        have HP2 := Hid.mk_ (HP.out.on HB2.out)
        have HT2 := Hid.mk_ (HT.out.new HB2.out)
        have o5 := HP2.out.blk.cell 5
        have obl2 := HP2.out.blk.lt
        have t0 := HT2.out.tbl.blk.cell 0
        have tbl2 := HT2.out.tbl.blk.lt
        have HPLQ := Hid.mk_ (fun q => quietly (w := w2) q (HPL.out _))
        clear hr2 x1 hbl o1 obl y0 v0 y1 v1 x3 hgpB
        go_big_quiet ((go_at_call 7; with_reducible exact HPLQ.out _))
        go_upto_region 19 with fail
        obtain ⟨w3, hw3⟩ : ∃ w3, w3 = w2.drewN nq := ⟨_, rfl⟩
        rw [← hw3]
        have hb3 : Below w2.heap.size w2 w3 := by rw [hw3]; exact Drawn_below _ _
        have HP3 := Hid.mk_ (HP2.out.on hb3)
        have HT3 := Hid.mk_ (HT2.out.new hb3)
        have HR3 : Hid (Row w3 3 1 (.slice (some ⟨gp, 0, none⟩) S.length cp) S.length ((pt S (n : Int)).map (Value.int .i64))) := by rw [hw3]; exact HRP.out
        have HW3 := Hid.mk_ hw3
        clear o5 obl2 t0 tbl2 hw3 hb3 HPLQ
        obtain ⟨gs, cs', e, hgs, _⟩ := HT3.out.tbl.srow.some_ (by omega)
        cases e
        have o6 := HP3.out.blk.cell 6
        have obl3 := HP3.out.blk.lt
        have t0 := HT3.out.tbl.blk.cell 0
        have tbl3 := HT3.out.tbl.blk.lt
        have s0 := row3 HT3.out.tbl.srow lv hlvS
        rw [← HS.out] at s0
        have o6d : w3.drew.cell? ⟨bo, 6, none⟩ = some (.int .i64 c) := o6
        have t0d : w3.drew.cell? ⟨tb, 0, none⟩ = some (.slice (some ⟨gs, 0, none⟩) S.length cs) := t0
        have s0d : w3.drew.cell? ⟨gs, lv, none⟩ = some (.int .i64 s) := s0
        have hgp3 := HR3.out.lt gp rfl
        have hptl : lv < (pt S (n : Int)).length := by rw [pt_length]; exact hlvS
        have p0 : w3.cell? ⟨gp, lv, none⟩ = some (.int .i64 ((pt S (n : Int))[lv]'hptl)) := by
          have := HR3.out.cell lv (by omega)
          rw [List.getElem?_map, List.getElem?_eq_getElem hptl] at this
          exact this
        have p1 := HR3.out.free lv
        obtain ⟨pv, hpv⟩ : ∃ pv, pv = (pt S (n : Int))[lv]'hptl := ⟨_, rfl⟩
        rw [← hpv] at p0
        have nsp : ¬ gs = gp := by have := HT.out.tbl.srow.lt gs rfl; have := HGP.out; omega
        have ntp : ¬ tb = gp := fun e => HR3.out.notBlk HT3.out.tbl.blk (by decide) gp rfl e.symm
        have nop : ¬ bo = gp := fun e => HR3.out.notBlk HP3.out.blk (by decide) gp rfl e.symm
        clear hpv
        go_region_held3 (fun w' => w'.cell? ⟨bo, 6, none⟩ = some (.int .i64 c) ∧ w'.cell? ⟨tb, 0, none⟩ = some (.slice (some ⟨gs, 0, none⟩) S.length cs) ∧ w'.cell? ⟨gs, lv, none⟩ = some (.int .i64 s)) (first | exact ⟨o6d, t0d, s0d⟩ | exact ⟨cell_far nop o6d, cell_far ntp t0d, cell_far nsp s0d⟩ | assumption)
          (first
            | (go_at_call 7; (with_reducible refine (HPC.out _).mono ?_); rintro e w' ⟨rfl, rfl⟩))
        go_upto_region 20 with fail
        obtain ⟨w5, hw5⟩ : ∃ w5, w5 = (w3.setCell ⟨gp, lv, none⟩ (.int .i64 cl)).drew := ⟨_, rfl⟩
        rw [← hw5]
        have hb23 : Below wr.heap.size wr w3 := by rw [HW3.out]; exact HB2.out.trans (Drawn_below _ _)
        have hb5 : Below wr.heap.size wr w5 := by rw [hw5]; exact Below.drew (hb23.setCell HGP.out _)
        obtain ⟨p', hp'⟩ : ∃ p', p' = (pt S (n : Int)).set lv cl := ⟨_, rfl⟩
        have hr5 : Row w5 3 1 (.slice (some ⟨gp, 0, none⟩) S.length cp) S.length (p'.map (Value.int .i64)) := by
          rw [hw5, hp', List.map_set]
          exact (HR3.out.set lv (.int .i64 cl)).drew
        rw [← hp'] at HVAL
        have hptp : Pt S p' := by
          rw [hp']
          exact (pt_Pt S (n : Int) (fun s hs => (HFW.out.sz s hs).1)).set (by rw [getD_mem hlvS, ← HS.out]; exact HCP.out)
        have HPTP := Hid.mk_ hptp
        have HR5 := Hid.mk_ hr5
        have HP5 := Hid.mk_ (HP.out.on hb5)
        have HT5 := Hid.mk_ (HT.out.new hb5)
        have u0 := HT5.out.tbl.blk.cell 0
        have ubl := HT5.out.tbl.blk.lt
        have hgs5 := HT5.out.tbl.srow.lt gs rfl
        have hgp5 := hr5.lt gp rfl
        have hpl : p'.length = S.length := hptp.len
        have HPLN := Hid.mk_ hpl
        have hS12 : S.length ≤ 4 := hS1.2
        clear hw5 hb23 hb5 hp' hr5 hptp o6 obl3 t0 tbl3 s0 o6d t0d s0d hgp3 p0 p1 nsp ntp nop hpl
        go_wp2_with fail
        go_loopw [15, 16] (fun x15 x16 wz => ∃ (j q : Nat) (mi : Int), j ≤ S.length ∧ x16 = .int .i64 mi ∧ x15 = .int .i64 (idx (S.drop j) (p'.drop j)) ∧ wz = w5.drewN q ∧ Hid (mi = (j : Int) - 1)) (fun _ x16 _ => (intOf x16 + 1).toNat)
        case atStart => exact ⟨S.length, 0, _, Nat.le_refl _, rfl, by rw [List.drop_length]; rfl, rfl, Hid.mk_ rfl⟩
        case round =>
          obtain ⟨j, q, mi, hj, rfl, rfl, rfl, HMI⟩ := hrel
          cases j with
          | zero =>
            have e : mi = -1 := by have := HMI.out; omega
            subst e
            rw [List.drop_zero, List.drop_zero]
            have hsp : ∀ s ∈ S, 1 ≤ s := fun s hs => (HFW.out.sz s hs).1
            have hir := idx_range S p' hsp HPTP.out
            obtain ⟨an, han⟩ : ∃ an : Nat, idx S p' = (an : Int) := ⟨(idx S p').toNat, by omega⟩
            rw [han] at hir ⊢
            have hap : an < (prodI S).toNat := by omega
            have hanp : (an : Int) < pn := by have := HPN.out; omega
            obtain ⟨gy2, cy2, gv2, cv2, e, hiV2, hgy2, hgv2, y2, v2⟩ := HT5.out.say hi hap
            cases e
            rw [HPNN.out] at y2
            rw [← han, pt_idx S p' hsp HPTP.out] at v2
            obtain ⟨bf, hbf⟩ : ∃ bf, bf = den N p' (F[i]'hi) := ⟨_, rfl⟩
            rw [← hbf] at v2
            have HBF := Hid.mk_ (HVAL.out.trans hbf.symm)
            have x3 : w5.cell? ⟨tb, 3, none⟩ = some (.slice (some ⟨gy, 0, none⟩) V.length cy) := HT5.out.tbl.blk.cell 3
            have HPQ := Hid.mk_ (HP5.out.on (Drawn_below w5 q))
            clear hir hap han hbf hj
            go_wp2_with (at_builtin; refine wpList_append_row _ rfl _ _ 34 rfl 4 i4 (.bool false) 1 1 Try.underlying34 hi4 hb0 hb1' hb2 rfl (by decide) (.slice A1 n c1) n ((L.take n).map Value.bool) rfl (HPQ.out.row.alloc _) ⟨(w5.drewN q).heap.size, 0, none⟩ 1 1 [.bool bf] rfl rfl (one_cells_at (w5.drewN q) _ _ rfl) (by simp [Value.oneCell']) (by decide) (by unfold maxLen; omega) (by omega) ((w5.drewN q).heap.size + 1) (by simp) ?_; intro g' cap' w6 hrow hgrow hloc hlt'; have HSS := Hid.mk_ (HPQ.out.step hrow hgrow hloc hnL HBF.out); clear hrow hgrow hloc)
            exact ⟨⟨n + 1, _, _, by omega, by go_num, rfl, HSS⟩, by simp [intOf]; omega⟩
          | succ m =>
            have e : mi = (m : Int) := by have := HMI.out; omega
            subst e
            have hm : m < S.length := by omega
            have hm1 : (m : Int) < S.length := by omega
            have hmp : m < p'.length := by rw [HPLN.out]; exact hm
            have c0 := row3 HT5.out.tbl.srow m hm
            have c1' : w5.cell? ⟨gp, m, none⟩ = some (.int .i64 (p'[m]'hmp)) := by
              have := HR5.out.cell m (by omega)
              rw [List.getElem?_map, List.getElem?_eq_getElem hmp] at this
              exact this
            have hsm := HFW.out.sz _ (List.getElem_mem hm)
            have hpm := HPTP.out.each m hm
            rw [getD_mem hmp, getD_mem hm] at hpm
            have hid := idx_small HFW.out HPTP.out (m + 1)
            have hnx : idx (S.drop m) (p'.drop m) = idx (S.drop (m + 1)) (p'.drop (m + 1)) * (S[m]'hm) + p'[m]'hmp := by
              rw [List.drop_eq_getElem_cons hm, List.drop_eq_getElem_cons hmp]
              rfl
            obtain ⟨sm, hsme⟩ : ∃ x, x = S[m]'hm := ⟨_, rfl⟩
            obtain ⟨pm, hpme⟩ : ∃ x, x = p'[m]'hmp := ⟨_, rfl⟩
            obtain ⟨a0, ha0⟩ : ∃ x, x = idx (S.drop (m + 1)) (p'.drop (m + 1)) := ⟨_, rfl⟩
            rw [← hsme] at c0 hsm hpm hnx
            rw [← hpme] at c1' hpm hnx
            rw [← ha0] at hid hnx ⊢
            have HNX := Hid.mk_ hnx
            clear hnx hsme hpme ha0
            rcases (by omega : sm = 1 ∨ sm = 2 ∨ sm = 3) with rfl | rfl | rfl
            all_goals (
              go_wp2_with fail
              go_big_quiet (fail)
              go_wp2_with fail
              refine ⟨⟨m, _, (m : Int) - 1, by omega, ?_, ?_, rfl, Hid.mk_ rfl⟩, ?_⟩
              · first | rfl | (simp; done)
              · (try rw [HNX.out])
                all_goals (first | rfl | (simp; done))
              · simp [intOf]
                all_goals omega)
      · have hne : n = pn := by omega
        subst hne
        have hlt1 : ¬ ((n : Nat) : Int) < n := by omega
        clear hT
        go_wp2_with fail
        go_ret
        have hr := HP.out.row
        rw [List.take_of_length_le (by rw [HLL.out]; exact Nat.le_refl _)] at hr
        exact ⟨_, rfl, by rw [HLL.out]; exact hr, HP.out.own, HP.out.below⟩
  · rcases hwh' with rfl | rfl | rfl | rfl
    all_goals (
      go_enter Try.func34, Try.ntmps34
      go_upto_region 1 with fail
      rw [← HW1.out, ← HBO.out]
      go_wp2_with fail
      go_loopw [9, 10] (fun x9 x10 wr => ∃ (n : Nat) (A1 : Option Addr) (c1 : Nat), n ≤ pn ∧ x10 = .int .i64 (n : Int) ∧ x9 = .slice A1 n c1 ∧ Hid (PR w wr bo _ L n A1 c1)) (fun _ x10 _ => pn - (intOf x10).toNat)
      case atStart => exact ⟨0, none, 0, Nat.zero_le _, rfl, rfl, ⟨Row.nil _ _ _, fun q hq => by simp [Value.ownBlock] at hq, HKB.out, HB1.out⟩⟩
      case round =>
        obtain ⟨n, A1, c1, hn, rfl, rfl, HP⟩ := hrel
        have hT := HH.out.new HP.out.below
        have x1 : wr.cell? ⟨tb, 1, none⟩ = some (.int .i64 (pn : Int)) := by rw [← HPN.out]; exact hT.tbl.blk.cell 1
        have hbl := hT.tbl.blk.lt
        have o1 := HP.out.blk.cell 1
        have obl := HP.out.blk.lt
        by_cases hlt : n < pn
        · have hlt1 : (n : Int) < pn := by omega
          obtain ⟨gy, cy, gv, cv, rfl, hiV, hgy, hgv, y0, v0⟩ := hT.say hi (n := n) (by have := HPN.out; omega)
          obtain ⟨gy', cy', gv', cv', e, hkV, _, hgv', y1, v1⟩ := hT.say hk (n := n) (by have := HPN.out; omega)
          cases e
          have x3 := hT.tbl.blk.cell 3
          have x3 : wr.cell? ⟨tb, 3, none⟩ = some (.slice (some ⟨gy, 0, none⟩) V.length cy) := hT.tbl.blk.cell 3
          have hiV1 : (i : Int) < V.length := by omega
          have hkV1 : (k : Int) < V.length := by omega
          have hnL : n < L.length := by rw [HLL.out]; exact hlt
          have hval := HLG.out n hnL
          have hpnn : (prodI S).toNat = pn := by rw [HPN.out]; simp
          rw [hpnn] at y0 y1
          obtain ⟨bx, hbx⟩ : ∃ bx, bx = den N (pt S (n : Int)) (F[i]'hi) := ⟨_, rfl⟩
          obtain ⟨by', hby⟩ : ∃ bx, bx = den N (pt S (n : Int)) (F[k]'hk) := ⟨_, rfl⟩
          unfold putF at hval
          rw [← hbx, ← hby] at hval
          rw [← hbx] at v0
          rw [← hby] at v1
          have HVAL := Hid.mk_ hval
          have HNL := Hid.mk_ hnL
          clear hT hval hbx hby hpnn
          cases bx <;> cases by'
          all_goals (
            go_wp2_with (at_builtin; refine wpList_append_row _ rfl _ _ 34 rfl 4 i4 (.bool false) 1 1 Try.underlying34 hi4 hb0 hb1' hb2 rfl (by decide) (.slice A1 n c1) n ((L.take n).map Value.bool) rfl (HP.out.row.alloc _) ⟨wr.heap.size, 0, none⟩ 1 1 [.bool _] rfl rfl (one_cells_at wr _ _ rfl) (by simp [Value.oneCell']) (by decide) (by unfold maxLen; omega) (by omega) (wr.heap.size + 1) (by simp) ?_; intro g' cap' w3 hrow hgrow hloc hlt'; have HS := Hid.mk_ (HP.out.step hrow hgrow hloc HNL.out HVAL.out); clear hrow hgrow hloc)
            exact ⟨⟨n + 1, _, _, by omega, by go_num, rfl, HS⟩, by simp [intOf]; omega⟩)
        · have hne : n = pn := by omega
          subst hne
          have hlt1 : ¬ ((n : Nat) : Int) < n := by omega
          clear hT
          go_wp2_with fail
          go_ret
          have hr := HP.out.row
          rw [List.take_of_length_le (by rw [HLL.out]; exact Nat.le_refl _)] at hr
          exact ⟨_, rfl, by rw [HLL.out]; exact hr, HP.out.own, HP.out.below⟩)
end
end Go.Proofs.Ytmfdcaalbpikpaa
