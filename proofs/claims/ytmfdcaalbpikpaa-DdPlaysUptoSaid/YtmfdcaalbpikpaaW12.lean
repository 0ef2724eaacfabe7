/- A table's add. -/
import Derived.Test.YtmfdcaalbpikpaaW11
namespace Go.Proofs.Ytmfdcaalbpikpaa
open Go.RowKit Go.Maps
set_option linter.unusedVariables false
set_option linter.unusedSimpArgs false
theorem take_eq_succ {α : Type} [DecidableEq α] {a b : List α} {m : Nat} (ha : m < a.length) (hb : m < b.length) : decide (a.take (m + 1) = b.take (m + 1)) = (decide (a.take m = b.take m) && decide (a[m]'ha = b[m]'hb)) := by
  rw [List.take_succ_eq_append_getElem ha, List.take_succ_eq_append_getElem hb]
  have h1 : (a.take m).length = (b.take m).length := by rw [List.length_take, List.length_take]; omega
  by_cases e : a.take m = b.take m
  · rw [decide_eq_true e, Bool.true_and, e]
    exact decide_eq_decide.2 ⟨fun h => by have := List.append_cancel_left h; injection this, fun h => by rw [h]⟩
  · have : ¬ (a.take m ++ [a[m]'ha] = b.take m ++ [b[m]'hb]) := fun h => e (List.append_inj h h1).1
    rw [decide_eq_false e, decide_eq_false this, Bool.false_and]
section
variable {w w' w0 : World} {tb ab : Nat} {S F : List Int} {V : List Value} {sv fv yv : Value} {N : List Nd} {z : List Nat}
theorem bools4 {w : World} {g c n : Nat} {bs : List Bool} (h : Row w 4 1 (.slice (some ⟨g, 0, none⟩) n c) n (bs.map Value.bool)) (hn : n = bs.length) : ∀ j (hj : j < bs.length), w.cell? ⟨g, j, none⟩ = some (.bool (bs[j]'hj)) := fun j hj => by
  rw [h.cell j (by omega)]
  simp [hj]
theorem Row.other {e : TypeId} {size n : Nat} {v : Value} {xs : List Value} {row : Option Nat} (h : Row w e size v n xs) (hg : w.grownBy w' row) (hne : ∀ k, v.ownBlock = some k → some k ≠ row) : Row w' e size v n xs := h.move fun k hk => hg.block k (h.lt k hk) (hne k hk)
theorem Row.far {e : TypeId} {size n : Nat} {v : Value} {xs : List Value} (h : Row w e size v n xs) {p : Addr} (hne : ∀ k, v.ownBlock = some k → k ≠ p.block) (u : Value) : Row (w.setCell p u) e size v n xs := h.move fun k hk => Below.heap_setCell _ _ _ _ (hne k hk)
theorem Row.notBlk {e e' : TypeId} {size n b : Nat} {v : Value} {xs cs : List Value} (h : Row w e size v n xs) (hb : Blk w b cs e') (hne : e ≠ e') : ∀ k, v.ownBlock = some k → k ≠ b := fun k hk e2 => row_blk h hb hne (by rw [← e2]; exact hk)
theorem Row.notRow {e e' : TypeId} {size n size' n' : Nat} {v v' : Value} {xs xs' : List Value} (h : Row w e size v n xs) (h' : Row w e' size' v' n' xs') (hne : e ≠ e') : ∀ k, v.ownBlock = some k → some k ≠ v'.ownBlock := fun k hk e2 => row_type h h' hne hk e2.symm
/-- the first append of add -/
structure Add1 (w w1 : World) (tb : Nat) (S F : List Int) (V : List Value) (sv fv yv : Value) (f : Int) (g c : Nat) : Prop where
  row : Row w1 3 1 (.slice (some ⟨g, 0, none⟩) (F.length + 1) c) (F.length + 1) (F.map (Value.int .i64) ++ [.int .i64 f])
  blk : Blk w1 tb [sv, .int .i64 (prodI S), fv, yv] 28
  srow : Row w1 3 1 sv S.length (S.map (Value.int .i64))
  yrow : Row w1 34 1 yv V.length V
  keep : ∀ k, k < w.heap.size → fv.ownBlock ≠ some k → w1.heap[k]? = w.heap[k]?
  loc : fv.ownBlock = some g ∨ w.heap.size ≤ g
  size : w.heap.size ≤ w1.heap.size
  glt : g < w1.heap.size
  os : w1.os = w.os
  tape : w1.tape = w.tape
  output : w1.output = w.output
theorem TS.add1 {w1 : World} {f : Int} {g c : Nat} {o : Obj} (h : TS w0 w ab tb S N z F V sv fv yv) (hr : Row w1 3 1 (.slice (some ⟨g, 0, none⟩) (F.length + 1) c) (F.length + 1) (F.map (Value.int .i64) ++ [.int .i64 f]))
    (hg : (w.alloc o).grownBy w1 fv.ownBlock) (hl : fv.ownBlock = some g ∨ g = w.heap.size + 1) (hlt : g < w1.heap.size) : Add1 w w1 tb S F V sv fv yv f g c where
  row := hr
  blk := (h.tbl.blk.alloc o).grown hg (fun e => row_blk h.tbl.frow h.tbl.blk (by decide) e.symm)
  srow := (h.tbl.srow.alloc o).other hg (fun k hk e => h.tbl.sf k hk e.symm)
  yrow := (h.tbl.yrow.alloc o).other hg (h.tbl.yrow.notRow h.tbl.frow (by decide))
  keep := fun k hk hne => (hg.block k (by simp; omega) (fun e => hne e.symm)).trans (Below.heap_alloc w o k hk)
  loc := by rcases hl with e | e; exact .inl e; exact .inr (by omega)
  size := by have := hg.size; simp at this; omega
  glt := hlt
  os := hg.os
  tape := hg.tape
  output := hg.output
theorem TS.add2 {w1 w3 : World} {f : Int} {v : Value} {L : List Bool} {g c g2 c2 : Nat} {o : Obj} (h : TS w0 w ab tb S N z F V sv fv yv) (hf : hasA N f = true) (hL : L = tab S N f) (hv : Row w 4 1 v L.length (L.map Value.bool)) (hvB : ∀ k, v.ownBlock = some k → w0.heap.size ≤ k ∧ k ∉ z)
    (h1 : Add1 w w1 tb S F V sv fv yv f g c) (hr : Row w3 34 1 (.slice (some ⟨g2, 0, none⟩) (V.length + 1) c2) (V.length + 1) (V ++ [v]))
    (hg : ((w1.setCell ⟨tb, 2, none⟩ (.slice (some ⟨g, 0, none⟩) (F.length + 1) c)).alloc o).grownBy w3 yv.ownBlock) (hl : yv.ownBlock = some g2 ∨ g2 = w1.heap.size + 1) (hlt : g2 < w3.heap.size) :
    Blk w3 tb [sv, .int .i64 (prodI S), .slice (some ⟨g, 0, none⟩) (F.length + 1) c, yv] 28 ∧
    TS w0 (w3.setCell ⟨tb, 3, none⟩ (.slice (some ⟨g2, 0, none⟩) (V.length + 1) c2)) ab tb S N z (F ++ [f]) (V ++ [v]) sv (.slice (some ⟨g, 0, none⟩) (F.length + 1) c) (.slice (some ⟨g2, 0, none⟩) (V.length + 1) c2) ∧
    ∀ k, k < w.heap.size → k ≠ tb → fv.ownBlock ≠ some k → yv.ownBlock ≠ some k → (w3.setCell ⟨tb, 3, none⟩ (.slice (some ⟨g2, 0, none⟩) (V.length + 1) c2)).heap[k]? = w.heap[k]? := by
  have htb : ∀ k, tblk tb sv fv yv V k → w0.heap.size ≤ k ∧ k ∉ z := h.tB
  have htl := fun k (hk : tblk tb sv fv yv V k) => h.tbl.lt hk
  have hs0 := h.below.size
  obtain ⟨w2, hw2⟩ : ∃ w2, w2 = w1.setCell ⟨tb, 2, none⟩ (.slice (some ⟨g, 0, none⟩) (F.length + 1) c) := ⟨_, rfl⟩
  rw [← hw2] at hg
  have hw2s : w2.heap.size = w1.heap.size := by rw [hw2]; simp [World.setCell]
  have b2 : Blk w2 tb [sv, .int .i64 (prodI S), .slice (some ⟨g, 0, none⟩) (F.length + 1) c, yv] 28 := by rw [hw2]; exact h1.blk.set 2 _
  have s2 : Row w2 3 1 sv S.length (S.map (Value.int .i64)) := by rw [hw2]; exact h1.srow.far (h1.srow.notBlk h1.blk (by decide)) _
  have f2 : Row w2 3 1 (.slice (some ⟨g, 0, none⟩) (F.length + 1) c) (F.length + 1) (F.map (Value.int .i64) ++ [.int .i64 f]) := by rw [hw2]; exact h1.row.far (h1.row.notBlk h1.blk (by decide)) _
  have y2 : Row w2 34 1 yv V.length V := by rw [hw2]; exact h1.yrow.far (h1.yrow.notBlk h1.blk (by decide)) _
  have b3 : Blk w3 tb [sv, .int .i64 (prodI S), .slice (some ⟨g, 0, none⟩) (F.length + 1) c, yv] 28 := (b2.alloc o).grown hg (fun e => row_blk y2 b2 (by decide) e.symm)
  have s3 := (s2.alloc o).other hg (s2.notRow y2 (by decide))
  have f3 := (f2.alloc o).other hg (f2.notRow y2 (by decide))
  -- other blocks
  have kp : ∀ k, k < w.heap.size → fv.ownBlock ≠ some k → yv.ownBlock ≠ some k → k ≠ tb → w3.heap[k]? = w.heap[k]? := fun k hk h1' h2' h3' => by
    have e1 := hg.block k (by simp; have := h1.size; omega) (fun e => h2' e.symm)
    have e2 := Below.heap_alloc w2 o k (by have := h1.size; omega)
    have e3 : w2.heap[k]? = w1.heap[k]? := by rw [hw2]; exact Below.heap_setCell _ _ _ _ h3'
    exact e1.trans (e2.trans (e3.trans (h1.keep k hk h1')))
  have hgs : w2.heap.size + 1 ≤ w3.heap.size := by have := hg.size; simpa using this
  refine ⟨b3, ?_⟩
  obtain ⟨w4, hw4⟩ : ∃ w4, w4 = w3.setCell ⟨tb, 3, none⟩ (.slice (some ⟨g2, 0, none⟩) (V.length + 1) c2) := ⟨_, rfl⟩
  rw [← hw4]
  have hw4s : w4.heap.size = w3.heap.size := by rw [hw4]; simp [World.setCell]
  have kp4 : ∀ k, k < w.heap.size → fv.ownBlock ≠ some k → yv.ownBlock ≠ some k → k ≠ tb → w4.heap[k]? = w.heap[k]? := fun k hk h1' h2' h3' => by
    rw [← kp k hk h1' h2' h3', hw4]; exact Below.heap_setCell _ _ _ _ h3'
  have gB : w0.heap.size ≤ g ∧ g ∉ z := by
    rcases h1.loc with e | e
    · exact htb g (.inr (.inr (.inl e)))
    · exact ⟨by omega, fun hz => by have := h.pa.zlt hz; omega⟩
  have g2B : w0.heap.size ≤ g2 ∧ g2 ∉ z := by
    rcases hl with e | e
    · exact htb g2 (.inr (.inr (.inr (.inl e))))
    · exact ⟨by have := h1.size; omega, fun hz => by have := h.pa.zlt hz; have := h1.size; omega⟩
  have vrow : ∀ (u : Value) (n : Nat) (xs : List Value), Row w 4 1 u n xs → Row w4 4 1 u n xs := fun u n xs hu => hu.move fun k hk =>
    kp4 k (hu.lt k hk) (fun e => row_type hu h.tbl.frow (by decide) hk e) (fun e => row_type hu h.tbl.yrow (by decide) hk e) (hu.notBlk h.tbl.blk (by decide) k hk)
  have hzk : ∀ k ∈ z, w4.heap[k]? = w.heap[k]? := fun k hk => kp4 k (h.pa.zlt hk) (fun e => (htb k (.inr (.inr (.inl e)))).2 hk) (fun e => (htb k (.inr (.inr (.inr (.inl e))))).2 hk) (fun e => (htb tb (.inl rfl)).2 (e ▸ hk))
  refine ⟨⟨h.pa.move (by have := h1.size; omega) hzk, ?_, h.zB, fun k hk => ?_, ?_, fun f' hf' => ?_⟩, fun k h1' h2' h3' h4' => kp4 k h1' h3' h4' h2'⟩
  · refine ⟨by rw [hw4]; exact b3.set 3 _, by rw [hw4]; exact s3.far (s3.notBlk b3 (by decide)) _, ?_, ?_, ?_, ?_, ?_, ?_⟩
    · rw [List.length_append, List.length_singleton, List.map_append]
      rw [hw4]; exact f3.far (f3.notBlk b3 (by decide)) _
    · rw [List.length_append, List.length_singleton]
      rw [hw4]; exact hr.far (hr.notBlk b3 (by decide)) _
    · have := h.tbl.vl; simp only [List.length_append, List.length_map, List.length_singleton] at this ⊢; omega
    · simp
    · intro i hi hi2
      by_cases hlt : i < V.length
      · have h2 : i < (F.map (tab S N)).length := by rw [← h.tbl.vl]; exact hlt
        have := vrow _ _ _ (h.tbl.rows i hlt h2)
        simp only [List.map_append]
        rw [List.getElem_append_left hlt, List.getElem_append_left h2]
        exact this
      · have e : i = V.length := by simp at hi; omega
        subst e
        have := vrow _ _ _ hv
        have hvl := h.tbl.vl
        have e1 : (V ++ [v])[V.length]'hi = v := by simp
        have e2 : ((F ++ [f]).map (tab S N))[V.length]'hi2 = L := by
          simp only [List.map_append, List.map_cons, List.map_nil]
          rw [List.getElem_append_right (by omega)]
          simp [hL]
        rw [e1, e2]
        exact this
    · intro k hk e
      have e : g = k := Option.some.inj e
      subst e
      rcases h1.loc with e2 | e2
      · exact h.tbl.sf _ hk e2
      · have := htl _ (.inr (.inl hk)); omega
  · rcases hk with rfl | e | e | e | ⟨u, hu, e⟩
    · exact htb _ (.inl rfl)
    · exact htb k (.inr (.inl e))
    · have e : g = k := Option.some.inj e
      subst e; exact gB
    · have e : g2 = k := Option.some.inj e
      subst e; exact g2B
    · rcases List.mem_append.1 hu with hu | hu
      · exact htb k (.inr (.inr (.inr (.inr ⟨u, hu, e⟩))))
      · simp at hu; subst hu; exact hvB k e
  · refine ⟨?_, ?_, ?_, by have := h1.size; omega, fun k hk => ?_⟩
    · rw [hw4]; show w3.os = _; rw [hg.os, hw2]; exact h1.os.trans h.below.os
    · rw [hw4]; show w3.tape = _; rw [hg.tape, hw2]; exact h1.tape.trans h.below.tape
    · rw [hw4]; show w3.output = _; rw [hg.output, hw2]; exact h1.output.trans h.below.output
    · rw [kp4 k (by omega) (fun e => by have := (htb k (.inr (.inr (.inl e)))).1; omega) (fun e => by have := (htb k (.inr (.inr (.inr (.inl e))))).1; omega) (fun e => by have := (htb tb (.inl rfl)).1; omega)]
      exact h.below.block k hk
  · rcases List.mem_append.1 hf' with e | e
    · exact h.hasF f' e
    · simp at e; subst e; exact hf
def AddPost (w0 w : World) (ab tb : Nat) (S : List Int) (N : List Nd) (z : List Nat) (F : List Int) (V : List Value) (sv fv yv v : Value) (f : Int) (e : Ending) (w' : World) : Prop :=
  e = .returned (.bool true) ∧ (∀ k, k < w.heap.size → k ≠ tb → fv.ownBlock ≠ some k → yv.ownBlock ≠ some k → w'.heap[k]? = w.heap[k]?) ∧ ∃ fv' yv', TS w0 w' ab tb S N z (F ++ [f]) (V ++ [v]) sv fv' yv'
set_option maxRecDepth 100000 in
set_option maxHeartbeats 8000000 in
theorem add_any {f : Int} {v : Value} (h : TS w0 w ab tb S N z F V sv fv yv) (hFew : Few S) (hf : hasA N f = true) (hv : Row w 4 1 v (tab S N f).length ((tab S N f).map Value.bool)) (hvB : ∀ k, v.ownBlock = some k → w0.heap.size ≤ k ∧ k ∉ z) (hsz : F.length ≤ 2000000000000) :
    Calls Try.prog 9 #[.pointer (some ⟨tb, 0, none⟩), .pointer (some ⟨ab, 0, none⟩), .int .i64 f, v] w (AddPost w0 w ab tb S N z F V sv fv yv v f) := by
  have HH := Hid.mk_ h
  have HFW := Hid.mk_ hFew
  have HA := Hid.mk_ hf
  have HV := Hid.mk_ hv
  have HVB := Hid.mk_ hvB
  obtain ⟨pn, hpn⟩ : ∃ pn : Nat, prodI S = (pn : Int) := ⟨(prodI S).toNat, by have := hFew.pts; omega⟩
  have hpts := hFew.pts
  rw [hpn] at hpts
  have hLl : (tab S N f).length = pn := by rw [tab_length, hpn]; simp
  obtain ⟨L, hL⟩ : ∃ L, L = tab S N f := ⟨_, rfl⟩
  rw [← hL] at hLl HV
  rw [hLl] at HV
  obtain ⟨Av, cv, rfl⟩ := HV.out.shape
  obtain ⟨gv, cv', e, hgv, _⟩ := HV.out.some_ (by omega)
  cases e
  have HPN := Hid.mk_ hpn
  have HL := Hid.mk_ hL
  have HLL := Hid.mk_ hLl
  obtain ⟨Af, cf, rfl⟩ := h.tbl.frow.shape
  obtain ⟨Ay, cy, rfl⟩ := h.tbl.yrow.shape
  have hVl : V.length = F.length := by rw [h.tbl.vl, List.length_map]
  have HVL := Hid.mk_ hVl
  obtain ⟨i3, hi3, ha0, ha1, ha2⟩ := info_parts Try.info3
  obtain ⟨i34, hi34, hb0, hb1, hb2⟩ := info_parts Try.info34
  clear h hFew hf hv hvB hpn hL hLl hVl
  go_enter Try.func9, Try.ntmps9
  go_wp2_with fail
  go_loopw [9] (fun x9 wr => ∃ (k : Nat), k ≤ pn ∧ x9 = .int .i64 (k : Int) ∧ Hid (Below w.heap.size w wr)) (fun x9 _ => pn - (intOf x9).toNat)
  case atStart => exact ⟨0, Nat.zero_le _, rfl, Below.refl _ _⟩
  case round =>
    obtain ⟨k, hk, rfl, HB⟩ := hrel
    have hT := HH.out.new HB.out
    have HT := Hid.mk_ hT
    have x1 : wr.cell? ⟨tb, 1, none⟩ = some (.int .i64 (pn : Int)) := by rw [← HPN.out]; exact hT.tbl.blk.cell 1
    have hbl := hT.tbl.blk.lt
    by_cases hlt : k < pn
    · have hlt1 : (k : Int) < pn := by omega
      have hpoint := point_any (n := (k : Int)) hT.tbl.blk hT.tbl.srow (fun s hs => by have := HFW.out.sz s hs; omega) (by have := HFW.out.len; omega) (by omega)
      have HPT := Hid.mk_ hpoint
      have HEV : Hid (∀ W A c, Below wr.heap.size wr W → IntsIn W A (pt S (k : Int)) → Calls Try.prog 32 #[.pointer (some ⟨ab, 0, none⟩), .int .i64 f, .slice A (pt S (k : Int)).length c] W (EvalPost W (den N (pt S (k : Int)) f, 0))) := fun W A c hW hi => by
        have := eval_any (c := c) (f := f) (HT.out.pa.new hW) hi
        have hp := pt_Pt S (k : Int) (fun s hs => (HFW.out.sz s hs).1)
        have e : evalR S N f (pt S (k : Int)) = (den N (pt S (k : Int)) f, 0) := by unfold evalR; rw [if_pos ⟨HA.out, hp.len, hp.each⟩]
        rw [e] at this
        exact this
      have hkL : k < L.length := by rw [HLL.out]; exact hlt
      have c0 := bools4 HV.out HLL.out.symm k hkL
      have hbv : L[k]'hkL = den N (pt S (k : Int)) f := by
        have := HL.out
        subst this
        exact tab_get (by have := HPN.out; omega)
      obtain ⟨bv, hbve⟩ : ∃ bv, bv = den N (pt S (k : Int)) f := ⟨_, rfl⟩
      rw [hbv, ← hbve] at c0
      rw [← hbve] at HEV
      have t1 : (bv != bv) = false := by simp
      clear hpoint hT hbv hbve
      go_upto_region 5 with (first
        | (go_at_call 33; (with_reducible refine HPT.out.mono ?_); rintro e w2 ⟨v2, rfl, hrow2, hv2, hb2'⟩; obtain ⟨A2, c2, rfl, hints2⟩ := ints_row hrow2)
        | (go_at_call 32; (with_reducible refine (HEV.out _ _ _ hb2' hints2).mono ?_); rintro e w3 ⟨rfl, hb3'⟩))
      have hbb : Below wr.heap.size wr w3 := hb2'.trans (hb3'.mono hb2'.size)
      have c0' : w3.cell? ⟨gv, k, none⟩ = some (.bool bv) := (hbb.cell (p := ⟨gv, k, none⟩) (Nat.lt_of_lt_of_le hgv HB.out.size)).trans ((HB.out.cell (p := ⟨gv, k, none⟩) hgv).trans c0)
      have hgv3 : gv < w3.heap.size := by have := HB.out.size; have := hbb.size; omega
      have HBB := Hid.mk_ hbb
      clear hb2' hb3' hbb hrow2 hv2 hints2 c0 x1
      go_wp2_with fail
      exact ⟨⟨k + 1, by omega, by go_num, HB.out.trans (HBB.out.mono HB.out.size)⟩, by simp [intOf]; omega⟩
    · have hlt1 : ¬ (k : Int) < pn := by omega
      have x2 : wr.cell? ⟨tb, 2, none⟩ = some (.slice Af F.length cf) := hT.tbl.blk.cell 2
      clear hT
      go_wp2_with fail
      go_loopw [12] (fun x12 wz => ∃ (i q : Nat), i ≤ F.length ∧ x12 = .int .i64 (i : Int) ∧ wz = wr.drewN q) (fun x12 _ => F.length - (intOf x12).toNat)
      case atStart => exact ⟨0, 0, Nat.zero_le _, rfl, rfl⟩
      case round =>
        obtain ⟨i, q, hi, rfl, rfl⟩ := hrel
        by_cases hif : i < F.length
        · have hif1 : (i : Int) < F.length := by omega
          obtain ⟨gf, cf', e, hgf, _⟩ := HT.out.tbl.frow.some_ (by omega)
          cases e
          have f0 : wr.cell? ⟨gf, i, none⟩ = some (.int .i64 (F[i]'hif)) := row3 HT.out.tbl.frow i hif
          have hiV : i < V.length := by rw [HVL.out]; exact hif
          have hiV1 : (i : Int) < V.length := by omega
          obtain ⟨gy, cy', e, hgy, _⟩ := HT.out.tbl.yrow.some_ (by omega)
          cases e
          have y0 : wr.cell? ⟨gy, i, none⟩ = some (V[i]'hiV) := by rw [HT.out.tbl.yrow.cell i (by omega)]; exact List.getElem?_eq_getElem hiV
          have x3 : wr.cell? ⟨tb, 3, none⟩ = some (.slice (some ⟨gy, 0, none⟩) V.length cy) := HT.out.tbl.blk.cell 3
          have hrow := HT.out.tbl.rows i hiV (by rw [List.length_map]; exact hif)
          obtain ⟨Ti, hTi⟩ : ∃ Ti, Ti = tab S N (F[i]'hif) := ⟨_, rfl⟩
          have hTl : Ti.length = pn := by rw [hTi, tab_length, HPN.out]; simp
          rw [show (F.map (tab S N))[i]'(by rw [List.length_map]; exact hif) = Ti by rw [hTi, List.getElem_map], hTl] at hrow
          obtain ⟨vi, hvi⟩ : ∃ vi, vi = V[i]'hiV := ⟨_, rfl⟩
          rw [← hvi] at y0 hrow
          obtain ⟨gvi, cvi, rfl, hgvi, _⟩ := hrow.some_ (by omega)
          have hcells := bools4 hrow hTl.symm
          have HCI := Hid.mk_ hcells
          have hone : decide (Ti = L) = decide (F[i]'hif = f) := by
            rw [hTi, HL.out]
            exact decide_eq_decide.2 (tab_one HH.out.pa.good (HH.out.hasF _ (List.getElem_mem hif)) HA.out)
          obtain ⟨fi, hfi⟩ : ∃ fi, fi = F[i]'hif := ⟨_, rfl⟩
          rw [← hfi] at f0 hone
          have HONE := Hid.mk_ hone
          have HTL := Hid.mk_ hTl
          clear hrow hTi hTl hvi hcells hone hfi
          go_wp2_with fail
          go_loopw [13, 14] (fun x13 x14 wz => ∃ (m q : Nat), m ≤ pn ∧ x14 = .int .i64 (m : Int) ∧ x13 = .bool (decide (Ti.take m = L.take m)) ∧ wz = wr.drewN q) (fun _ x14 _ => pn - (intOf x14).toNat)
          case atStart => exact ⟨0, q, Nat.zero_le _, rfl, by simp, rfl⟩
          case round =>
            obtain ⟨m, q, hm, rfl, rfl, rfl⟩ := hrel
            by_cases hmp : m < pn
            · have hmp1 : (m : Int) < pn := by omega
              have hmT : m < Ti.length := by rw [HTL.out]; exact hmp
              have hmL : m < L.length := by rw [HLL.out]; exact hmp
              have a0 := HCI.out m hmT
              have b0 : wr.cell? ⟨gv, m, none⟩ = some (.bool (L[m]'hmL)) := (HB.out.cell (p := ⟨gv, m, none⟩) hgv).trans (bools4 HV.out HLL.out.symm m hmL)
              have hgv3 : gv < wr.heap.size := Nat.lt_of_lt_of_le hgv HB.out.size
              have hnext := take_eq_succ hmT hmL
              obtain ⟨al, hal⟩ : ∃ al, al = decide (Ti.take m = L.take m) := ⟨_, rfl⟩
              obtain ⟨a, ha⟩ : ∃ a, a = Ti[m]'hmT := ⟨_, rfl⟩
              obtain ⟨b, hb⟩ : ∃ b, b = L[m]'hmL := ⟨_, rfl⟩
              rw [← ha] at a0
              rw [← hb] at b0
              rw [← hal, ← ha, ← hb] at hnext
              rw [← hal]
              have HNX := Hid.mk_ hnext
              clear hnext hal ha hb
              cases al with
              | false =>
                go_wp2_with fail
                go_big_quiet (fail)
                go_wp2_with fail
                exact ⟨⟨m + 1, _, by omega, by go_num, by rw [HNX.out]; rfl, rfl⟩, by simp [intOf]; omega⟩
              | true =>
                cases a <;> cases b
                all_goals (
                  go_wp2_with fail
                  go_big_quiet (fail)
                  go_wp2_with fail
                  exact ⟨⟨m + 1, _, by omega, by go_num, by rw [HNX.out]; rfl, rfl⟩, by simp [intOf]; omega⟩)
            · have hme : m = pn := by omega
              subst hme
              have hmp1 : ¬ ((m : Nat) : Int) < m := by omega
              rw [List.take_of_length_le (by rw [HTL.out]; exact Nat.le_refl _), List.take_of_length_le (by rw [HLL.out]; exact Nat.le_refl _), HONE.out]
              by_cases hff : fi = f
              · subst hff
                have t1 : (fi == fi) = true := by simp
                have t2 : decide (fi = fi) = true := by simp
                go_wp2_with fail
                exact ⟨⟨i + 1, _, by omega, by go_num, rfl⟩, by simp [intOf]; omega⟩
              · have t1 : (fi == f) = false := by simpa using hff
                have t2 : decide (fi = f) = false := by simpa using hff
                rw [t2]
                go_wp2_with fail
                exact ⟨⟨i + 1, _, by omega, by go_num, rfl⟩, by simp [intOf]; omega⟩
        · have hif1 : ¬ (i : Int) < F.length := by omega
          go_upto_region 17 with fail
          obtain ⟨wd, hwd⟩ : ∃ wd, wd = wr.drewN q := ⟨_, rfl⟩
          rw [← hwd]
          have hTD : TS w0 wd ab tb S N z F V sv (.slice Af F.length cf) (.slice Ay V.length cy) := by rw [hwd]; exact HT.out.new (Drawn_below wr q)
          have hvd : Row wd 4 1 (.slice (some ⟨gv, 0, none⟩) pn cv) pn (L.map Value.bool) := by
            rw [hwd]
            exact HV.out.move fun k hk => by cases hk; exact HB.out.block gv hgv
          have HTD := Hid.mk_ hTD
          have HVD := Hid.mk_ hvd
          have d2 := hTD.tbl.blk.cell 2
          have hdl := hTD.tbl.blk.lt
          have HWD := Hid.mk_ hwd
          clear hwd hTD hvd x1 x2 hbl
          go_upto_region 18 with (at_builtin; refine wpList_append_row _ rfl _ _ 22 rfl 3 i3 (.int .i64 0) 1 8 Try.underlying22 hi3 ha0 ha1 ha2 rfl (by decide) (.slice Af F.length cf) F.length (F.map (Value.int .i64)) rfl (HTD.out.tbl.frow.alloc _) ⟨wd.heap.size, 0, none⟩ 1 1 [.int .i64 f] rfl rfl (one_cells_at wd _ _ rfl) (by simp [Value.oneCell']) (by decide) (by unfold maxLen; omega) (by omega) (wd.heap.size + 1) (by simp) ?_; intro g1 cap1 w1 hrow1 hgrow1 hloc1 hlt1'; have H1 := Hid.mk_ (HTD.out.add1 hrow1 hgrow1 hloc1 hlt1'); have e2 := H1.out.blk.cell 2; have e2f := H1.out.blk.free 2; have e2l := H1.out.blk.lt; clear hrow1 hgrow1 hloc1)
          obtain ⟨w2, hw2⟩ : ∃ w2, w2 = w1.setCell ⟨tb, 2, none⟩ (.slice (some ⟨g1, 0, none⟩) (F.length + 1) cap1) := ⟨_, rfl⟩
          rw [← hw2]
          have hb2 : Blk w2 tb [sv, .int .i64 (prodI S), .slice (some ⟨g1, 0, none⟩) (F.length + 1) cap1, .slice Ay V.length cy] 28 := by rw [hw2]; exact H1.out.blk.set 2 _
          have hy2 : Row w2 34 1 (.slice Ay V.length cy) V.length V := by rw [hw2]; exact H1.out.yrow.far (H1.out.yrow.notBlk H1.out.blk (by decide)) _
          have k3 := hb2.cell 3
          have hkl := hb2.lt
          have hw2s : w2.heap.size = w1.heap.size := by rw [hw2]; simp [World.setCell]
          have HY2 := Hid.mk_ hy2
          have HW2 := Hid.mk_ hw2
          have HW2S := Hid.mk_ hw2s
          have hVb : V.length ≤ 2000000000000 := by have := HVL.out; omega
          clear hw2 hb2 hy2 e2 e2f e2l d2 hdl hw2s
          go_upto_region 19 with (at_builtin; refine wpList_append_row _ rfl _ _ 26 rfl 34 i34 (.slice none 0 0) 1 24 Try.underlying26 hi34 hb0 hb1 hb2 rfl (by decide) (.slice Ay V.length cy) V.length V rfl (HY2.out.alloc _) ⟨w2.heap.size, 0, none⟩ 1 1 [.slice (some ⟨gv, 0, none⟩) pn cv] rfl rfl (one_cells_at w2 _ _ rfl) (by simp [Value.oneCell']) (by decide) (by unfold maxLen; omega) (by omega) (w2.heap.size + 1) (by simp) ?_; intro g3 cap3 w3 hrow3 hgrow3 hloc3 hlt3'; have H3 := Hid.mk_ (HTD.out.add2 (v := .slice (some ⟨gv, 0, none⟩) pn cv) (L := L) HA.out HL.out (by rw [HLL.out]; exact HVD.out) HVB.out H1.out hrow3 (by rw [← HW2.out]; exact hgrow3) (by rw [← HW2S.out]; exact hloc3) hlt3'); have e3 := H3.out.1.cell 3; have e3f := H3.out.1.free 3; have e3l := H3.out.1.lt; clear hrow3 hgrow3 hloc3)
          have HFIN := Hid.mk_ H3.out.2.1
          have HKEEP := Hid.mk_ H3.out.2.2
          clear e3 e3f e3l H3
          go_wp2_with fail
          go_ret
          refine ⟨rfl, fun k hk h1' h2' h3' => ?_, _, _, HFIN.out⟩
          rw [HKEEP.out k (by rw [HWD.out]; exact Nat.lt_of_lt_of_le hk HB.out.size) h1' h2' h3', HWD.out]
          exact HB.out.block k hk
end
end Go.Proofs.Ytmfdcaalbpikpaa
