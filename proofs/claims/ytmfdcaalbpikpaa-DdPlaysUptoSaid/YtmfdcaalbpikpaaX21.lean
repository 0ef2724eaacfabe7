/- The book of lists that came out; both arenas beside it. -/
import Derived.Test.YtmfdcaalbpikpaaE2
import Derived.Test.YtmfdcaalbpikpaaX9
import Derived.Test.YtmfdcaalbpikpaaX19
import Derived.Test.YtmfdcaalbpikpaaC8
namespace Go.Proofs.Ytmfdcaalbpikpaa
open Go.RowKit Go.Maps
set_option linter.unusedVariables false
set_option linter.unusedSimpArgs false
structure LBook (w : World) (bw : Nat) (p1 p2 lv : Value) (es : List Value) : Prop where
  blk : Blk w bw [p1, p2, lv] 47
  row : Row w 22 1 lv es.length es
  r : ∀ v ∈ es, ∃ ks : List Int, Row w 3 1 v ks.length (ks.map (Value.int .i64)) ∧ ks.length ≤ 1000000
  ap : apartV es
section
variable {w w' w2 : World} {bw : Nat} {p1 p2 lv : Value} {es : List Value}
def bookZ (bw : Nat) (lv : Value) (k : Nat) : Prop := k = bw ∨ lv.ownBlock = some k
theorem LBook.elt (h : LBook w bw p1 p2 lv es) : ∀ b, OwnB es b → b < w.heap.size := fun b ⟨v, hv, e⟩ => by
  obtain ⟨ks, hr, _⟩ := h.r v hv
  exact hr.lt b e
theorem LBook.nb (h : LBook w bw p1 p2 lv es) : ∀ b, OwnB es b → b ≠ bw ∧ lv.ownBlock ≠ some b := fun b ⟨v, hv, e⟩ => by
  obtain ⟨ks, hr, _⟩ := h.r v hv
  exact ⟨fun e2 => row_blk hr h.blk (by decide) (e2 ▸ e), row_type hr h.row (by decide) e⟩
theorem LBook.lb (h : LBook w bw p1 p2 lv es) : lv.ownBlock ≠ some bw := row_blk h.row h.blk (by decide)
theorem LBook.own (h : LBook w bw p1 p2 lv es) (hl : es.length ≤ 10000000) : ∃ ls, Own w bw lv es ls := by
  have hr : ∀ j : Nat, ∃ ks : List Int, (∀ h : j < es.length, Row w 3 1 (es[j]'h) ks.length (ks.map (Value.int .i64))) ∧ ks.length ≤ 1000000 := fun j => by
    by_cases hj : j < es.length
    · obtain ⟨ks, h1, h2⟩ := h.r _ (List.getElem_mem hj)
      exact ⟨ks, fun _ => h1, h2⟩
    · exact ⟨[], fun h => absurd h hj, by simp⟩
  refine ⟨fun j => (hr j).choose, ⟨h.blk.cell 2, h.blk.lt, h.row, fun j hj => (hr j).choose_spec.1 hj, h.ap, h.nb, hl, fun j => (hr j).choose_spec.2⟩⟩
theorem LBook.move (h : LBook w bw p1 p2 lv es) (hm : ∀ k, bookZ bw lv k ∨ OwnB es k → w'.heap[k]? = w.heap[k]?) : LBook w' bw p1 p2 lv es where
  blk := h.blk.move (hm bw (.inl (.inl rfl)))
  row := h.row.move fun k hk => hm k (.inl (.inr hk))
  r := fun v hv => by
    obtain ⟨ks, h1, h2⟩ := h.r v hv
    exact ⟨ks, h1.move fun k hk => hm k (.inr ⟨v, hv, hk⟩), h2⟩
  ap := h.ap
theorem LBook.zlt (h : LBook w bw p1 p2 lv es) : ∀ k, bookZ bw lv k ∨ OwnB es k → k < w.heap.size := fun k hk => by
  rcases hk with (e | e) | e
  · subst e; exact h.blk.lt
  · exact h.row.lt k e
  · exact h.elt k e
theorem LBook.new (h : LBook w bw p1 p2 lv es) (hb : Below w.heap.size w w') : LBook w' bw p1 p2 lv es := h.move fun k hk => hb.block k (h.zlt k hk)
/-- a list more; w: where the value has come out, w2: behind the append -/
theorem LBook.add (h : LBook w bw p1 p2 lv es) {v : Value} {ks : List Int} (hv : Row w 3 1 v ks.length (ks.map (Value.int .i64))) (hks : ks.length ≤ 1000000) (hf : ∀ b, v.ownBlock = some b → ¬ OwnB es b) {o : Obj} {lv2 : Value} {g c : Nat}
    (hr : Row w2 22 1 lv2 (es.length + 1) (es ++ [v])) (he : lv2 = .slice (some ⟨g, 0, none⟩) (es.length + 1) c) (hg : (w.alloc o).grownBy w2 lv.ownBlock) (hloc : lv.ownBlock = some g ∨ g = w.heap.size + 1) :
    LBook (w2.setCell ⟨bw, 2, none⟩ lv2) bw p1 p2 lv2 (es ++ [v]) ∧ Mods (bookZ bw lv) w (w2.setCell ⟨bw, 2, none⟩ lv2) ∧ (∀ k, lv2.ownBlock = some k → lv.ownBlock = some k ∨ w.heap.size ≤ k) ∧ Blk w2 bw [p1, p2, lv] 47 := by
  have e0 : (w.alloc o).heap.size = w.heap.size + 1 := by simp
  have hs := hg.size
  rw [e0] at hs
  have hbl := h.blk.lt
  have hb2 : Blk w2 bw [p1, p2, lv] 47 := (h.blk.alloc o).grown hg (fun e => h.lb e.symm)
  have hm : ∀ b, b < w.heap.size → lv.ownBlock ≠ some b → b ≠ bw → (w2.setCell ⟨bw, 2, none⟩ lv2).heap[b]? = w.heap[b]? := fun b h1 h2 h3 => by
    rw [Below.heap_setCell _ _ _ _ h3, hg.block b (by rw [e0]; omega) (fun e => h2 e.symm), Below.heap_alloc _ _ _ h1]
  have hl2 : ∀ k, lv2.ownBlock = some k → lv.ownBlock = some k ∨ w.heap.size ≤ k := fun k e => by
    rw [he] at e
    have e3 : g = k := Option.some.inj e
    rcases hloc with e2 | e2
    · exact .inl (e3 ▸ e2)
    · exact .inr (by omega)
  have hlb2 : lv2.ownBlock ≠ some bw := fun e => by
    rcases hl2 bw e with e2 | e2
    · exact h.lb e2
    · omega
  have hvm : ∀ b, v.ownBlock = some b → (w2.setCell ⟨bw, 2, none⟩ lv2).heap[b]? = w.heap[b]? := fun b e =>
    hm b (hv.lt b e) (row_type hv h.row (by decide) e) (fun e2 => row_blk hv h.blk (by decide) (e2 ▸ e))
  refine ⟨⟨hb2.set 2 lv2, ?_, fun u hu => ?_, fun i j hi hj hne b hbi hbj => ?_⟩, ?_, hl2, hb2⟩
  · rw [List.length_append, List.length_singleton]
    exact hr.move fun k hk => Below.heap_setCell _ _ _ _ (fun e => hlb2 (by rw [hk, e]))
  · rcases List.mem_append.1 hu with hu | hu
    · obtain ⟨ks2, h1, h2⟩ := h.r u hu
      exact ⟨ks2, h1.move fun k hk => hm k (h1.lt k hk) (h.nb k ⟨u, hu, hk⟩).2 (h.nb k ⟨u, hu, hk⟩).1, h2⟩
    · simp at hu
      subst hu
      exact ⟨ks, hv.move hvm, hks⟩
  · rw [List.length_append, List.length_singleton] at hi hj
    by_cases h1 : i < es.length
    · rw [List.getElem_append_left h1] at hbi
      by_cases h2 : j < es.length
      · rw [List.getElem_append_left h2] at hbj
        exact h.ap i j h1 h2 hne b hbi hbj
      · have ej : j = es.length := by omega
        subst ej
        rw [List.getElem_append_right (Nat.le_refl _)] at hbj
        simp at hbj
        exact hf b hbj ⟨_, List.getElem_mem h1, hbi⟩
    · have ei : i = es.length := by omega
      subst ei
      rw [List.getElem_append_right (Nat.le_refl _)] at hbi
      simp at hbi
      by_cases h2 : j < es.length
      · rw [List.getElem_append_left h2] at hbj
        exact hf b hbi ⟨_, List.getElem_mem h2, hbj⟩
      · omega
  · have t1 : Mods (bookZ bw lv) w (w.alloc o) := (Mods.refl _ _).alloc o
    have t2 := t1.grown hg (fun k e _ => .inr e)
    exact t2.setCell (p := ⟨bw, 2, none⟩) (fun _ => .inl rfl) lv2
end

/-- both arenas and the book -/
structure DS (B n : Nat) (w0 w : World) (wb ab xb : Nat) (S : List Int) (M : Int) (lv : Value) (es : List Value) (N : List Nd) (zp zr : List Nat) : Prop where
  ws : WS w wb ab xb lv S M N N zp zr
  bk : LBook w wb (.pointer (some ⟨ab, 0, none⟩)) (.pointer (some ⟨xb, 0, none⟩)) lv es
  d1 : ∀ k, OwnB es k → ¬ wsz zp zr k
  d2 : ∀ k, lv.ownBlock = some k → ¬ wsz zp zr k
  bl : Below B w0 w
  g1 : ∀ k, wsz zp zr k → B ≤ k
  g2 : ∀ k, bookZ wb lv k ∨ OwnB es k → B ≤ k
  bs : B ≤ w.heap.size
  len : es.length ≤ n
def DState (B n : Nat) (w0 w : World) (wb ab xb : Nat) (S : List Int) (M : Int) : Prop := ∃ lv es N zp zr, DS B n w0 w wb ab xb S M lv es N zp zr
section
variable {B n : Nat} {w0 w w1 w2 w' : World} {wb ab xb : Nat} {S : List Int} {M : Int} {lv : Value} {es : List Value} {N N' : List Nd} {zp zr : List Nat}
theorem DS.new (h : DS B n w0 w wb ab xb S M lv es N zp zr) (hb : Below w.heap.size w w') : DS B n w0 w' wb ab xb S M lv es N zp zr :=
  ⟨h.ws.new hb, h.bk.new hb, h.d1, h.d2, h.bl.trans (hb.mono h.bs), h.g1, h.g2, by have := hb.size; have := h.bs; omega, h.len⟩
theorem DS.grew (h : DS B n w0 w wb ab xb S M lv es N zp zr) (hg : WGrew w w' wb ab xb lv S M N' N' zp zr) : ∃ zp' zr', DS B n w0 w' wb ab xb S M lv es N' zp' zr' := by
  obtain ⟨zp', zr', h1, h2, h3⟩ := hg
  have hs := h2.size
  have hbs := h.bs
  refine ⟨zp', zr', h1, h.bk.move (fun k hk => h2.block k (h.bk.zlt k hk) (fun e => ?_)), fun k hk e => ?_, fun k hk e => ?_, h.bl.trans (h2.below hbs fun k _ e => h.g1 k e), fun k hk => ?_, h.g2, by omega, h.len⟩
  · rcases hk with (e2 | e2) | e2
    · subst e2
      rcases e with e | e
      · exact h.ws.wp e
      · exact h.ws.wr e
    · exact h.d2 k e2 e
    · exact h.d1 k e2 e
  · rcases h3 k e with e2 | e2
    · exact h.d1 k hk e2
    · have := h.bk.elt k hk; omega
  · rcases h3 k e with e2 | e2
    · exact h.d2 k hk e2
    · have := h.bk.row.lt k hk; omega
  · rcases h3 k hk with e2 | e2
    · exact h.g1 k e2
    · omega
/-- a list more -/
theorem DS.add (h : DS B n w0 w wb ab xb S M lv es N zp zr) {v : Value} {ks : List Int} (hv : Row w 3 1 v ks.length (ks.map (Value.int .i64))) (hks : ks.length ≤ 1000000) (hf : ∀ b, v.ownBlock = some b → ¬ OwnB es b ∧ ¬ wsz zp zr b ∧ B ≤ b) {o : Obj} {lv2 : Value} {g c : Nat}
    (hr : Row w2 22 1 lv2 (es.length + 1) (es ++ [v])) (he : lv2 = .slice (some ⟨g, 0, none⟩) (es.length + 1) c) (hg : (w.alloc o).grownBy w2 lv.ownBlock) (hloc : lv.ownBlock = some g ∨ g = w.heap.size + 1) :
    DS B (n + 1) w0 (w2.setCell ⟨wb, 2, none⟩ lv2) wb ab xb S M lv2 (es ++ [v]) N zp zr ∧ Blk w2 wb [.pointer (some ⟨ab, 0, none⟩), .pointer (some ⟨xb, 0, none⟩), lv] 47 := by
  obtain ⟨a1, a2, a3, a4⟩ := h.bk.add hv hks (fun b hb => (hf b hb).1) hr he hg hloc
  have hs := a2.size
  have hbs := h.bs
  have hfar : ∀ k, wsz zp zr k → k < w.heap.size → ¬ bookZ wb lv k := fun k hk hkl e => by
    rcases e with e | e
    · subst e
      rcases hk with e | e
      · exact h.ws.wp e
      · exact h.ws.wr e
    · exact h.d2 k e hk
  have hm : ∀ k, wsz zp zr k → (w2.setCell ⟨wb, 2, none⟩ lv2).heap[k]? = w.heap[k]? := fun k hk => a2.block k (h.ws.lt (.inl hk)) (hfar k hk (h.ws.lt (.inl hk)))
  refine ⟨⟨⟨a1.blk, h.ws.pa.move hs (fun k hk => hm k (.inl hk)), h.ws.ra.move hs (fun k hk => hm k (.inr hk)), h.ws.dis, h.ws.wp, h.ws.wr⟩, a1, fun k ⟨u, hu, e⟩ => ?_, fun k hk e => ?_, h.bl.trans (a2.below hbs fun k _ e => h.g2 k (.inl e)), h.g1, fun k hk => ?_, by omega, ?_⟩, a4⟩
  · rcases List.mem_append.1 hu with hu | hu
    · exact h.d1 k ⟨u, hu, e⟩
    · simp at hu
      subst hu
      exact (hf k e).2.1
  · rcases a3 k hk with e2 | e2
    · exact h.d2 k e2 e
    · have := h.ws.lt (.inl e); omega
  · rcases hk with (e | e) | ⟨u, hu, e⟩
    · exact h.g2 k (.inl (.inl e))
    · rcases a3 k e with e2 | e2
      · exact h.g2 k (.inl (.inr e2))
      · omega
    · rcases List.mem_append.1 hu with hu | hu
      · exact h.g2 k (.inr ⟨u, hu, e⟩)
      · simp at hu
        subst hu
        exact (hf k e).2.2
  · rw [List.length_append]; have := h.len; simp; omega
end
end Go.Proofs.Ytmfdcaalbpikpaa
namespace Go.Proofs.Ytmfdcaalbpikpaa
open Go.RowKit Go.Maps
set_option linter.unusedVariables false
set_option linter.unusedSimpArgs false
def RNodePost (w : World) (l : Int) (ks : List Int) (e : Ending) (w' : World) : Prop := ∃ v, e = .returned (.tuple #[.agg #[.int .i64 l, v], .int .i64 0]) ∧ Row w' 3 1 v ks.length (ks.map (Value.int .i64)) ∧ Below w.heap.size w w'
theorem Row.ints {w : World} {A : Option Addr} {c : Nat} {ks : List Int} (h : Row w 3 1 (.slice A ks.length c) ks.length (ks.map (Value.int .i64))) (hl : ks.length ≤ 9223372036854775807) : IntsIn w A ks := by
  refine ⟨hl, fun h0 => ?_⟩
  obtain ⟨g, c', e, hg, _⟩ := h.some_ h0
  cases e
  exact ⟨g, 0, rfl, hg, fun j hj => by rw [Nat.zero_add]; exact row3 h j hj⟩
theorem at_ex {S : List Int} {M : Int} {N : List Nd} (h : Good S M N) {f : Int} (h2 : 2 ≤ f) (hf : hasA N f = true) : ∃ l ks, At S N f l ks := by
  rcases leaf_or h hf with e | e
  · omega
  · exact e
section
variable {w w' : World} {b wb ab xb : Nat} {lv : Value} {S : List Int} {M : Int} {N : List Nd} {z zp zr : List Nat} {ks : List Int}
theorem rnode_at {f l : Int} (h : RAt w b S M N z) (ha : At S N f l ks) : Calls Try.prog 56 #[.pointer (some ⟨b, 0, none⟩), .int .i64 f] w (RNodePost w l ks) := by
  obtain ⟨L, nv, sv, lv, rows, cz, h1, rfl, rfl⟩ := h
  have hlt := ha.lt
  rw [nds_length] at hlt
  have hi : (f - 2).toNat < L.length := by omega
  have := node_ra_in h1 (f - 2).toNat hi
  rw [show (((f - 2).toNat : Nat) : Int) + 2 = f by omega] at this
  have e := ha.nd
  have e3 : (⟨l, ks⟩ : Nd) = (L[(f - 2).toNat]'hi).1 := by
    have : ∀ j (hj : j < (nds L).length), j = (f - 2).toNat → (nds L)[j]'hj = (L[(f - 2).toNat]'hi).1 := fun j hj ej => by subst ej; exact nds_get L _ hi
    rw [e]; exact this _ _ rfl
  have e4 : ks = (L[(f - 2).toNat]'hi).1.ks := by rw [← e3]
  have e5 : l = (L[(f - 2).toNat]'hi).1.lv := by rw [← e3]
  rw [← e4, ← e5] at this
  exact this
set_option maxRecDepth 100000 in
set_option maxHeartbeats 8000000 in
theorem nodes_same {k0 : Nat} (h : WS w wb ab xb lv S M N N zp zr) (hk0 : k0 ≤ N.length) : Calls Try.prog 21 #[.pointer (some ⟨wb, 0, none⟩), .int .i64 (k0 : Int)] w fun e w' => e = .returned (.bool true) ∧ Below w.heap.size w w' := by
  have HH := Hid.mk_ h
  have hnn := h.pa.good.len2
  have HLQ := Hid.mk_ (fun q => quietly (w := w) q (len_at (h.pa.new (Drawn_below w q))))
  have HRQ := Hid.mk_ (fun q => quietly (w := w) q (rlen_at (h.ra.new (Drawn_below w q))))
  have c0 := h.blk.cell 0
  have c1 := h.blk.cell 1
  have cl := h.blk.lt
  have t1 : ((N.length : Int) != N.length) = false := by simp
  have t2 : ((N.length : Int) == N.length) = true := by simp
  clear h
  go_enter Try.func21, Try.ntmps21
  go_upto_region 1 with fail
  go_big_quiet (first | (go_at_call 16; with_reducible exact HLQ.out _) | (go_at_call 19; with_reducible exact HRQ.out _))
  have hbq : Below w.heap.size w (w.drewN nq) := Drawn_below _ _
  have HB0 := Hid.mk_ hbq
  obtain ⟨w1, hw1⟩ : ∃ w1, w1 = w.drewN nq := ⟨_, rfl⟩
  rw [← hw1] at HB0 ⊢
  clear hbq hw1 c0 c1
  go_wp2_with fail
  go_loopw [5] (fun x5 wr => ∃ k : Nat, k ≤ N.length ∧ x5 = .int .i64 ((k : Int) + 2) ∧ Hid (Below w.heap.size w wr)) (fun x5 _ => N.length + 2 - (intOf x5).toNat)
  case atStart => exact ⟨k0, hk0, rfl, HB0⟩
  case round =>
    obtain ⟨k, hk, rfl, HB⟩ := hrel
    have HHR := Hid.mk_ (HH.out.new HB.out)
    have HLEN := Hid.mk_ (rlen_at HHR.out.ra)
    have c1 := HHR.out.blk.cell 1
    have c0 := HHR.out.blk.cell 0
    have cl := HHR.out.blk.lt
    by_cases hlt : k < N.length
    · have hlt1 : (k : Int) + 2 < N.length + 2 := by omega
      obtain ⟨l, ks, ha⟩ := at_ex (f := (k : Int) + 2) HHR.out.pa.good (by omega) (has_iff.2 (by omega))
      have hal := ha.len
      have hl0 := ha.l0
      have hks : ks.length ≤ 256 := by
        have e1 := ha.len.1
        have e3 := HHR.out.pa.good.toSized.at_ l.toNat (by omega)
        rw [← getD_mem] at e3
        omega
      have HNO := Hid.mk_ (node_at HHR.out.pa ha)
      have HAT := Hid.mk_ ha
      clear ha hal hl0
      go_upto_region 7 with (first
        | (go_at_call 19; (with_reducible refine HLEN.out.mono ?_); rintro e w' ⟨rfl, rfl⟩)
        | (go_at_call 17; (with_reducible refine HNO.out.mono ?_); rintro e w3 ⟨y, rfl, ⟨gk, rfl, hgk, hrow⟩, hb3⟩; have HB3 := Hid.mk_ hb3; have HROW3 := Hid.mk_ hrow; clear hb3 hrow))
      obtain ⟨w5, hw5⟩ : ∃ w5, w5 = w3.alloc (.cells #[.int .i64 l, .slice (some ⟨gk, 0, none⟩) ks.length ks.length] 55) := ⟨_, rfl⟩
      obtain ⟨bn, hbn⟩ : ∃ bn, bn = w3.heap.size := ⟨_, rfl⟩
      rw [← hw5, ← hbn]
      have hnb : Blk w5 bn [.int .i64 l, .slice (some ⟨gk, 0, none⟩) ks.length ks.length] 55 := by rw [hw5, hbn]; exact Blk.new w3 _ 55
      have hb5 : Below wr.heap.size wr w5 := by rw [hw5]; exact HB3.out.alloc HB3.out.size _
      have hr5 : Row w5 3 1 (.slice (some ⟨gk, 0, none⟩) ks.length ks.length) ks.length (ks.map (Value.int .i64)) := by rw [hw5]; exact HROW3.out.alloc _
      have HH5 := Hid.mk_ (HHR.out.new hb5)
      have HRN := Hid.mk_ (rnode_at HH5.out.ra HAT.out)
      have d1 := HH5.out.blk.cell 1
      have dl := HH5.out.blk.lt
      have HNB := Hid.mk_ hnb
      have HB5 := Hid.mk_ hb5
      have HR5 := Hid.mk_ hr5
      clear hw5 hbn hnb hb5 hr5 c0 c1 cl hgk
      go_upto_region 8 with (go_at_call 56; (with_reducible refine HRN.out.mono ?_); rintro e w6 ⟨y, rfl, hrow, hb6⟩; have HB6 := Hid.mk_ hb6; have HROW6 := Hid.mk_ hrow; obtain ⟨Ay, cy, rfl⟩ := hrow.shape; clear hb6 hrow)
      obtain ⟨w7, hw7⟩ : ∃ w7, w7 = w6.alloc (.cells #[.int .i64 l, .slice Ay ks.length cy] 55) := ⟨_, rfl⟩
      obtain ⟨bm, hbm⟩ : ∃ bm, bm = w6.heap.size := ⟨_, rfl⟩
      rw [← hw7, ← hbm]
      have hmb : Blk w7 bm [.int .i64 l, .slice Ay ks.length cy] 55 := by rw [hw7, hbm]; exact Blk.new w6 _ 55
      have hb7 : Below w5.heap.size w5 w7 := by rw [hw7]; exact HB6.out.alloc HB6.out.size _
      have hr7 : Row w7 3 1 (.slice Ay ks.length cy) ks.length (ks.map (Value.int .i64)) := by rw [hw7]; exact HROW6.out.alloc _
      have hn7 := HNB.out.below hb7 HNB.out.lt
      have hq7 : Row w7 3 1 (.slice (some ⟨gk, 0, none⟩) ks.length ks.length) ks.length (ks.map (Value.int .i64)) := HR5.out.move fun q hq => hb7.block q (HR5.out.lt q hq)
      have n0 := hn7.cell 0
      have n1 := hn7.cell 1
      have nl := hn7.lt
      have m0 := hmb.cell 0
      have m1 := hmb.cell 1
      have ml := hmb.lt
      have HSA := Hid.mk_ (same_any (some ⟨gk, 0, none⟩) Ay ks.length cy ks ks w7 (Row.ints hq7 (by omega)) (Row.ints hr7 (by omega)))
      rw [show decide (ks = ks) = true from decide_eq_true rfl] at HSA
      have t3 : (l != l) = false := by simp
      have HB7 := Hid.mk_ (HB.out.trans ((HB5.out.trans (hb7.mono HB5.out.size)).mono HB.out.size))
      clear hw7 hbm hmb hb7 hr7 hn7 hq7
      go_upto_region 9 with (go_at_call 28; (with_reducible refine HSA.out.mono ?_); rintro e w8 ⟨rfl, q8, rfl⟩)
      go_wp2_with fail
      refine ⟨⟨k + 1, by omega, by go_num, ?_⟩, by simp [intOf]; omega⟩
      exact HB7.out.trans (Drawn_below _ _)
    · have hke : k = N.length := by omega
      subst hke
      have hlt1 : ¬ ((N.length : Nat) : Int) + 2 < N.length + 2 := by omega
      go_wp2_with (go_at_call 19; (with_reducible refine HLEN.out.mono ?_); rintro e w' ⟨rfl, rfl⟩)
      go_ret
      exact ⟨rfl, HB.out⟩
end
end Go.Proofs.Ytmfdcaalbpikpaa
