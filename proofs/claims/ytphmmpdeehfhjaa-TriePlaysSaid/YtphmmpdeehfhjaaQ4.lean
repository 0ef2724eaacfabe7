/- Lists of lists of rows in memory: what a book of lists holds. No program in sight. -/
import Derived.Test.YtphmmpdeehfhjaaP8
namespace Go.Proofs.Ytphmmpdeehfhjaa
open Go.RowKit
set_option linter.unusedVariables false
set_option linter.unusedSimpArgs false
/-- a block of rows whose first cells are known; none is frozen -/
def RowBlk (w : World) (g : Nat) (cs : List Value) : Prop := ∃ cur : List Value, w.heap[g]? = some (.cells cur.toArray 65 (0, 0)) ∧ cur.take cs.length = cs
section
variable {w w' : World} {g : Nat} {cs : List Value}
theorem RowBlk.lt (h : RowBlk w g cs) : g < w.heap.size := by obtain ⟨cur, h, _⟩ := h; exact (Array.getElem?_eq_some_iff.1 h).1
theorem RowBlk.move (h : RowBlk w g cs) (hm : w'.heap[g]? = w.heap[g]?) : RowBlk w' g cs := by obtain ⟨cur, h, h2⟩ := h; exact ⟨cur, hm.trans h, h2⟩
theorem RowBlk.cell (h : RowBlk w g cs) {i : Nat} (hi : i < cs.length) : w.cell? ⟨g, i, none⟩ = cs[i]? := by
  obtain ⟨cur, h, h2⟩ := h
  conv => rhs; rw [← h2]
  rw [List.getElem?_take, if_pos hi]
  simp [World.cell?, h]
theorem RowBlk.free (h : RowBlk w g cs) (i : Nat) : w.frozen? ⟨g, i, none⟩ = false := by
  obtain ⟨cur, h, _⟩ := h
  simp [World.frozen?, h]
theorem RowBlk.set (h : RowBlk w g cs) {i : Nat} (hi : i < cs.length) (v : Value) : RowBlk (w.setCell ⟨g, i, none⟩ v) g (cs.set i v) := by
  obtain ⟨cur, h, h2⟩ := h
  refine ⟨cur.set i v, ?_, ?_⟩
  · simp only [World.setCell, Array.getElem?_modify, if_pos, h, Option.map_some]
    simp
  · rw [List.length_set, List.take_set, h2]
theorem RowBlk.rows {L : List Row} (h : RowBlk w g (rowsCells L)) {k : Nat} (hk : k < L.length) : w.cell? ⟨g, k * 3, none⟩ = some (.int .i64 (L[k]'hk).a) ∧ w.cell? ⟨g, k * 3 + 1, none⟩ = some (.int .i64 (L[k]'hk).b) ∧ w.cell? ⟨g, k * 3 + 2, none⟩ = some (.int .i64 (L[k]'hk).l) := by
  have hc : ∀ j, j < 3 → w.cell? ⟨g, k * 3 + j, none⟩ = (L[k]'hk).cells[j]? := fun j hj => by
    rw [h.cell (by rw [rowsCells_length]; omega), rowsCells_get L k j hk hj]
  exact ⟨hc 0 (by omega), hc 1 (by omega), hc 2 (by omega)⟩
end
theorem rowsCells_set : ∀ (L : List Row) (k : Nat) (r : Row), rowsCells (L.set k r) = (((rowsCells L).set (k * 3) (.int .i64 r.a)).set (k * 3 + 1) (.int .i64 r.b)).set (k * 3 + 2) (.int .i64 r.l)
  | [], k, r => by simp [rowsCells]
  | q :: L, 0, r => by simp [rowsCells, Row.cells]
  | q :: L, k + 1, r => by
    have ih := rowsCells_set L k r
    have e : (k + 1) * 3 = k * 3 + 1 + 1 + 1 := by omega
    rw [e]
    simp only [List.set_cons_succ, rowsCells, List.flatMap_cons, Row.cells, List.cons_append, List.nil_append] at ih ⊢
    rw [ih]
theorem marks_set {L : List Row} {m : Row} {k : Nat} (hk : k < L.length) : (List.replicate k m ++ L.drop k).set k m = List.replicate (k + 1) m ++ L.drop (k + 1) := by
  rw [List.set_append_right _ _ (by simp), List.drop_eq_getElem_cons hk]
  simp only [List.length_replicate, Nat.sub_self, List.set_cons_zero]
  rw [List.replicate_succ', List.append_assoc]
  rfl
/-- the mark of the n-th list -/
def mrk (n : Int) : Row := ⟨0, 0, -1 - n⟩
/-- a list that its owner wrote full of one mark, in a block of dz -/
def Entry (w : World) (v : Value) (m : Row) (dz : List Nat) : Prop :=
  ∃ g n c, v = .slice (some ⟨g, 0, none⟩) n c ∧ g ∈ dz ∧ n ≤ 8589934592 ∧ RowBlk w g (rowsCells (List.replicate n m))
theorem Entry.move {w w' : World} {v : Value} {m : Row} {dz : List Nat} (h : Entry w v m dz) (hm : ∀ k ∈ dz, w'.heap[k]? = w.heap[k]?) : Entry w' v m dz := by
  obtain ⟨g, n, c, rfl, hg, hn, hr⟩ := h
  exact ⟨g, n, c, rfl, hg, hn, hr.move (hm g hg)⟩
theorem Entry.mono {w : World} {v : Value} {m : Row} {dz dz' : List Nat} (h : Entry w v m dz) (hs : ∀ k ∈ dz, k ∈ dz') : Entry w v m dz' := by
  obtain ⟨g, n, c, rfl, hg, hn, hr⟩ := h
  exact ⟨g, n, c, rfl, hs g hg, hn, hr⟩
/-- the book itself: three lists of lists, a number -/
structure Head (w : World) (bb : Nat) (fv wv av : Value) (fs ws es : List Value) (N : Int) : Prop where
  blk : Blk w bb [fv, wv, av, .int .i64 N] 28
  f : w.ownsRow 0 44 1 fv fs.length fs
  wn : w.ownsRow 0 44 1 wv ws.length ws
  a : w.ownsRow 0 44 1 av es.length es
/-- its blocks -/
def hz (bb : Nat) (fv wv av : Value) : List Nat := bb :: (fv.ownBlock.toList ++ (wv.ownBlock.toList ++ av.ownBlock.toList))
theorem Head.move {w w' : World} {bb : Nat} {fv wv av : Value} {fs ws es : List Value} {N : Int} (h : Head w bb fv wv av fs ws es N) (hm : ∀ k ∈ hz bb fv wv av, w'.heap[k]? = w.heap[k]?) : Head w' bb fv wv av fs ws es N where
  blk := h.blk.move (hm bb (by simp [hz]))
  f := own_move h.f fun k hk => hm k (by simp [hz, hk])
  wn := own_move h.wn fun k hk => hm k (by simp [hz, hk])
  a := own_move h.a fun k hk => hm k (by simp [hz, hk])
def fval (p : Nat × List Row) : Value := .slice (some ⟨p.1, 0, none⟩) p.2.length p.2.length
/-- what came out and was not written on, what it must be; what was marked -/
structure Book (w : World) (bb : Nat) (fv wv av : Value) (fl : List (Nat × List Row)) (ws es : List Value) (wz dz : List Nat) (N : Nat) : Prop where
  head : Head w bb fv wv av (fl.map fval) ws es N
  lw : ws.length = fl.length
  free : ∀ p ∈ fl, RowBlk w p.1 (rowsCells p.2) ∧ 0 < p.2.length ∧ p.2.length ≤ 4294967296
  want : ∀ j (h : j < ws.length), ∃ A c, ws[j]'h = .slice A (fl[j]'(lw ▸ h)).2.length c ∧ RowsIn w A (fl[j]'(lw ▸ h)).2 ∧ ∀ g o, A = some ⟨g, o, none⟩ → g ∈ wz
  la : es.length = 5 * N
  all : ∀ i (h : i < es.length), Entry w (es[i]'h) (mrk ((i / 5 : Nat) : Int)) dz
  nd : (hz bb fv wv av ++ fl.map (·.1)).Nodup
  dd : ∀ k ∈ dz, k ∉ hz bb fv wv av ∧ k ∉ fl.map (·.1)
  wzd : ∀ k ∈ wz, k ∉ hz bb fv wv av
  lt : ∀ k, k ∈ hz bb fv wv av ∨ k ∈ fl.map (·.1) ∨ k ∈ dz ∨ k ∈ wz → k < w.heap.size
theorem Book.move {w w' : World} {bb : Nat} {fv wv av : Value} {fl : List (Nat × List Row)} {ws es : List Value} {wz dz : List Nat} {N : Nat} (h : Book w bb fv wv av fl ws es wz dz N) (hs : w.heap.size ≤ w'.heap.size)
    (hm : ∀ k, k ∈ hz bb fv wv av ∨ k ∈ fl.map (·.1) ∨ k ∈ dz ∨ k ∈ wz → w'.heap[k]? = w.heap[k]?) : Book w' bb fv wv av fl ws es wz dz N where
  head := h.head.move fun k hk => hm k (.inl hk)
  lw := h.lw
  free := fun p hp => by
    obtain ⟨h1, h2⟩ := h.free p hp
    exact ⟨h1.move (hm p.1 (.inr (.inl (List.mem_map_of_mem hp)))), h2⟩
  want := fun j hj => by
    obtain ⟨A, c, e, hr, hz⟩ := h.want j hj
    exact ⟨A, c, e, hr.move fun g o e2 _ => hm g (.inr (.inr (.inr (hz g o e2)))), hz⟩
  la := h.la
  all := fun i hi => (h.all i hi).move fun k hk => hm k (.inr (.inr (.inl hk)))
  nd := h.nd
  dd := h.dd
  wzd := h.wzd
  lt := fun k hk => Nat.lt_of_lt_of_le (h.lt k hk) hs
end Go.Proofs.Ytphmmpdeehfhjaa
namespace Go.Proofs.Ytphmmpdeehfhjaa
open Go.RowKit
set_option linter.unusedVariables false
set_option linter.unusedSimpArgs false
theorem nodup_ne {l : List Nat} (h : l.Nodup) {i j : Nat} (hi : i < l.length) (hj : j < l.length) (hij : i ≠ j) : l[i]'hi ≠ l[j]'hj := by
  have h2 := List.pairwise_iff_getElem.1 h
  rcases Nat.lt_or_ge i j with h3 | h3
  · exact h2 i j hi hj h3
  · exact fun e => h2 j i hj hi (by omega) e.symm
/-- a row written into a list's block -/
def setRow3 (w : World) (g k : Nat) (r : Row) : World := ((w.setCell ⟨g, k * 3, none⟩ (.int .i64 r.a)).setCell ⟨g, k * 3 + 1, none⟩ (.int .i64 r.b)).setCell ⟨g, k * 3 + 2, none⟩ (.int .i64 r.l)
theorem RowBlk.set3 {w : World} {g k : Nat} {L : List Row} (h : RowBlk w g (rowsCells L)) (hk : k < L.length) (r : Row) : RowBlk (setRow3 w g k r) g (rowsCells (L.set k r)) := by
  have hl := rowsCells_length L
  have h1 := h.set (i := k * 3) (by omega) (.int .i64 r.a)
  have h2 := h1.set (i := k * 3 + 1) (by rw [List.length_set]; omega) (.int .i64 r.b)
  have h3 := h2.set (i := k * 3 + 2) (by rw [List.length_set, List.length_set]; omega) (.int .i64 r.l)
  rw [rowsCells_set]
  exact h3
theorem setRow3_mods {S : Nat → Prop} {w0 w : World} {g k : Nat} {r : Row} (h : Mods S w0 w) (hs : g < w0.heap.size → S g) : Mods S w0 (setRow3 w g k r) := ((h.setCell (p := ⟨g, k * 3, none⟩) hs _).setCell (p := ⟨g, k * 3 + 1, none⟩) hs _).setCell (p := ⟨g, k * 3 + 2, none⟩) hs _
/-- the j-th list when i lists are marked, and k rows of the next one -/
def ctn (N i k j : Nat) (L : List Row) : List Row := if j < i then List.replicate L.length (mrk ((N + j : Nat) : Int)) else if j = i then List.replicate k (mrk ((N + j : Nat) : Int)) ++ L.drop k else L
theorem ctn_length {N i k j : Nat} {L : List Row} (hk : j = i → k ≤ L.length) : (ctn N i k j L).length = L.length := by
  unfold ctn
  split
  · simp
  · split
    · rename_i h; have := hk h; simp; omega
    · rfl
structure Ph2 (w wr : World) (fl : List (Nat × List Row)) (N i k : Nat) : Prop where
  m : Mods (· ∈ fl.map (·.1)) w wr
  r : ∀ j (h : j < fl.length), RowBlk wr (fl[j]'h).1 (rowsCells (ctn N i k j (fl[j]'h).2))
section
variable {w wr w2 : World} {fl : List (Nat × List Row)} {N i k : Nat}
theorem Ph2.start (hf : ∀ p ∈ fl, RowBlk w p.1 (rowsCells p.2)) : Ph2 w w fl N 0 0 := ⟨Mods.refl _ _, fun j h => by
  have := hf _ (List.getElem_mem h)
  unfold ctn
  rw [if_neg (by omega)]
  split
  · simpa using this
  · exact this⟩
theorem Ph2.below (h : Ph2 w wr fl N i k) (hb : Below wr.heap.size wr w2) : Ph2 w w2 fl N i k :=
  ⟨h.m.then_new hb, fun j hj => (h.r j hj).move (hb.block _ (h.r j hj).lt)⟩
theorem Ph2.next (h : Ph2 w wr fl N i k) (hi : i < fl.length) (hk : k = (fl[i]'hi).2.length) : Ph2 w wr fl N (i + 1) 0 := ⟨h.m, fun j hj => by
  have := h.r j hj
  have e : ctn N (i + 1) 0 j (fl[j]'hj).2 = ctn N i k j (fl[j]'hj).2 := by
    unfold ctn
    by_cases h1 : j < i
    · rw [if_pos h1, if_pos (by omega)]
    · by_cases h2 : j = i
      · subst h2
        rw [if_pos (by omega), if_neg h1, if_pos rfl, hk]
        simp
      · rw [if_neg h1, if_neg h2, if_neg (by omega)]
        split <;> simp
  rw [e]
  exact this⟩
theorem Ph2.step (h : Ph2 w wr fl N i k) (hi : i < fl.length) (hk : k < (fl[i]'hi).2.length) (hnd : (fl.map (·.1)).Nodup) : Ph2 w (setRow3 wr (fl[i]'hi).1 k (mrk ((N + i : Nat) : Int))) fl N i (k + 1) := by
  refine ⟨setRow3_mods h.m (fun _ => List.mem_map_of_mem (List.getElem_mem hi)), fun j hj => ?_⟩
  by_cases e : j = i
  · subst e
    have h1 := h.r j hj
    have h2 := h1.set3 (k := k) (by rw [ctn_length (fun _ => by omega)]; exact hk) (mrk ((N + j : Nat) : Int))
    have e2 : (ctn N j k j (fl[j]'hj).2).set k (mrk ((N + j : Nat) : Int)) = ctn N j (k + 1) j (fl[j]'hj).2 := by
      unfold ctn
      rw [if_neg (by omega), if_pos rfl, if_neg (by omega), if_pos rfl]
      exact marks_set hk
    rw [e2] at h2
    exact h2
  · have h1 := h.r j hj
    have hne : (fl[j]'hj).1 ≠ (fl[i]'hi).1 := by
      intro e3
      have := nodup_ne hnd (i := j) (j := i) (by rw [List.length_map]; exact hj) (by rw [List.length_map]; exact hi) e
      rw [List.getElem_map, List.getElem_map] at this
      exact this e3
    have e2 : ctn N i (k + 1) j (fl[j]'hj).2 = ctn N i k j (fl[j]'hj).2 := by
      unfold ctn
      rw [if_neg e, if_neg e]
    rw [e2]
    refine h1.move ?_
    unfold setRow3
    rw [Below.heap_setCell _ _ _ _ hne, Below.heap_setCell _ _ _ _ hne, Below.heap_setCell _ _ _ _ hne]
end
end Go.Proofs.Ytphmmpdeehfhjaa
namespace Go.Proofs.Ytphmmpdeehfhjaa
open Go.RowKit
set_option linter.unusedVariables false
set_option linter.unusedSimpArgs false
theorem RowBlk.prefix_ {w : World} {g n k : Nat} {m : Row} (h : RowBlk w g (rowsCells (List.replicate n m))) (hk : k ≤ n) : RowBlk w g (rowsCells (List.replicate k m)) := by
  obtain ⟨cur, h1, h2⟩ := h
  refine ⟨cur, h1, ?_⟩
  have e : List.replicate n m = List.replicate k m ++ List.replicate (n - k) m := by rw [List.replicate_append_replicate]; congr 1; omega
  rw [e, rowsCells_append] at h2
  have h3 := congrArg (List.take (rowsCells (List.replicate k m)).length) h2
  rw [List.take_take, List.take_left, List.length_append] at h3
  rw [← h3]
  congr 1
  have := h3
  simp only [List.length_take]
  have hl : (cur.take ((rowsCells (List.replicate k m)).length + (rowsCells (List.replicate (n - k) m)).length)).length = (rowsCells (List.replicate k m)).length + (rowsCells (List.replicate (n - k) m)).length := by
    have := congrArg List.length h2
    simpa using this
  rw [List.length_take] at hl
  omega
theorem own_rowBlk {w : World} {base g n c : Nat} {xs : List Value} (h : w.ownsRow base 65 3 (.slice (some ⟨g, 0, none⟩) n c) n xs) : RowBlk w g xs := by
  obtain ⟨h1, h2⟩ := h
  rcases h2 with ⟨h2, _⟩ | ⟨g', cap, cur, e, hg, hh, hn, hm, hs, ht⟩
  · cases h2
  · cases e
    exact ⟨cur.toList, by simpa using hh, by rw [h1]; exact ht⟩
/-- the old blocks: none twice -/
structure Stat (wc : World) (bb : Nat) (fv wv av : Value) (gs dz : List Nat) : Prop where
  nd : (hz bb fv wv av ++ gs).Nodup
  dd : ∀ k ∈ dz, k ∉ hz bb fv wv av ∧ k ∉ gs
  lt : ∀ k, k ∈ hz bb fv wv av ∨ k ∈ gs ∨ k ∈ dz → k < wc.heap.size
section
variable {wc wr w2 : World} {bb : Nat} {fv wv av av' av2 : Value} {gs dz : List Nat}
theorem Stat.av_bb (h : Stat wc bb fv wv av gs dz) : av.ownBlock ≠ some bb := fun e => by
  have := (List.nodup_append.1 h.nd).1
  unfold hz at this
  exact (List.nodup_cons.1 this).1 (by simp [e])
theorem Stat.zone (h : Stat wc bb fv wv av gs dz) {k : Nat} (hk : k ∈ gs ∨ k ∈ dz) : k ≠ bb ∧ av.ownBlock ≠ some k ∧ k < wc.heap.size := by
  have h2 : k ∉ hz bb fv wv av := by
    rcases hk with h1 | h1
    · exact fun e => (List.nodup_append.1 h.nd).2.2 k e k h1 rfl
    · exact (h.dd k h1).1
  exact ⟨fun e => h2 (by simp [hz, e]), fun e => h2 (by simp [hz, e]), h.lt k (.inr hk)⟩
theorem Stat.fv_ (h : Stat wc bb fv wv av gs dz) {k : Nat} (hk : fv.ownBlock = some k) : k ≠ bb ∧ av.ownBlock ≠ some k ∧ k < wc.heap.size := by
  have h1 := (List.nodup_append.1 h.nd).1
  unfold hz at h1
  refine ⟨fun e => (List.nodup_cons.1 h1).1 (by simp [hk, e]), fun e => ?_, h.lt k (.inl (by simp [hz, hk]))⟩
  have h3 := (List.nodup_append.1 (List.nodup_cons.1 h1).2).2.2
  exact h3 k (by simp [hk]) k (by simp [e]) rfl
/-- i lists are pushed and grown -/
structure P4 (wc wr : World) (bb : Nat) (fv wv av : Value) (gs dz : List Nat) (N i : Nat) (av' : Value) (es : List Value) (D : List Nat) : Prop where
  m : Mods (fun k => k = bb ∨ av.ownBlock = some k) wc wr
  blk : Blk wr bb [fv, wv, av', .int .i64 (N : Int)] 28
  a : wr.ownsRow 0 44 1 av' es.length es
  la : es.length = 5 * (N + i)
  ent : ∀ j (h : j < es.length), Entry wr (es[j]'h) (mrk ((j / 5 : Nat) : Int)) D
  avz : ∀ k, av'.ownBlock = some k → av.ownBlock = some k ∨ wc.heap.size ≤ k
  dz_ : ∀ k ∈ D, (k ∈ dz ∨ k ∈ gs.take i ∨ wc.heap.size ≤ k) ∧ av'.ownBlock ≠ some k ∧ k < wr.heap.size
/-- .. and the next one k times -/
structure P5 (wc wr : World) (bb : Nat) (fv wv av : Value) (gs dz : List Nat) (N i k : Nat) (b : Bool) (av' : Value) (es : List Value) (D : List Nat) (gx nx cx : Nat) : Prop where
  m : Mods (fun k => k = bb ∨ av.ownBlock = some k) wc wr
  blk : Blk wr bb [fv, wv, av', .int .i64 (N : Int)] 28
  a : wr.ownsRow 0 44 1 av' es.length es
  la : es.length = 5 * (N + i) + k
  ent : ∀ j (h : j < es.length), Entry wr (es[j]'h) (mrk ((j / 5 : Nat) : Int)) D ∨ ∃ n c, es[j]'h = .slice (some ⟨gx, 0, none⟩) n c ∧ n ≤ nx ∧ j / 5 = N + i
  avz : ∀ k, av'.ownBlock = some k → av.ownBlock = some k ∨ wc.heap.size ≤ k
  dz_ : ∀ k ∈ D, (k ∈ dz ∨ k ∈ gs.take (i + 1) ∨ wc.heap.size ≤ k) ∧ av'.ownBlock ≠ some k ∧ k < wr.heap.size ∧ k ≠ gx
  x : RowBlk wr gx (rowsCells (List.replicate nx (mrk ((N + i : Nat) : Int))))
  gz : (b = false ∧ nx = cx ∧ gs[i]? = some gx ∨ wc.heap.size ≤ gx ∧ wr.ownsRow 0 65 3 (.slice (some ⟨gx, 0, none⟩) nx cx) nx (rowsCells (List.replicate nx (mrk ((N + i : Nat) : Int))))) ∧ av'.ownBlock ≠ some gx
  n0 : nx ≤ 4294967296 + k
theorem P4.enter {N i : Nat} {es : List Value} {D : List Nat} {g n : Nat} (hs : Stat wc bb fv wv av gs dz) (h : P4 wc wr bb fv wv av gs dz N i av' es D) (hi : i < gs.length) (hg : gs[i]? = some g) (hr : RowBlk wc g (rowsCells (List.replicate n (mrk ((N + i : Nat) : Int))))) (hn : n ≤ 4294967296) :
    P5 wc wr bb fv wv av gs dz N i 0 false av' es D g n n := by
  have hgm : g ∈ gs := List.mem_of_getElem? hg
  obtain ⟨z1, z2, z3⟩ := hs.zone (.inl hgm)
  have hnd : gs.Nodup := (List.nodup_append.1 hs.nd).2.1
  refine ⟨h.m, h.blk, h.a, by rw [h.la]; omega, fun j hj => .inl (h.ent j hj), h.avz, fun k hk => ?_, hr.move (h.m.block g z3 (fun e => by rcases e with e | e; exact z1 e; exact z2 e)), ⟨.inl ⟨rfl, rfl, hg⟩, fun e => ?_⟩, by omega⟩
  · obtain ⟨h1, h2, h3⟩ := h.dz_ k hk
    refine ⟨?_, h2, h3, fun e => ?_⟩
    · rcases h1 with h1 | h1 | h1
      · exact .inl h1
      · exact .inr (.inl (List.take_subset_take_left gs (Nat.le_succ i) h1))
      · exact .inr (.inr h1)
    · subst e
      rcases h1 with h1 | h1 | h1
      · exact (hs.dd k h1).2 hgm
      · obtain ⟨j, hj, e⟩ := List.getElem_of_mem h1
        rw [List.length_take] at hj
        rw [List.getElem_take] at e
        have hgi : gs[i]'hi = k := by rw [List.getElem?_eq_getElem hi] at hg; exact Option.some.inj hg
        exact nodup_ne hnd (i := j) (j := i) (by omega) hi (by omega) (by rw [e, hgi])
      · omega
  · rcases h.avz g e with h1 | h1
    · exact z2 h1
    · omega
theorem P5.leave {N i : Nat} {es : List Value} {D : List Nat} {gx nx cx : Nat} (hs : Stat wc bb fv wv av gs dz) (h : P5 wc wr bb fv wv av gs dz N i 5 true av' es D gx nx cx) : P4 wc wr bb fv wv av gs dz N (i + 1) av' es (gx :: D) := by
  have hgx := h.gz.1.resolve_left (fun e => by cases e.1)
  refine ⟨h.m, h.blk, h.a, by rw [h.la]; omega, fun j hj => ?_, h.avz, fun k hk => ?_⟩
  · rcases h.ent j hj with h1 | ⟨n, c, e, hn, hj2⟩
    · exact h1.mono (fun k hk => List.mem_cons_of_mem _ hk)
    · have := h.n0
      exact ⟨gx, n, c, e, List.mem_cons_self .., by omega, by rw [hj2]; exact h.x.prefix_ hn⟩
  · rcases List.mem_cons.1 hk with rfl | hk
    · exact ⟨.inr (.inr hgx.1), h.gz.2, h.x.lt⟩
    · obtain ⟨h1, h2, h3, _⟩ := h.dz_ k hk
      exact ⟨h1, h2, h3⟩
theorem P5.below {N i k : Nat} {b : Bool} {es : List Value} {D : List Nat} {gx nx cx : Nat} (h : P5 wc wr bb fv wv av gs dz N i k b av' es D gx nx cx) (hb : Below wr.heap.size wr w2) : P5 wc w2 bb fv wv av gs dz N i k b av' es D gx nx cx where
  m := h.m.then_new hb
  blk := h.blk.below hb h.blk.lt
  a := own_move h.a fun k hk => hb.block k (h.a.lt k hk).2
  la := h.la
  ent := fun j hj => by
    rcases h.ent j hj with h1 | h1
    · exact .inl (h1.move fun k hk => hb.block k (h.dz_ k hk).2.2.1)
    · exact .inr h1
  avz := h.avz
  dz_ := fun k hk => by obtain ⟨h1, h2, h3, h4⟩ := h.dz_ k hk; exact ⟨h1, h2, Nat.lt_of_lt_of_le h3 hb.size, h4⟩
  x := h.x.move (hb.block gx h.x.lt)
  gz := ⟨by
    rcases h.gz.1 with h1 | ⟨h1, h2⟩
    · exact .inl h1
    · exact .inr ⟨h1, own_move h2 fun k hk => hb.block k (h2.lt k hk).2⟩, h.gz.2⟩
  n0 := h.n0
/-- pushed -/
theorem P5.push {N i k : Nat} {b : Bool} {es : List Value} {D : List Nat} {gx nx cx : Nat} (hs : Stat wc bb fv wv av gs dz) (h : P5 wc wr bb fv wv av gs dz N i k b av' es D gx nx cx) (hk5 : k < 5)
    (hown : w2.ownsRow 0 44 1 av2 (es.length + 1) (es ++ [.slice (some ⟨gx, 0, none⟩) nx cx])) (hg : wr.grownBy w2 av'.ownBlock) (hloc : av2.ownBlock = av'.ownBlock ∨ av2.ownBlock = some wr.heap.size) :
    P5 wc (w2.setCell ⟨bb, 2, none⟩ av2) bb fv wv av gs dz N i (k + 1) b av2 (es ++ [.slice (some ⟨gx, 0, none⟩) nx cx]) D gx nx cx ∧ Blk w2 bb [fv, wv, av', .int .i64 (N : Int)] 28 := by
  have hgr := hg.size
  have hva : av'.ownBlock ≠ some bb := fun e => by
    rcases h.avz bb e with h1 | h1
    · exact hs.av_bb h1
    · have := hs.lt bb (.inl (by simp [hz])); omega
  have hb2 : Blk w2 bb [fv, wv, av', .int .i64 (N : Int)] 28 := h.blk.grown hg (fun e => hva e.symm)
  have hne2 : av2.ownBlock ≠ some bb := by
    rcases hloc with e | e
    · rw [e]; exact hva
    · rw [e]; intro e2; cases e2; exact absurd h.blk.lt (Nat.lt_irrefl _)
  have hmv : ∀ q, q < wr.heap.size → av'.ownBlock ≠ some q → q ≠ bb → (w2.setCell ⟨bb, 2, none⟩ av2).heap[q]? = wr.heap[q]? := fun q h1 h2 h3 => by
    rw [Below.heap_setCell _ _ _ _ h3]
    exact hg.block q h1 (fun e => h2 e.symm)
  have hDbb : ∀ q ∈ D, q ≠ bb := fun q hq e => by
    subst e
    rcases (h.dz_ q hq).1 with h1 | h1 | h1
    · exact (hs.zone (.inr h1)).1 rfl
    · exact (hs.zone (.inl (List.mem_of_mem_take h1))).1 rfl
    · have := hs.lt q (.inl (by simp [hz])); omega
  have hgbb : gx ≠ bb := fun e => by
    rcases h.gz.1 with ⟨_, _, h1⟩ | ⟨h1, _⟩
    · exact (hs.zone (.inl (List.mem_of_getElem? h1))).1 e
    · subst e; have := hs.lt gx (.inl (by simp [hz])); omega
  have hgx := h.gz.2
  have hgl := h.x.lt
  have hav2 : ∀ q, q < wr.heap.size → av'.ownBlock ≠ some q → av2.ownBlock ≠ some q := fun q h1 h2 => by
    rcases hloc with e | e
    · rw [e]; exact h2
    · rw [e]; intro e2; cases e2; exact absurd h1 (Nat.lt_irrefl _)
  refine ⟨⟨?_, hb2.set 2 av2, ?_, by simp [h.la]; omega, fun j hj => ?_, fun q hq => ?_, fun q hq => ?_, h.x.move (hmv gx hgl hgx hgbb), ⟨?_, hav2 gx hgl hgx⟩, by have := h.n0; omega⟩, hb2⟩
  · refine (h.m.grown hg (fun q e hq => ?_)).setCell (p := ⟨bb, 2, none⟩) (fun _ => .inl rfl) _
    rcases h.avz q e with h1 | h1
    · exact .inr h1
    · omega
  · rw [List.length_append]
    exact ownsRow_setCell_other hown hne2 _
  · rw [List.length_append] at hj
    by_cases hjl : j < es.length
    · rw [List.getElem_append_left hjl]
      rcases h.ent j hjl with h1 | h1
      · exact .inl (h1.move fun q hq => hmv q (h.dz_ q hq).2.2.1 (h.dz_ q hq).2.1 (hDbb q hq))
      · exact .inr h1
    · simp at hj
      obtain rfl : j = es.length := by omega
      rw [List.getElem_append_right (Nat.le_refl _)]
      refine .inr ⟨nx, cx, by simp, Nat.le_refl _, ?_⟩
      have := h.la
      omega
  · rcases hloc with e | e
    · rw [e] at hq; exact h.avz q hq
    · rw [e] at hq; cases hq; exact .inr h.m.size
  · obtain ⟨h1, h2, h3, h4⟩ := h.dz_ q hq
    exact ⟨h1, hav2 q h3 h2, by simp [World.setCell]; omega, h4⟩
  · rcases h.gz.1 with h1 | ⟨h1, h2⟩
    · exact .inl h1
    · exact .inr ⟨h1, own_move h2 fun q hq => by cases hq; exact hmv gx hgl hgx hgbb⟩
/-- grown in place -/
theorem P5.room {N i k : Nat} {b : Bool} {es : List Value} {D : List Nat} {gx nx cx : Nat} (h : P5 wc wr bb fv wv av gs dz N i k b av' es D gx nx cx) (hs : Stat wc bb fv wv av gs dz) (hr : nx + 1 ≤ cx) (hn : nx + 1 ≤ 4294967296 + k)
    (hown : w2.ownsRow 0 65 3 (.slice (some ⟨gx, 0, none⟩) (nx + 1) cx) (nx + 1) (rowsCells (List.replicate nx (mrk ((N + i : Nat) : Int))) ++ (mrk ((N + i : Nat) : Int)).cells)) (hg : wr.grownBy w2 (some gx)) :
    P5 wc w2 bb fv wv av gs dz N i k true av' es D gx (nx + 1) cx := by
  have hgx := h.gz.1.resolve_left (fun e => by have := e.2.1; omega)
  have hcs : rowsCells (List.replicate nx (mrk ((N + i : Nat) : Int))) ++ (mrk ((N + i : Nat) : Int)).cells = rowsCells (List.replicate (nx + 1) (mrk ((N + i : Nat) : Int))) := by
    rw [List.replicate_succ', rowsCells_append]; simp [rowsCells]
  rw [hcs] at hown
  have hmv : ∀ q, q < wr.heap.size → q ≠ gx → w2.heap[q]? = wr.heap[q]? := fun q h1 h2 => hg.block q h1 (fun e => h2 (Option.some.inj e))
  refine ⟨h.m.grown hg (fun q e hq => by cases e; omega), h.blk.grown hg (fun e => ?_), own_move h.a (fun q hq => hmv q (h.a.lt q hq).2 (fun e => h.gz.2 (e ▸ hq))), h.la, fun j hj => ?_, h.avz, fun q hq => ?_, own_rowBlk hown, ⟨.inr ⟨hgx.1, hown⟩, h.gz.2⟩, hn⟩
  · cases e
    have := hs.lt bb (.inl (by simp [hz]))
    omega
  · rcases h.ent j hj with h1 | ⟨n, c, e, hn, hj2⟩
    · exact .inl (h1.move fun q hq => hmv q (h.dz_ q hq).2.2.1 (h.dz_ q hq).2.2.2)
    · exact .inr ⟨n, c, e, by omega, hj2⟩
  · obtain ⟨h1, h2, h3, h4⟩ := h.dz_ q hq
    exact ⟨h1, h2, Nat.lt_of_lt_of_le h3 hg.size, h4⟩
/-- grown into a block of its own -/
theorem P5.fresh {N i k : Nat} {b : Bool} {es : List Value} {D : List Nat} {gx nx cx gy cy : Nat} (h : P5 wc wr bb fv wv av gs dz N i k b av' es D gx nx cx) (hs : Stat wc bb fv wv av gs dz) (hk5 : k ≤ 5) (hn : nx + 1 ≤ 4294967296 + k) (hi : i < gs.length)
    (hown : w2.ownsRow wr.heap.size 65 3 (.slice (some ⟨gy, 0, none⟩) (nx + 1) cy) (nx + 1) (rowsCells (List.replicate nx (mrk ((N + i : Nat) : Int))) ++ (mrk ((N + i : Nat) : Int)).cells)) (hg : wr.grownBy w2 none) :
    P5 wc w2 bb fv wv av gs dz N i k true av' es (gx :: D) gy (nx + 1) cy := by
  have hcs : rowsCells (List.replicate nx (mrk ((N + i : Nat) : Int))) ++ (mrk ((N + i : Nat) : Int)).cells = rowsCells (List.replicate (nx + 1) (mrk ((N + i : Nat) : Int))) := by
    rw [List.replicate_succ', rowsCells_append]; simp [rowsCells]
  rw [hcs] at hown
  have hmv : ∀ q, q < wr.heap.size → w2.heap[q]? = wr.heap[q]? := fun q h1 => hg.block q h1 (fun e => by cases e)
  have hgy := (hown.lt gy rfl).1
  have hsz := h.m.size
  refine ⟨h.m.grown hg (fun q e hq => by cases e), h.blk.grown hg (fun e => by cases e), own_move h.a (fun q hq => hmv q (h.a.lt q hq).2), h.la, fun j hj => ?_, h.avz, fun q hq => ?_, own_rowBlk hown, ⟨.inr ⟨by omega, own_base hown (Nat.zero_le _)⟩, fun e => ?_⟩, hn⟩
  · rcases h.ent j hj with h1 | ⟨n, c, e, hn2, hj2⟩
    · exact .inl ((h1.move fun q hq => hmv q (h.dz_ q hq).2.2.1).mono fun q hq => List.mem_cons_of_mem _ hq)
    · refine .inl ⟨gx, n, c, e, List.mem_cons_self .., by have := h.n0; have := h.la; omega, ?_⟩
      rw [hj2]
      exact (h.x.move (hmv gx h.x.lt)).prefix_ hn2
  · rcases List.mem_cons.1 hq with rfl | hq
    · refine ⟨?_, h.gz.2, Nat.lt_of_lt_of_le h.x.lt hg.size, fun e => by have := h.x.lt; omega⟩
      rcases h.gz.1 with ⟨_, _, h1⟩ | ⟨h1, _⟩
      · refine .inr (.inl ?_)
        obtain ⟨hi', e⟩ := List.getElem?_eq_some_iff.1 h1
        rw [← e]
        exact List.mem_take_iff_getElem.2 ⟨i, by omega, rfl⟩
      · exact .inr (.inr h1)
    · obtain ⟨h1, h2, h3, h4⟩ := h.dz_ q hq
      exact ⟨h1, h2, Nat.lt_of_lt_of_le h3 hg.size, fun e => by omega⟩
  · have := (h.a.lt gy e).2
    omega
end
theorem mrk_cells (N i : Nat) : (mrk ((N + i : Nat) : Int)).cells = [.int .i64 0, .int .i64 0, .int .i64 (-1 - ((N : Int) + i))] := by
  simp [mrk, Row.cells]
end Go.Proofs.Ytphmmpdeehfhjaa
