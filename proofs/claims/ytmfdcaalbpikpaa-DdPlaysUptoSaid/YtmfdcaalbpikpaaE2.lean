/- Lists that are marked, pushed and grown by their owner: their memory. No program in sight but for types. -/
import Derived.Test.YtmfdcaalbpikpaaB2
import Derived.Deep.CutBlock
import Derived.Outline
import Derived.Deep.LoopGhost
namespace Go.Proofs.Ytmfdcaalbpikpaa
open Go.RowKit
set_option linter.unusedVariables false
set_option linter.unusedSimpArgs false
section
variable {P : Program} (w : World)
/-- append, where a new block leaves the old one as it was -/
theorem run_append_row2 (t ty e : TypeId) (i : TypeInfo) (z : Value) (size bytes : Nat) (ht : P.underlying t = some (.slice e)) (hi : P.info? e = some i) (hz : i.zero = some z)
    (hsize : i.size = size) (hby : i.bytes = bytes) (hzs : z.cells.size = size) (hsz : 0 < size) (v : Value) (n : Nat) (xs : List Value) (hrow : Row w e size v n xs)
    (ad : Addr) (m c : Nat) (news : List Value) (hl : news.length = m * size) (hnews : ∀ j u, news[j]? = some u → w.cell? (ad.add j) = some u) (h1 : ∀ u ∈ news, u.oneCell' = true)
    (hm : 0 < m) (h63 : n + m ≤ maxLen) (hbytes : (n + m) * bytes ≤ 140737488355328) (H : Nat) (hH : w.heap.size = H) :
    ∃ g cap w', (Builtin.append_ #[t, t] ty #[v, .slice (some ad) m c]).run P w = .ok (.slice (some ⟨g, 0, none⟩) (n + m) cap) w' ∧ Row w' e size (.slice (some ⟨g, 0, none⟩) (n + m) cap) (n + m) (xs ++ news) ∧
      w.grownBy w' v.ownBlock ∧ (v.ownBlock = some g ∨ g = H ∧ w.grownBy w' none) ∧ g < w'.heap.size := by
  subst hH
  rcases hrow.2 with ⟨rfl, rfl⟩ | ⟨g, cap, cur, rfl, hg, hnc, hcm, hcs, htake⟩
  · obtain ⟨g, cap, w', r1, r2, r3, r4, r5⟩ := run_append_row (P := P) w t ty e i z size bytes ht hi hz hsize hby hzs hsz _ _ xs hrow ad m c news hl hnews h1 hm h63 hbytes w.heap.size rfl
    refine ⟨g, cap, w', r1, r2, r3, ?_, r5⟩
    rcases r4 with e | e
    · cases e
    · exact .inr ⟨e, r3⟩
  · subst hsize
    by_cases hroom : n + m ≤ cap
    · obtain ⟨g', cap', w', r1, r2, r3, r4, r5⟩ := run_append_row (P := P) w t ty e i z i.size bytes ht hi hz rfl hby hzs hsz _ _ xs hrow ad m c news hl hnews h1 hm h63 hbytes w.heap.size rfl
      have hfit0 : n * i.size + news.length ≤ cap * i.size := by rw [hl, ← Nat.add_mul]; exact Nat.mul_le_mul_right _ hroom
      have hr := run_append_room (P := P) w t ty e i ht hi g n cap cur hg ad m c news hl hnews h1 hroom (Nat.le_trans hfit0 hcs)
      rw [hr] at r1
      cases r1
      exact ⟨g, cap, _, hr, r2, r3, .inl rfl, r5⟩
    · obtain ⟨v', w', r1, r2, r3⟩ := run_append_arg_grows (P := P) w t ty e i z i.size bytes ht hi hz rfl hby hzs hsz ⟨g, 0, none⟩ n cap xs hrow.1 (fun j u hj => Row.cells (c := cap) (n := n) (size := i.size) (e := e) ⟨hrow.1, .inr ⟨g, cap, cur, rfl, hg, hnc, hcm, hcs, htake⟩⟩ j u hj) ad m c news hl hnews (by omega) h63 hbytes
      have hr2 := run_append_grow (P := P) w t ty e i z ht hi hz ⟨g, 0, none⟩ n cap xs hrow.1 (fun j u hj => Row.cells (c := cap) (n := n) (size := i.size) (e := e) ⟨hrow.1, .inr ⟨g, cap, cur, rfl, hg, hnc, hcm, hcs, htake⟩⟩ j u hj) ad m c news hl hnews (by omega) (by simp only [maxLen] at h63; omega) (growslice_fits (by omega) (by rw [hby]; exact hbytes))
      rw [hr2] at r1
      cases r1
      exact ⟨w.heap.size, _, _, hr2, .of_own r2, ⟨r3.os, r3.tape, r3.output, r3.size, fun k hk _ => r3.block k hk (by simp)⟩, .inr ⟨rfl, ⟨r3.os, r3.tape, r3.output, r3.size, fun k hk _ => r3.block k hk (by simp)⟩⟩, by simp⟩
theorem wpList_append_row2 {ops : Array Oper} {rest : List Oper} {o : Oper} {a : Act} {Q : Exit → Act → World → Prop} (hgd : o.guard = none) (s x : Operand) (t : TypeId)
    (ho : o.op = .call { callee := .builtin .append, args := #[s, x], argTypes := #[t, t] })
    (e : TypeId) (i : TypeInfo) (z : Value) (size bytes : Nat) (ht : P.underlying t = some (.slice e)) (hi : P.info? e = some i) (hz : i.zero = some z)
    (hsize : i.size = size) (hby : i.bytes = bytes) (hzs : z.cells.size = size) (hsz : 0 < size)
    (v : Value) (n : Nat) (xs : List Value) (hs : a.eval s = v) (hrow : Row w e size v n xs)
    (ad : Addr) (m c : Nat) (news : List Value) (hx : a.eval x = .slice (some ad) m c) (hl : news.length = m * size) (hnews : ∀ j u, news[j]? = some u → w.cell? (ad.add j) = some u) (h1 : ∀ u ∈ news, u.oneCell' = true)
    (hm : 0 < m) (h63 : n + m ≤ maxLen) (hbytes : (n + m) * bytes ≤ 140737488355328) (H : Nat) (hH : w.heap.size = H)
    (h : ∀ g cap w', Row w' e size (.slice (some ⟨g, 0, none⟩) (n + m) cap) (n + m) (xs ++ news) → w.grownBy w' v.ownBlock → (v.ownBlock = some g ∨ g = H ∧ w.grownBy w' none) → g < w'.heap.size → wpList P ops Q rest (a.put o.dst (.slice (some ⟨g, 0, none⟩) (n + m) cap)) w') : wpList P ops Q (o :: rest) a w :=
  wpList_plain hgd fun _ hK => by
    obtain ⟨g, cap, w', hr, h2, h3, h4, h5⟩ := run_append_row2 (P := P) w t o.type e i z size bytes ht hi hz hsize hby hzs hsz v n xs hrow ad m c news hl hnews h1 hm h63 hbytes H hH
    unfold Oper.wp execOp
    simp only [ho, resolve, invoke, builtin, Sem.run_bind, Sem.run_pure, Result.andThen_ok, List.map_toArray, List.map_cons, List.map_nil, hs, hx, hr]
    exact hK _ _ (h g cap w' h2 h3 h4 h5)
end
/-- the blocks of some slices -/
def OwnB (es : List Value) (b : Nat) : Prop := ∃ v ∈ es, v.ownBlock = some b
def apartV (es : List Value) : Prop := ∀ i j (hi : i < es.length) (hj : j < es.length), i ≠ j → ∀ b, (es[i]'hi).ownBlock = some b → (es[j]'hj).ownBlock ≠ some b
def mrk (n : Nat) : Int := -5 - (n : Int)
def ctn (n k j : Nat) (L : List Int) : List Int := if j < n then List.replicate L.length (mrk j) else if j = n then List.replicate k (mrk j) ++ L.drop k else L
theorem ctn_length {n k j : Nat} {L : List Int} (hk : j = n → k ≤ L.length) : (ctn n k j L).length = L.length := by
  unfold ctn
  split
  · simp
  · split
    · rename_i h; have := hk h; simp; omega
    · rfl
theorem marks_set {L : List Int} {m : Int} {k : Nat} (hk : k < L.length) : (List.replicate k m ++ L.drop k).set k m = List.replicate (k + 1) m ++ L.drop (k + 1) := by
  rw [List.set_append_right _ _ (by simp), List.drop_eq_getElem_cons hk]
  simp only [List.length_replicate, Nat.sub_self, List.set_cons_zero]
  rw [List.replicate_succ', List.append_assoc]
  rfl
/-- n lists are marked, and k places of the next one -/
structure Mk (w wr : World) (es : List Value) (ls : Nat → List Int) (n k : Nat) : Prop where
  m : Mods (OwnB es) w wr
  r : ∀ j (h : j < es.length), Row wr 3 1 (es[j]'h) (ls j).length ((ctn n k j (ls j)).map (Value.int .i64))
section
variable {w wr w2 : World} {es : List Value} {ls : Nat → List Int} {n k : Nat}
theorem Mk.start (hf : ∀ j (h : j < es.length), Row w 3 1 (es[j]'h) (ls j).length ((ls j).map (Value.int .i64))) : Mk w w es ls 0 0 := ⟨Mods.refl _ _, fun j h => by
  have := hf j h
  unfold ctn
  rw [if_neg (by omega)]
  split
  · simpa using this
  · exact this⟩
theorem Mk.next (h : Mk w wr es ls n k) (hk : k = (ls n).length) : Mk w wr es ls (n + 1) 0 := ⟨h.m, fun j hj => by
  have := h.r j hj
  have e : ctn (n + 1) 0 j (ls j) = ctn n k j (ls j) := by
    unfold ctn
    by_cases h1 : j < n
    · rw [if_pos h1, if_pos (by omega)]
    · by_cases h2 : j = n
      · subst h2
        rw [if_pos (by omega), if_neg h1, if_pos rfl, hk]
        simp
      · rw [if_neg h1, if_neg h2, if_neg (by omega)]
        split <;> simp
  rw [e]
  exact this⟩
theorem Mk.step (ha : apartV es) (h : Mk w wr es ls n k) (hn : n < es.length) (hk : k < (ls n).length) {g c : Nat} (hg : es[n]'hn = .slice (some ⟨g, 0, none⟩) (ls n).length c) : Mk w (wr.setCell ⟨g, k, none⟩ (.int .i64 (mrk n))) es ls n (k + 1) := by
  refine ⟨h.m.setCell (p := ⟨g, k, none⟩) (fun _ => ⟨_, List.getElem_mem hn, by rw [hg]; rfl⟩) _, fun j hj => ?_⟩
  by_cases e : j = n
  · subst e
    have h1 := h.r j hj
    rw [hg] at h1 ⊢
    have h2 := h1.set k (.int .i64 (mrk j))
    rw [← List.map_set] at h2
    have e2 : (ctn j k j (ls j)).set k (mrk j) = ctn j (k + 1) j (ls j) := by
      unfold ctn
      rw [if_neg (by omega), if_pos rfl, if_neg (by omega), if_pos rfl]
      exact marks_set hk
    rw [e2] at h2
    exact h2
  · have h1 := h.r j hj
    have e2 : ctn n (k + 1) j (ls j) = ctn n k j (ls j) := by
      unfold ctn
      rw [if_neg e, if_neg e]
    rw [e2]
    refine h1.move fun b hb => Below.heap_setCell _ _ _ _ (fun e3 => ?_)
    exact ha n j hn hj (fun e4 => e e4.symm) g (by rw [hg]; rfl) (by rw [hb, e3])
theorem Mk.marks (h : Mk w wr es ls n 0) (j : Nat) (hj : j < es.length) (hjn : j < n) : Row wr 3 1 (es[j]'hj) (ls j).length ((List.replicate (ls j).length (mrk j)).map (Value.int .i64)) := by
  have := h.r j hj
  unfold ctn at this
  rwa [if_pos hjn] at this
/-- a list that its owner wrote full of one mark, in a block of D -/
def Ent (w : World) (v : Value) (m : Int) (D : List Nat) : Prop := ∃ A k c, v = .slice A k c ∧ k ≤ 4294967296 ∧ (0 < k → ∃ g, A = some ⟨g, 0, none⟩ ∧ g ∈ D ∧ ∀ q, q < k → w.cell? ⟨g, q, none⟩ = some (.int .i64 m))
theorem Ent.move {v : Value} {m : Int} {D D' : List Nat} (h : Ent w v m D) (hm : ∀ b ∈ D, w2.heap[b]? = w.heap[b]?) (hs : ∀ b ∈ D, b ∈ D') : Ent w2 v m D' := by
  obtain ⟨A, k, c, rfl, hk, h⟩ := h
  refine ⟨A, k, c, rfl, hk, fun h0 => ?_⟩
  obtain ⟨g, e, hg, hc⟩ := h h0
  exact ⟨g, e, hs g hg, fun q hq => (World.cell?_of_block (a := ⟨g, q, none⟩) (hm g hg)).trans (hc q hq)⟩
/-- n lists are pushed and grown, the next one i times -/
structure Gr (wc wr : World) (es : List Value) (ls : Nat → List Int) (n i : Nat) (av : Value) (al : List Value) (x : Value) (nx : Nat) (D : List Nat) : Prop where
  m : Mods (OwnB es) wc wr
  rest : ∀ j (h : j < es.length), n < j → Row wr 3 1 (es[j]'h) (ls j).length ((List.replicate (ls j).length (mrk j)).map (Value.int .i64))
  a : Row wr 22 1 av al.length al
  la : al.length = 6 * n + i
  ent : ∀ j (h : j < al.length), Ent wr (al[j]'h) (mrk (j / 6)) D ∨ ∃ A k c, al[j]'h = .slice A k c ∧ k ≤ nx ∧ j / 6 = n ∧ (0 < k → ∃ g, A = some ⟨g, 0, none⟩ ∧ x.ownBlock = some g)
  xr : Row wr 3 1 x nx ((List.replicate nx (mrk n)).map (Value.int .i64))
  xb : ∀ b, x.ownBlock = some b → (∃ h : n < es.length, (es[n]'h).ownBlock = some b) ∨ wc.heap.size ≤ b
  xd : ∀ b ∈ D, x.ownBlock ≠ some b
  db : ∀ b ∈ D, ((∃ j, ∃ h : j < es.length, j ≤ n ∧ (es[j]'h).ownBlock = some b) ∨ wc.heap.size ≤ b) ∧ b < wr.heap.size
  ab : ∀ b, av.ownBlock = some b → wc.heap.size ≤ b
  ax : ∀ b, av.ownBlock = some b → x.ownBlock ≠ some b ∧ b ∉ D
  nx_ : nx ≤ 1000010
end
section
variable {wc wr w2 : World} {es : List Value} {ls : Nat → List Int} {n i : Nat} {av av2 : Value} {al : List Value} {x x2 : Value} {nx : Nat} {D : List Nat}
theorem Row.cellsIn {w : World} {g n c : Nat} {xs : List Int} (h : Row w 3 1 (.slice (some ⟨g, 0, none⟩) n c) n (xs.map (Value.int .i64))) (q : Nat) (hq : q < xs.length) : w.cell? ⟨g, q, none⟩ = some (.int .i64 (xs[q]'hq)) := by
  have hl : xs.length = n := by have := h.1; simpa using this
  rw [h.cell q (by omega)]
  simp [hq]
/-- what was pushed of the present list, when that is left -/
theorem Gr.old (h : Gr wc wr es ls n i av al x nx D) {wq : World} {D' : List Nat} (hm : ∀ b, b ∈ D ∨ x.ownBlock = some b → wq.heap[b]? = wr.heap[b]?) (hD : ∀ b, b ∈ D ∨ x.ownBlock = some b → b ∈ D') (hi : i ≤ 6) (j : Nat) (hj : j < al.length) : Ent wq (al[j]'hj) (mrk (j / 6)) D' := by
  rcases h.ent j hj with h1 | ⟨A, k, c, e, hk, hjn, h2⟩
  · exact h1.move (fun b hb => hm b (.inl hb)) (fun b hb => hD b (.inl hb))
  · rw [e]
    refine ⟨A, k, c, rfl, by have := h.nx_; omega, fun h0 => ?_⟩
    obtain ⟨g, e1, e2⟩ := h2 h0
    subst e1
    refine ⟨g, rfl, hD g (.inr e2), fun q hq => ?_⟩
    rw [World.cell?_of_block (a := ⟨g, q, none⟩) (hm g (.inr e2)), hjn]
    obtain ⟨Ax, cx, hx⟩ := h.xr.shape
    have hxr := h.xr
    rw [hx] at hxr e2
    have : Ax = some ⟨g, 0, none⟩ := by
      rcases hxr.2 with ⟨e3, _⟩ | ⟨g3, cap, cur, e3, _⟩
      · cases e3; cases e2
      · cases e3; cases e2; rfl
    subst this
    have := hxr.cellsIn q (by simp; omega)
    simpa using this
theorem Gr.start {w : World} (hw : Mk w wc es ls es.length 0) (h0 : 0 < es.length) (hl : (ls 0).length ≤ 1000000) : Gr wc wc es ls 0 0 (.slice none 0 0) [] (es[0]'h0) (ls 0).length [] :=
  ⟨Mods.refl _ _, fun j h _ => hw.marks j h h, Row.nil _ _ _, rfl, fun j h => absurd h (by simp), hw.marks 0 h0 h0, fun b hb => .inl ⟨h0, hb⟩, by simp, by simp, by simp [Value.ownBlock], by simp [Value.ownBlock], by omega⟩
/-- pushed -/
theorem Gr.push (ha : apartV es) (hes : ∀ b, OwnB es b → b < wc.heap.size) (h : Gr wc wr es ls n i av al x nx D) (hi6 : i < 6) {o : Obj} {g2 c2 : Nat} (hr : Row w2 22 1 av2 (al.length + 1) (al ++ [x])) (he : av2 = .slice (some ⟨g2, 0, none⟩) (al.length + 1) c2) (hg : (wr.alloc o).grownBy w2 av.ownBlock) (hloc : av.ownBlock = some g2 ∨ g2 = wr.heap.size + 1) :
    Gr wc w2 es ls n (i + 1) av2 (al ++ [x]) x nx D := by
  have hs := hg.size
  have hcs := h.m.size
  have e0 : (wr.alloc o).heap.size = wr.heap.size + 1 := by simp
  rw [e0] at hs
  have hm : ∀ b, b < wr.heap.size → av.ownBlock ≠ some b → w2.heap[b]? = wr.heap[b]? := fun b h1 h2 => by
    rw [hg.block b (by rw [e0]; omega) (fun e => h2 e.symm), Below.heap_alloc _ _ _ h1]
  have hob : ∀ b, OwnB es b → av.ownBlock ≠ some b := fun b hb e => by have := h.ab b e; have := hes b hb; omega
  have hab2 : ∀ b, av2.ownBlock = some b → av.ownBlock = some b ∨ b = wr.heap.size + 1 := fun b e => by
    rw [he] at e
    cases e
    exact hloc
  have hD : ∀ b ∈ D, w2.heap[b]? = wr.heap[b]? := fun b hb => hm b (h.db b hb).2 (fun e => (h.ax b e).2 hb)
  have hxm : ∀ b, x.ownBlock = some b → w2.heap[b]? = wr.heap[b]? := fun b hb => hm b (h.xr.lt b hb) (fun e => (h.ax b e).1 hb)
  refine ⟨?_, fun j hj hnj => ?_, by rw [List.length_append, List.length_singleton]; exact hr, by rw [List.length_append, List.length_singleton, h.la]; omega, fun j hj => ?_, h.xr.move hxm, h.xb, h.xd, fun b hb => ⟨(h.db b hb).1, by have := (h.db b hb).2; omega⟩, fun b hb => ?_, fun b hb => ?_, by have := h.nx_; omega⟩
  · exact (h.m.alloc o).grown hg (fun k e hk => by have := h.ab k e; omega)
  · exact (h.rest j hj hnj).move fun b hb => hm b ((h.rest j hj hnj).lt b hb) (hob b ⟨_, List.getElem_mem hj, hb⟩)
  · by_cases hjl : j < al.length
    · rw [List.getElem_append_left hjl]
      rcases h.ent j hjl with h1 | h1
      · exact .inl (h1.move hD (fun b hb => hb))
      · exact .inr h1
    · have ej : j = al.length := by rw [List.length_append, List.length_singleton] at hj; omega
      subst ej
      rw [List.getElem_append_right (Nat.le_refl _)]
      simp only [Nat.sub_self, List.getElem_cons_zero]
      obtain ⟨A, c, e⟩ := h.xr.shape
      refine .inr ⟨A, nx, c, e, Nat.le_refl _, by rw [h.la]; omega, fun h0 => ?_⟩
      obtain ⟨g, c', e2, _⟩ := h.xr.some_ h0
      rw [e] at e2
      cases e2
      exact ⟨g, rfl, by rw [e]; rfl⟩
  · rcases hab2 b hb with e | e
    · exact h.ab b e
    · omega
  · rcases hab2 b hb with e | e
    · exact h.ax b e
    · refine ⟨fun e2 => ?_, fun e2 => ?_⟩
      · have := h.xr.lt b e2; omega
      · have := (h.db b e2).2; omega
/-- grown -/
theorem Gr.grow (hes : ∀ b, OwnB es b → b < wc.heap.size) (h : Gr wc wr es ls n (i + 1) av al x nx D) (hi : i < 6) {o : Obj} {g2 c2 : Nat} (hr : Row w2 3 1 x2 (nx + 1) ((List.replicate nx (mrk n)).map (Value.int .i64) ++ [.int .i64 (mrk n)])) (he : x2 = .slice (some ⟨g2, 0, none⟩) (nx + 1) c2)
    (hg : (wr.alloc o).grownBy w2 x.ownBlock) (hloc : x.ownBlock = some g2 ∨ g2 = wr.heap.size + 1 ∧ (wr.alloc o).grownBy w2 none) (ha : apartV es) (hn : n < es.length) (hnx : nx + 1 ≤ 1000010) : ∃ D', Gr wc w2 es ls n (i + 1) av al x2 (nx + 1) D' := by
  have hs := hg.size
  have hcs := h.m.size
  have e0 : (wr.alloc o).heap.size = wr.heap.size + 1 := by simp
  rw [e0] at hs
  have hr2 : Row w2 3 1 x2 (nx + 1) ((List.replicate (nx + 1) (mrk n)).map (Value.int .i64)) := by rw [List.replicate_succ', List.map_append]; exact hr
  have hxb : ∀ b, x2.ownBlock = some b → x.ownBlock = some b ∨ b = wr.heap.size + 1 := fun b e => by
    rw [he] at e
    cases e
    rcases hloc with e | e
    · exact .inl e
    · exact .inr e.1
  have hm : ∀ b, b < wr.heap.size → x.ownBlock ≠ some b → w2.heap[b]? = wr.heap[b]? := fun b h1 h2 => by
    rw [hg.block b (by rw [e0]; omega) (fun e => h2 e.symm), Below.heap_alloc _ _ _ h1]
  have hmods : Mods (OwnB es) wc w2 := by
    refine (h.m.alloc o).grown hg (fun k e hk => ?_)
    rcases h.xb k e with ⟨h1, h2⟩ | h1
    · exact ⟨_, List.getElem_mem h1, h2⟩
    · omega
  have hrest : ∀ j (h : j < es.length), n < j → Row w2 3 1 (es[j]'h) (ls j).length ((List.replicate (ls j).length (mrk j)).map (Value.int .i64)) := fun j hj hnj =>
    (h.rest j hj hnj).move fun b hb => hm b ((h.rest j hj hnj).lt b hb) (fun e => by
      rcases h.xb b e with ⟨h1, h2⟩ | h1
      · exact ha n j h1 hj (by omega) b h2 hb
      · have := hes b ⟨_, List.getElem_mem hj, hb⟩; omega)
  have hav : Row w2 22 1 av al.length al := h.a.move fun b hb => hm b (h.a.lt b hb) (h.ax b hb).1
  rcases hloc with hin | ⟨hout, hg2⟩
  · -- in its place
    have hD : ∀ b ∈ D, w2.heap[b]? = wr.heap[b]? := fun b hb => hm b (h.db b hb).2 (h.xd b hb)
    have hx2 : x2.ownBlock = x.ownBlock := by rw [he, hin]; rfl
    refine ⟨D, hmods, hrest, hav, h.la, fun j hj => ?_, hr2, fun b hb => h.xb b (hx2 ▸ hb), fun b hb => by rw [hx2]; exact h.xd b hb, fun b hb => ⟨(h.db b hb).1, by have := (h.db b hb).2; omega⟩, h.ab, fun b hb => ⟨by rw [hx2]; exact (h.ax b hb).1, (h.ax b hb).2⟩, hnx⟩
    rcases h.ent j hj with h1 | ⟨A, k, c, e, hk, hjn, h2⟩
    · exact .inl (h1.move hD (fun b hb => hb))
    · exact .inr ⟨A, k, c, e, by omega, hjn, by rw [hx2]; exact h2⟩
  · -- in a new block
    have hm2 : ∀ b, b < wr.heap.size → w2.heap[b]? = wr.heap[b]? := fun b h1 => by rw [hg2.block b (by rw [e0]; omega) (by simp), Below.heap_alloc _ _ _ h1]
    have hx2 : ∀ b, x2.ownBlock = some b → b = wr.heap.size + 1 := fun b e => by rw [he] at e; cases e; exact hout
    refine ⟨x.ownBlock.toList ++ D, hmods, hrest, hav, h.la, fun j hj => .inl (h.old (fun b hb => ?_) (fun b hb => ?_) (by omega) j hj), hr2, fun b hb => .inr (by have := hx2 b hb; omega), fun b hb e => ?_, fun b hb => ?_, h.ab, fun b hb => ⟨fun e => ?_, fun e => ?_⟩, hnx⟩
    · rcases hb with hb | hb
      · exact hm2 b (h.db b hb).2
      · exact hm2 b (h.xr.lt b hb)
    · rcases hb with hb | hb
      · exact List.mem_append_right _ hb
      · exact List.mem_append_left _ (by simp [hb])
    · have := hx2 b e
      rcases List.mem_append.1 hb with hb | hb
      · have := h.xr.lt b (by simpa using hb); omega
      · have := (h.db b hb).2; omega
    · rcases List.mem_append.1 hb with hb | hb
      · have hb2 : x.ownBlock = some b := by simpa using hb
        refine ⟨?_, by have := h.xr.lt b hb2; omega⟩
        rcases h.xb b hb2 with ⟨h1, h2⟩ | h1
        · exact .inl ⟨n, h1, Nat.le_refl _, h2⟩
        · exact .inr h1
      · exact ⟨(h.db b hb).1, by have := (h.db b hb).2; omega⟩
    · have := hx2 b e
      have := h.a.lt b hb; omega
    · rcases List.mem_append.1 e with e | e
      · exact (h.ax b hb).1 (by simpa using e)
      · exact (h.ax b hb).2 e
/-- the next list -/
theorem Gr.next (ha : apartV es) (hes : ∀ b, OwnB es b → b < wc.heap.size) (h : Gr wc wr es ls n 6 av al x nx D) (hn : n + 1 < es.length) (hl : (ls (n + 1)).length ≤ 1000000) : ∃ D', Gr wc wr es ls (n + 1) 0 av al (es[n + 1]'hn) (ls (n + 1)).length D' := by
  refine ⟨x.ownBlock.toList ++ D, h.m, fun j hj hnj => h.rest j hj (by omega), h.a, by rw [h.la]; omega, fun j hj => .inl (h.old (fun b hb => rfl) (fun b hb => ?_) (by omega) j hj), h.rest (n + 1) hn (by omega), fun b hb => .inl ⟨hn, hb⟩, fun b hb e => ?_, fun b hb => ?_, h.ab, fun b hb => ⟨fun e => ?_, fun e => ?_⟩, by omega⟩
  · rcases hb with hb | hb
    · exact List.mem_append_right _ hb
    · exact List.mem_append_left _ (by simp [hb])
  · have hbo := hes b ⟨_, List.getElem_mem hn, e⟩
    rcases List.mem_append.1 hb with hb | hb
    · rcases h.xb b (by simpa using hb) with ⟨h1, h2⟩ | h1
      · exact ha n (n + 1) h1 hn (by omega) b h2 e
      · omega
    · rcases (h.db b hb).1 with ⟨j, hj, hjn, h2⟩ | h1
      · exact ha j (n + 1) hj hn (by omega) b h2 e
      · omega
  · rcases List.mem_append.1 hb with hb | hb
    · have hb2 : x.ownBlock = some b := by simpa using hb
      refine ⟨?_, h.xr.lt b hb2⟩
      rcases h.xb b hb2 with ⟨h1, h2⟩ | h1
      · exact .inl ⟨n, h1, by omega, h2⟩
      · exact .inr h1
    · refine ⟨?_, (h.db b hb).2⟩
      rcases (h.db b hb).1 with ⟨j, hj, hjn, h2⟩ | h1
      · exact .inl ⟨j, hj, by omega, h2⟩
      · exact .inr h1
  · have := hes b ⟨_, List.getElem_mem hn, e⟩
    have := h.ab b hb; omega
  · rcases List.mem_append.1 e with e | e
    · exact (h.ax b hb).1 (by simpa using e)
    · exact (h.ax b hb).2 e
/-- all of them -/
def AllEnt (wc wr : World) (es : List Value) (av : Value) (al : List Value) : Prop := ∃ D, Mods (OwnB es) wc wr ∧ Row wr 22 1 av al.length al ∧ ∀ j (h : j < al.length), Ent wr (al[j]'h) (mrk (j / 6)) D
theorem Gr.done (h : Gr wc wr es ls n 6 av al x nx D) : AllEnt wc wr es av al :=
  ⟨x.ownBlock.toList ++ D, h.m, h.a, fun j hj => h.old (fun b hb => rfl) (fun b hb => by
    rcases hb with hb | hb
    · exact List.mem_append_right _ hb
    · exact List.mem_append_left _ (by simp [hb])) (by omega) j hj⟩
end
end Go.Proofs.Ytmfdcaalbpikpaa
namespace Go.Proofs.Ytmfdcaalbpikpaa
open Go.RowKit
set_option linter.unusedVariables false
set_option linter.unusedSimpArgs false
section
variable {w wc wr : World} {es : List Value} {ls : Nat → List Int}
def HeadG (wc wr : World) (es : List Value) (ls : Nat → List Int) (n : Nat) (av : Value) (al : List Value) : Prop :=
  (n = 0 ∧ wr = wc ∧ av = .slice none 0 0 ∧ al = []) ∨ ∃ m x nx D, n = m + 1 ∧ Gr wc wr es ls m 6 av al x nx D
theorem HeadG.enter (ha : apartV es) (hes : ∀ b, OwnB es b → b < wc.heap.size) {n : Nat} {av : Value} {al : List Value} (hM : Mk w wc es ls es.length 0) (h : HeadG wc wr es ls n av al) (hn : n < es.length) (hl : (ls n).length ≤ 1000000) :
    ∃ D, Gr wc wr es ls n 0 av al (es[n]'hn) (ls n).length D := by
  rcases h with ⟨rfl, rfl, rfl, rfl⟩ | ⟨m, x, nx, D, rfl, h⟩
  · exact ⟨_, Gr.start hM hn hl⟩
  · exact h.next ha hes hn hl
theorem HeadG.done {n : Nat} {av : Value} {al : List Value} (h : HeadG wc wr es ls n av al) : AllEnt wc wr es av al := by
  rcases h with ⟨rfl, rfl, rfl, rfl⟩ | ⟨m, x, nx, D, rfl, h⟩
  · exact ⟨[], Mods.refl _ _, Row.nil _ _ _, fun j h => absurd h (by simp)⟩
  · exact h.done
theorem HeadG.bound {n : Nat} {av : Value} {al : List Value} (h : HeadG wc wr es ls n av al) : Mods (OwnB es) wc wr ∧ Row wr 22 1 av al.length al ∧ al.length = 6 * n := by
  rcases h with ⟨rfl, rfl, rfl, rfl⟩ | ⟨m, x, nx, D, rfl, h⟩
  · exact ⟨Mods.refl _ _, Row.nil _ _ _, rfl⟩
  · exact ⟨h.m, h.a, by rw [h.la]; omega⟩
/-- what owned is given: the lists, apart from each other and from the book -/
structure Own (w : World) (bw : Nat) (lv : Value) (es : List Value) (ls : Nat → List Int) : Prop where
  book : w.cell? ⟨bw, 2, none⟩ = some lv
  bl : bw < w.heap.size
  row : Row w 22 1 lv es.length es
  r : ∀ j (h : j < es.length), Row w 3 1 (es[j]'h) (ls j).length ((ls j).map (Value.int .i64))
  ap : apartV es
  nb : ∀ b, OwnB es b → b ≠ bw ∧ lv.ownBlock ≠ some b
  len : es.length ≤ 10000000
  each : ∀ j, (ls j).length ≤ 1000000
theorem Own.bv {bw : Nat} {lv : Value} (h : Own w bw lv es ls) {W : World} (hm : Mods (OwnB es) w W) : W.cell? ⟨bw, 2, none⟩ = some lv :=
  (World.cell?_of_block (a := ⟨bw, 2, none⟩) (hm.block bw h.bl (fun e => (h.nb bw e).1 rfl))).trans h.book
theorem Own.rv {bw : Nat} {lv : Value} (h : Own w bw lv es ls) {W : World} (hm : Mods (OwnB es) w W) : Row W 22 1 lv es.length es :=
  h.row.move fun k hk => hm.block k (h.row.lt k hk) (fun e => (h.nb k e).2 hk)
theorem Own.lt {bw : Nat} {lv : Value} (h : Own w bw lv es ls) : ∀ b, OwnB es b → b < w.heap.size := fun b ⟨v, hv, e⟩ => by
  obtain ⟨j, hj, rfl⟩ := List.getElem_of_mem hv
  exact (h.r j hj).lt b e
theorem mrk_div (j : Nat) : mrk (j / 6) = -5 - (j : Int) / 6 := by unfold mrk; omega
def OwnedPost (w : World) (es : List Value) (e : Ending) (w' : World) : Prop := e = .returned (.bool true) ∧ Mods (OwnB es) w w'
set_option maxHeartbeats 4000000 in
theorem owned_any {bw : Nat} {lv : Value} (h : Own w bw lv es ls) : Calls Try.prog 22 #[.pointer (some ⟨bw, 0, none⟩)] w (OwnedPost w es) := by
  have H := Hid.mk_ h
  obtain ⟨Al, cl, rfl⟩ := h.row.shape
  have hE := h.len
  have HL := Hid.mk_ h.each
  clear h
  obtain ⟨i3, hi3, ha0, ha1, ha2⟩ := info_parts Try.info3
  obtain ⟨i22, hi22, hb0, hb1, hb2⟩ := info_parts Try.info22
  go_enter Try.func22, Try.ntmps22
  go_wp2_with fail
  go_loopw [3] (fun x3 wr => ∃ n : Nat, n ≤ es.length ∧ x3 = .int .i64 (n : Int) ∧ Hid (Mk w wr es ls n 0)) (fun x3 _ => es.length - (intOf x3).toNat)
  case atStart => exact ⟨0, Nat.zero_le _, rfl, Mk.start H.out.r⟩
  case round =>
    obtain ⟨n, hn, rfl, HM⟩ := hrel
    by_cases hlt : n < es.length
    · have hlt1 : (n : Int) < es.length := by omega
      have b1 := H.out.bv HM.out.m
      have hLn := HL.out n
      obtain ⟨wo, rfl⟩ : ∃ wo : World, wo = wr := ⟨_, rfl⟩
      go_wp2_with fail
      go_loopw [4] (fun x4 wr => ∃ k : Nat, k ≤ (ls n).length ∧ x4 = .int .i64 (k : Int) ∧ Hid (Mk w wr es ls n k)) (fun x4 _ => (ls n).length - (intOf x4).toNat)
      case atStart => exact ⟨0, Nat.zero_le _, rfl, HM.out⟩
      case round =>
        obtain ⟨k, hk, rfl, HK⟩ := hrel
        have b2 := H.out.bv HK.out.m
        obtain ⟨gl, cl', e, hgl, _⟩ := (H.out.rv HK.out.m).some_ (by omega)
        cases e
        have b3 : wr.cell? ⟨gl, n, none⟩ = some (es[n]'hlt) := by rw [(H.out.rv HK.out.m).cell n (by omega)]; simp [hlt]
        have hr := HK.out.r n hlt
        obtain ⟨A, c, hv⟩ := hr.shape
        obtain ⟨l, hle⟩ : ∃ l, l = (ls n).length := ⟨_, rfl⟩
        rw [hv, ← hle] at b3
        rw [← hle] at hk hLn ⊢
        have HV := Hid.mk_ hv
        have HLE := Hid.mk_ hle
        by_cases hkl : k < l
        · have hkl1 : (k : Int) < l := by omega
          obtain ⟨g, c', e2, hg, _⟩ := hr.some_ (by omega)
          rw [hv] at e2
          cases e2
          have hcl : (ctn n k n (ls n)).length = l := by rw [ctn_length (fun _ => by omega), hle]
          have b4 : wr.cell? ⟨g, k, none⟩ = some (.int .i64 ((ctn n k n (ls n))[k]'(by omega))) := by
            rw [hv] at hr
            rw [hr.cell k (by omega)]
            rw [List.getElem?_eq_getElem (by rw [List.length_map]; omega), List.getElem_map]
          have b5 : wr.frozen? ⟨g, k, none⟩ = false := by rw [hv] at hr; exact hr.free k
          obtain ⟨q, hq⟩ : ∃ q, q = (ctn n k n (ls n))[k]'(by omega) := ⟨_, rfl⟩
          rw [← hq] at b4
          have HS := Hid.mk_ (HK.out.step H.out.ap hlt (by omega) hv)
          have hw5 : IntKind.i64.wrap (-5 - (n : Int)) = -5 - n := by rw [IntKind.wrap_i64]; omega
          clear hq hcl hr hv hle
          go_wp2_with fail
          go_roundw
          case rel => exact ⟨k + 1, by omega, by go_num, HS.out⟩
          case measure => simp [intOf]; omega
        · have hkl1 : ¬ (k : Int) < l := by omega
          have ek : k = l := by omega
          have HS := Hid.mk_ (HK.out.next (by omega))
          clear hr hv hle
          go_wp2_with fail
          exact ⟨⟨n + 1, by omega, by go_num, HS.out⟩, by simp [intOf]; omega⟩
    · have hge : ¬ (n : Int) < es.length := by omega
      have en : n = es.length := by omega
      subst en
      have b1 := H.out.bv HM.out.m
      obtain ⟨wc, rfl⟩ : ∃ wc : World, wc = wr := ⟨_, rfl⟩
      have hsz := HM.out.m.size
      have hes := Hid.mk_ (fun b (hb : OwnB es b) => Nat.lt_of_lt_of_le (H.out.lt b hb) hsz)
      go_wp2_with fail
      go_loopw [5, 6] (fun x5 x6 wr => ∃ (n : Nat) (av : Value) (al : List Value), n ≤ es.length ∧ x5 = av ∧ x6 = .int .i64 (n : Int) ∧ Hid (HeadG wc wr es ls n av al)) (fun _ x6 _ => es.length - (intOf x6).toNat)
      case atStart => exact ⟨0, _, [], Nat.zero_le _, rfl, rfl, .inl ⟨rfl, rfl, rfl, rfl⟩⟩
      case round =>
        obtain ⟨n, av, al, hn2, rfl, rfl, HG⟩ := hrel
        have hbd := HG.out.bound
        by_cases hlt2 : n < es.length
        · have hlt1 : (n : Int) < es.length := by omega
          have hmw := HM.out.m.trans hbd.1 (fun k _ e => e)
          have b2 := H.out.bv hmw
          have hrv := H.out.rv hmw
          obtain ⟨gl, cl', e, hgl, _⟩ := hrv.some_ (by omega)
          cases e
          have b3 : wr.cell? ⟨gl, n, none⟩ = some (es[n]'hlt2) := by rw [hrv.cell n (by omega)]; simp [hlt2]
          have hent := HG.out.enter H.out.ap hes.out HM.out hlt2 (HL.out n)
          obtain ⟨D, hent⟩ := hent
          have HEN := Hid.mk_ hent
          obtain ⟨y, hy⟩ : ∃ y, y = es[n]'hlt2 := ⟨_, rfl⟩
          rw [← hy] at b3 HEN
          obtain ⟨wo, rfl⟩ : ∃ wo : World, wo = wr := ⟨_, rfl⟩
          have hal := hbd.2.2
          obtain ⟨l, hle⟩ : ∃ l, l = (ls n).length := ⟨_, rfl⟩
          rw [← hle] at HEN
          have hll : l ≤ 1000000 := by rw [hle]; exact HL.out n
          clear hent hmw hrv hbd hy hle
          go_wp2_with fail
          go_loopw [5, 7, 8] (fun x5 x7 x8 wr => ∃ (i nx : Nat) (av : Value) (al : List Value) (x : Value) (D : List Nat), i ≤ 6 ∧ nx = l + i ∧ x5 = av ∧ x7 = x ∧ x8 = .int .i64 (i : Int) ∧ Hid (Gr wc wr es ls n i av al x nx D)) (fun _ _ x8 _ => 6 - (intOf x8).toNat)
          case atStart => exact ⟨0, l, _, _, _, D, by omega, rfl, rfl, rfl, rfl, HEN.out⟩
          case round =>
            obtain ⟨i, nx, av2, al2, x, D2, hi, rfl, rfl, rfl, rfl, HR⟩ := hrel
            by_cases hi6 : i < 6
            · have hi61 : (i : Int) < 6 := by omega
              have hla := HR.out.la
              have HLA := Hid.mk_ hla
              have hal2 : al2.length ≤ 60000000 := by omega
              obtain ⟨As, cs, hav⟩ := HR.out.a.shape
              obtain ⟨Ax, cx, hx⟩ := HR.out.xr.shape
              subst hav hx
              have hw5 : IntKind.i64.wrap (-5 - (n : Int)) = -5 - n := by rw [IntKind.wrap_i64]; omega
              have tok1 : True := trivial
              clear hla
              go_wp2_with (first
                | (have _t := tok1; at_builtin; refine wpList_append_row2 _ rfl (.tmp 63) (.tmp 65) 45 rfl 22 i22 (.slice none 0 0) 1 24 Try.underlying45 hi22 hb0 hb1 hb2 rfl (by omega) (.slice As al2.length cs) al2.length al2 rfl (HR.out.a.alloc _) ⟨wr.heap.size, 0, none⟩ 1 1 [.slice Ax (l + i) cx] rfl rfl (one_cells_at wr _ _ rfl) (by simp [Value.oneCell']) (by omega) (by unfold maxLen; omega) (by omega) (wr.heap.size + 1) (by simp) ?_; intro g6 c6 w6 hrow6 hgrow6 hloc6 hlt6; have HP := Hid.mk_ (HR.out.push H.out.ap hes.out hi6 hrow6 rfl hgrow6 (by rcases hloc6 with e | e; exact .inl e; exact .inr e.1)); clear tok1)
                | (at_builtin; refine wpList_append_row2 _ rfl (.tmp 67) (.tmp 70) 22 rfl 3 i3 (.int .i64 0) 1 8 Try.underlying22 hi3 ha0 ha1 ha2 rfl (by omega) (.slice Ax (l + i) cx) (l + i) ((List.replicate (l + i) (mrk n)).map (Value.int .i64)) rfl (HP.out.xr.alloc _) ⟨w6.heap.size, 0, none⟩ 1 1 [.int .i64 (mrk n)] rfl rfl (one_cells_at w6 _ _ rfl) (by simp [Value.oneCell']) (by omega) (by unfold maxLen; omega) (by omega) (w6.heap.size + 1) (by simp) ?_; intro g7 c7 w7 hrow7 hgrow7 hloc7 hlt7))
              obtain ⟨D', hG⟩ := HP.out.grow hes.out hi6 hrow7 rfl hgrow7 hloc7 H.out.ap hlt2 (by omega)
              exact ⟨⟨i + 1, l + i + 1, _, _, _, D', by omega, by omega, rfl, rfl, by go_num, hG⟩, by simp [intOf]; omega⟩
            · have hi61 : ¬ (i : Int) < 6 := by omega
              have ei : i = 6 := by omega
              subst ei
              go_wp2_with fail
              exact ⟨⟨n + 1, _, al2, by omega, rfl, by go_num, (show HeadG wc wr es ls (n + 1) _ al2 from .inr ⟨n, _, _, D2, rfl, HR.out⟩)⟩, by simp [intOf]; omega⟩
        · have hge2 : ¬ (n : Int) < es.length := by omega
          have hmw := HM.out.m.trans hbd.1 (fun k _ e => e)
          have b2 := H.out.bv hmw
          have HD := Hid.mk_ HG.out.done
          have hal : al.length ≤ 60000000 := by have := hbd.2.2; omega
          obtain ⟨Aa, ca, hav⟩ := hbd.2.1.shape
          subst hav
          obtain ⟨wo, rfl⟩ : ∃ wo : World, wo = wr := ⟨_, rfl⟩
          have HMW := Hid.mk_ hmw
          clear hbd hmw HG
          go_wp2_with fail
          go_loop [9] (fun x9 => ∃ j : Nat, j ≤ al.length ∧ x9 = .int .i64 (j : Int)) (fun x9 => al.length - (intOf x9).toNat)
          case atStart => exact ⟨0, Nat.zero_le _, rfl⟩
          case round =>
            obtain ⟨j, hj, rfl⟩ := hrel
            by_cases hjl : j < al.length
            · have hjl1 : (j : Int) < al.length := by omega
              obtain ⟨D, _, har, hent⟩ := HD.out
              obtain ⟨ga, ca', e, hga, _⟩ := har.some_ (by omega)
              cases e
              have b3 : wo.cell? ⟨ga, j, none⟩ = some (al[j]'hjl) := by rw [har.cell j (by omega)]; simp [hjl]
              obtain ⟨A, k, c, ev, hk, hc⟩ := hent j hjl
              rw [ev] at b3
              rw [mrk_div] at hc
              have HC := Hid.mk_ hc
              have hw5 : IntKind.i64.wrap (-5 - (j : Int) / 6) = -5 - (j : Int) / 6 := by rw [IntKind.wrap_i64]; omega
              clear hc hent har ev
              go_wp2_with fail
              go_loop [10] (fun x10 => ∃ q : Nat, q ≤ k ∧ x10 = .int .i64 (q : Int)) (fun x10 => k - (intOf x10).toNat)
              case atStart => exact ⟨0, Nat.zero_le _, rfl⟩
              case round =>
                obtain ⟨q, hq, rfl⟩ := hrel
                by_cases hqk : q < k
                · have hqk1 : (q : Int) < k := by omega
                  obtain ⟨g, e2, _, hcc⟩ := HC.out (by omega)
                  subst e2
                  have b4 := hcc q hqk
                  clear hcc
                  go_wp2_with fail
                  go_round
                  case rel => exact ⟨q + 1, by omega, by go_num⟩
                  case measure => simp [intOf]; omega
                · have hqk1 : ¬ (q : Int) < k := by omega
                  go_wp2_with fail
                  exact ⟨⟨j + 1, by omega, by go_num⟩, by simp [intOf]; omega⟩
            · have hjl1 : ¬ (j : Int) < al.length := by omega
              go_wp2_with fail
              go_ret
              exact ⟨rfl, HMW.out⟩
end
end Go.Proofs.Ytmfdcaalbpikpaa
