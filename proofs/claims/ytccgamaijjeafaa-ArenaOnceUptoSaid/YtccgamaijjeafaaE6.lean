/- The book of lists that came out; a side and the book. -/
import Derived.Test.YtccgamaijjeafaaE2
import Derived.Test.YtccgamaijjeafaaE5
namespace Go.Proofs.Ytccgamaijjeafaa
open Go.RowKit
set_option linter.unusedVariables false
set_option linter.unusedSimpArgs false
structure LBook (w : World) (bw : Nat) (hd lv : Value) (es : List Value) : Prop where
  blk : Blk w bw [hd, lv] 38
  row : Row w 22 1 lv es.length es
  r : ∀ v ∈ es, ∃ ks : List Int, Row w 3 1 v ks.length (ks.map (Value.int .i64)) ∧ ks.length ≤ 1000000
  ap : apartV es
section
variable {w w' w2 : World} {bw : Nat} {hd lv : Value} {es : List Value}
def bookZ (bw : Nat) (lv : Value) (k : Nat) : Prop := k = bw ∨ lv.ownBlock = some k
theorem LBook.elt (h : LBook w bw hd lv es) : ∀ b, OwnB es b → b < w.heap.size := fun b ⟨v, hv, e⟩ => by
  obtain ⟨ks, hr, _⟩ := h.r v hv
  exact hr.lt b e
theorem LBook.nb (h : LBook w bw hd lv es) : ∀ b, OwnB es b → b ≠ bw ∧ lv.ownBlock ≠ some b := fun b ⟨v, hv, e⟩ => by
  obtain ⟨ks, hr, _⟩ := h.r v hv
  exact ⟨fun e2 => row_blk hr h.blk (by decide) (e2 ▸ e), row_type hr h.row (by decide) e⟩
theorem LBook.lb (h : LBook w bw hd lv es) : lv.ownBlock ≠ some bw := row_blk h.row h.blk (by decide)
theorem LBook.own (h : LBook w bw hd lv es) (hl : es.length ≤ 10000000) : ∃ ls, Own w bw lv es ls := by
  have hr : ∀ j : Nat, ∃ ks : List Int, (∀ h : j < es.length, Row w 3 1 (es[j]'h) ks.length (ks.map (Value.int .i64))) ∧ ks.length ≤ 1000000 := fun j => by
    by_cases hj : j < es.length
    · obtain ⟨ks, h1, h2⟩ := h.r _ (List.getElem_mem hj)
      exact ⟨ks, fun _ => h1, h2⟩
    · exact ⟨[], fun h => absurd h hj, by simp⟩
  refine ⟨fun j => (hr j).choose, ⟨h.blk.cell 1, h.blk.lt, h.row, fun j hj => (hr j).choose_spec.1 hj, h.ap, h.nb, hl, fun j => (hr j).choose_spec.2⟩⟩
theorem LBook.move (h : LBook w bw hd lv es) (hm : ∀ k, bookZ bw lv k ∨ OwnB es k → w'.heap[k]? = w.heap[k]?) : LBook w' bw hd lv es where
  blk := h.blk.move (hm bw (.inl (.inl rfl)))
  row := h.row.move fun k hk => hm k (.inl (.inr hk))
  r := fun v hv => by
    obtain ⟨ks, h1, h2⟩ := h.r v hv
    exact ⟨ks, h1.move fun k hk => hm k (.inr ⟨v, hv, hk⟩), h2⟩
  ap := h.ap
theorem LBook.zlt (h : LBook w bw hd lv es) : ∀ k, bookZ bw lv k ∨ OwnB es k → k < w.heap.size := fun k hk => by
  rcases hk with (e | e) | e
  · subst e; exact h.blk.lt
  · exact h.row.lt k e
  · exact h.elt k e
theorem LBook.new (h : LBook w bw hd lv es) (hb : Below w.heap.size w w') : LBook w' bw hd lv es := h.move fun k hk => hb.block k (h.zlt k hk)
/-- a list more; w: where the value has come out, w2: behind the append -/
theorem LBook.add (h : LBook w bw hd lv es) {v : Value} {ks : List Int} (hv : Row w 3 1 v ks.length (ks.map (Value.int .i64))) (hks : ks.length ≤ 1000000) (hf : ∀ b, v.ownBlock = some b → ¬ OwnB es b) {o : Obj} {lv2 : Value} {g c : Nat}
    (hr : Row w2 22 1 lv2 (es.length + 1) (es ++ [v])) (he : lv2 = .slice (some ⟨g, 0, none⟩) (es.length + 1) c) (hg : (w.alloc o).grownBy w2 lv.ownBlock) (hloc : lv.ownBlock = some g ∨ g = w.heap.size + 1) :
    LBook (w2.setCell ⟨bw, 1, none⟩ lv2) bw hd lv2 (es ++ [v]) ∧ Mods (bookZ bw lv) w (w2.setCell ⟨bw, 1, none⟩ lv2) ∧ (∀ k, lv2.ownBlock = some k → lv.ownBlock = some k ∨ w.heap.size ≤ k) ∧ Blk w2 bw [hd, lv] 38 := by
  have e0 : (w.alloc o).heap.size = w.heap.size + 1 := by simp
  have hs := hg.size
  rw [e0] at hs
  have hbl := h.blk.lt
  have hb2 : Blk w2 bw [hd, lv] 38 := (h.blk.alloc o).grown hg (fun e => h.lb e.symm)
  have hm : ∀ b, b < w.heap.size → lv.ownBlock ≠ some b → b ≠ bw → (w2.setCell ⟨bw, 1, none⟩ lv2).heap[b]? = w.heap[b]? := fun b h1 h2 h3 => by
    rw [Below.heap_setCell _ _ _ _ h3, hg.block b (by rw [e0]; omega) (fun e => h2 e.symm), Below.heap_alloc _ _ _ h1]
  have hl2 : ∀ k, lv2.ownBlock = some k → lv.ownBlock = some k ∨ w.heap.size ≤ k := fun k e => by
    rw [he] at e
    have e3 : g = k := Option.some.inj e
    rcases hloc with e2 | e2
    · exact .inl (e3 ▸ e2)
    · exact .inr (by omega)
  have hlb2 : lv2.ownBlock ≠ some bw := fun e => by
    rcases hl2 bw e with e2 | e2
    · exact h.lb e2
    · omega
  have hvm : ∀ b, v.ownBlock = some b → (w2.setCell ⟨bw, 1, none⟩ lv2).heap[b]? = w.heap[b]? := fun b e =>
    hm b (hv.lt b e) (row_type hv h.row (by decide) e) (fun e2 => row_blk hv h.blk (by decide) (e2 ▸ e))
  refine ⟨⟨hb2.set 1 lv2, ?_, fun u hu => ?_, fun i j hi hj hne b hbi hbj => ?_⟩, ?_, hl2, hb2⟩
  · rw [List.length_append, List.length_singleton]
    exact hr.move fun k hk => Below.heap_setCell _ _ _ _ (fun e => hlb2 (by rw [hk, e]))
  · rcases List.mem_append.1 hu with hu | hu
    · obtain ⟨ks2, h1, h2⟩ := h.r u hu
      exact ⟨ks2, h1.move fun k hk => hm k (h1.lt k hk) (h.nb k ⟨u, hu, hk⟩).2 (h.nb k ⟨u, hu, hk⟩).1, h2⟩
    · simp at hu
      subst hu
      exact ⟨ks, hv.move hvm, hks⟩
  · rw [List.length_append, List.length_singleton] at hi hj
    by_cases h1 : i < es.length
    · rw [List.getElem_append_left h1] at hbi
      by_cases h2 : j < es.length
      · rw [List.getElem_append_left h2] at hbj
        exact h.ap i j h1 h2 hne b hbi hbj
      · have ej : j = es.length := by omega
        subst ej
        rw [List.getElem_append_right (Nat.le_refl _)] at hbj
        simp at hbj
        exact hf b hbj ⟨_, List.getElem_mem h1, hbi⟩
    · have ei : i = es.length := by omega
      subst ei
      rw [List.getElem_append_right (Nat.le_refl _)] at hbi
      simp at hbi
      by_cases h2 : j < es.length
      · rw [List.getElem_append_left h2] at hbj
        exact hf b hbi ⟨_, List.getElem_mem h2, hbj⟩
      · omega
  · have t1 : Mods (bookZ bw lv) w (w.alloc o) := (Mods.refl _ _).alloc o
    have t2 := t1.grown hg (fun k e _ => .inr e)
    exact t2.setCell (p := ⟨bw, 1, none⟩) (fun _ => .inl rfl) lv2
end
/-- what a step leaves -/
structure Left (w w' : World) (a b : Nat) (S : List Int) (M : Int) (z : List Nat) (bw : Nat) (hd lv : Value) (es : List Value) (N' : List Nd) (z' : List Nat) (lv' : Value) (es' : List Value) : Prop where
  side : SideAt w' a b S M N' z'
  book : LBook w' bw hd lv' es'
  mods : Mods (fun k => k ∈ z ∨ bookZ bw lv k) w w'
  zs : ∀ k ∈ z', k ∈ z ∨ w.heap.size ≤ k
  ls : ∀ k, lv'.ownBlock = some k → lv.ownBlock = some k ∨ w.heap.size ≤ k
  es_ : ∀ k, OwnB es' k → OwnB es k ∨ w.heap.size ≤ k
  dis : ∀ k ∈ z', ¬ bookZ bw lv' k ∧ ¬ OwnB es' k
  len : es'.length ≤ es.length + 1
def LeftPost (w : World) (a b : Nat) (S : List Int) (M : Int) (z : List Nat) (bw : Nat) (hd lv : Value) (es : List Value) (e : Ending) (w' : World) : Prop :=
  e = .returned (.bool true) ∧ ∃ N' z' lv' es', Left w w' a b S M z bw hd lv es N' z' lv' es'
section
variable {w w' w0 w1 w2 : World} {a b bw B : Nat} {S : List Int} {M : Int} {N : List Nd} {z : List Nat} {hd lv : Value} {es : List Value}
theorem Left.of_side (h0 : Below w.heap.size w w0) (hd0 : ∀ k ∈ z, ¬ bookZ bw lv k ∧ ¬ OwnB es k) (hz : ∀ k ∈ z, k < w.heap.size) (hb : LBook w bw hd lv es) {N' : List Nd} (h : SideGrew w0 w' a b S M N' z) : ∃ N' z' lv' es', Left w w' a b S M z bw hd lv es N' z' lv' es' := by
  obtain ⟨z', s1, m1, e1⟩ := h
  have hs := h0.size
  refine ⟨N', z', lv, es, s1, hb.move fun k hk => ?_, ?_, fun k hk => ?_, fun k hk => .inl hk, fun k hk => .inl hk, fun k hk => ?_, by omega⟩
  · have hk2 := hb.zlt k hk
    rw [m1.block k (by omega) (fun e => by rcases hk with hk | hk; exact (hd0 k e).1 hk; exact (hd0 k e).2 hk), h0.block k hk2]
  · have t1 : Mods (fun k => k ∈ z ∨ bookZ bw lv k) w w0 := Mods.of_new h0
    exact t1.trans m1 (fun k _ e => .inl e)
  · rcases e1 k hk with e | e
    · exact .inl e
    · exact .inr (by omega)
  · rcases e1 k hk with e | e
    · exact hd0 k e
    · exact ⟨fun e2 => by have := hb.zlt k (.inl e2); omega, fun e2 => by have := hb.zlt k (.inr e2); omega⟩
end
end Go.Proofs.Ytccgamaijjeafaa
