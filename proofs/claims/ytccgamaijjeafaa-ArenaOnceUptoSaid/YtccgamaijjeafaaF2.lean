/- ArenaPlays: two sides and the book. -/
import Derived.Test.YtccgamaijjeafaaE9
import Derived.Test.YtccgamaijjeafaaF1
namespace Go.Proofs.Ytccgamaijjeafaa
open Go.RowKit
set_option linter.unusedVariables false
set_option linter.unusedSimpArgs false
theorem step_any {w : World} {a b bw B : Nat} {S : List Int} {M : Int} {N : List Nd} {z : List Nat} {hd lv : Value} {es : List Value} {o : OpV} (hB : B ≤ w.heap.size) (h : SideAt w a b S M N z) (hz : ∀ k ∈ z, B ≤ k) (ho : OpOk w B o) (hb : LBook w bw hd lv es)
    (hd0 : ∀ k ∈ z, ¬ bookZ bw lv k ∧ ¬ OwnB es k) (hlen : es.length ≤ 10000000) :
    Calls Try.prog 8 #[.pointer (some ⟨bw, 0, none⟩), .agg #[.pointer (some ⟨a, 0, none⟩), .pointer (some ⟨b, 0, none⟩)], o.agg] w (LeftPost w a b S M z bw hd lv es) := by
  by_cases h0 : o.what = 0
  · exact step_make hB h hz ho hb hd0 (.inl h0)
  by_cases h1 : o.what = 1
  · exact step_make hB h hz ho hb hd0 (.inr (.inl h1))
  by_cases h2 : o.what = 2
  · exact step_make hB h hz ho hb hd0 (.inr (.inr (.inl h2)))
  by_cases h3 : o.what = 3
  · exact step_make hB h hz ho hb hd0 (.inr (.inr (.inr h3)))
  by_cases h4 : o.what = 4
  · exact step_node hB h ho hb hd0 hlen (.inl h4)
  by_cases h5 : o.what = 5
  · exact step_node hB h ho hb hd0 hlen (.inr h5)
  by_cases h7 : o.what = 7
  · exact step_back hB h ho hb hd0 h7
  exact step_sizes hB h ho hb hd0 hlen ⟨h0, h1, h2, h3, h4, h5, h7⟩
/-- a script as it came in -/
structure OpsIn (w : World) (B : Nat) (A : Option Addr) (ops : List OpV) : Prop where
  len : ops.length ≤ 1048576
  at_ : 0 < ops.length → ∃ g o, A = some ⟨g, o, none⟩ ∧ g < B ∧ ∀ j (h : j < ops.length), w.cell? ⟨g, o + j * 5, none⟩ = some (.bool (ops[j]'h).other) ∧ w.cell? ⟨g, o + j * 5 + 1, none⟩ = some (.bool (ops[j]'h).near) ∧ w.cell? ⟨g, o + j * 5 + 2, none⟩ = some (.int .i64 (ops[j]'h).what) ∧ w.cell? ⟨g, o + j * 5 + 3, none⟩ = some (.int .i64 (ops[j]'h).n) ∧ w.cell? ⟨g, o + j * 5 + 4, none⟩ = some (.slice (ops[j]'h).A (ops[j]'h).ks.length (ops[j]'h).c)
  each : ∀ o ∈ ops, OpOk w B o
theorem OpsIn.new {w w' : World} {B : Nat} {A : Option Addr} {ops : List OpV} (h : OpsIn w B A ops) (hb : Below B w w') : OpsIn w' B A ops := by
  refine ⟨h.len, fun h0 => ?_, fun o ho => (h.each o ho).new hb⟩
  obtain ⟨g, o, e, hg, hc⟩ := h.at_ h0
  refine ⟨g, o, e, hg, fun j hj => ?_⟩
  obtain ⟨c0, c1, c2, c3, c4⟩ := hc j hj
  exact ⟨(hb.cell (p := ⟨g, _, none⟩) hg).trans c0, (hb.cell (p := ⟨g, _, none⟩) hg).trans c1, (hb.cell (p := ⟨g, _, none⟩) hg).trans c2, (hb.cell (p := ⟨g, _, none⟩) hg).trans c3, (hb.cell (p := ⟨g, _, none⟩) hg).trans c4⟩
/-- a side, or none -/
def OSide (w : World) (p x : Option Addr) (z : List Nat) : Prop := (p = none ∧ x = none ∧ z = []) ∨ ∃ a b S M N, p = some ⟨a, 0, none⟩ ∧ x = some ⟨b, 0, none⟩ ∧ SideAt w a b S M N z
section
variable {w w' w0 : World} {p x p1 x1 p2 x2 : Option Addr} {z z1 z2 : List Nat} {bw gs B : Nat} {lv : Value} {es : List Value}
theorem OSide.zlt (h : OSide w p x z) : ∀ k ∈ z, k < w.heap.size := by
  rcases h with ⟨_, _, rfl⟩ | ⟨a, b, S, M, N, _, _, h⟩
  · simp
  · exact h.zlt
theorem OSide.move (h : OSide w p x z) (hs : w.heap.size ≤ w'.heap.size) (hm : ∀ k ∈ z, w'.heap[k]? = w.heap[k]?) : OSide w' p x z := by
  rcases h with h | ⟨a, b, S, M, N, h1, h2, h⟩
  · exact .inl h
  · exact .inr ⟨a, b, S, M, N, h1, h2, h.move hs hm⟩
structure St (w0 w : World) (bw gs : Nat) (p1 x1 p2 x2 : Option Addr) (z1 z2 : List Nat) (lv : Value) (es : List Value) : Prop where
  s1 : OSide w p1 x1 z1
  s2 : OSide w p2 x2 z2
  hb : Blk w gs [.pointer p1, .pointer x1, .pointer p2, .pointer x2] 34
  book : LBook w bw (.slice (some ⟨gs, 0, none⟩) 2 2) lv es
  d12 : ∀ k ∈ z1, k ∉ z2
  db : ∀ k, k ∈ z1 ∨ k ∈ z2 → k ≠ gs ∧ ¬ bookZ bw lv k ∧ ¬ OwnB es k
  lo : ∀ k, k ∈ z1 ∨ k ∈ z2 ∨ k = gs ∨ bookZ bw lv k ∨ OwnB es k → w0.heap.size ≤ k
  below : Below w0.heap.size w0 w
theorem St.gs_book (h : St w0 w bw gs p1 x1 p2 x2 z1 z2 lv es) : ¬ bookZ bw lv gs ∧ ¬ OwnB es gs := by
  refine ⟨fun e => ?_, fun ⟨v, hv, e⟩ => ?_⟩
  · rcases e with e | e
    · have h1 := h.hb
      have h2 := h.book.blk
      rw [e] at h1
      unfold Blk at h1 h2
      rw [h1] at h2
      simp at h2
    · exact row_blk h.book.row h.hb (by decide) e
  · obtain ⟨ks, hr, _⟩ := h.book.r v hv
    exact row_blk hr h.hb (by decide) e
theorem St.new (h : St w0 w bw gs p1 x1 p2 x2 z1 z2 lv es) (hb : Below w.heap.size w w') : St w0 w' bw gs p1 x1 p2 x2 z1 z2 lv es :=
  ⟨h.s1.move hb.size (fun k hk => hb.block k (h.s1.zlt k hk)), h.s2.move hb.size (fun k hk => hb.block k (h.s2.zlt k hk)), h.hb.below hb h.hb.lt, h.book.new hb, h.d12, h.db, h.lo, h.below.trans (hb.mono h.below.size)⟩
/-- the first side has done a step -/
theorem St.left1 {a b : Nat} {S : List Int} {M : Int} {N' : List Nd} {z' : List Nat} {lv' : Value} {es' : List Value} (h : St w0 w bw gs (some ⟨a, 0, none⟩) (some ⟨b, 0, none⟩) p2 x2 z1 z2 lv es) (hl : Left w w' a b S M z1 bw (.slice (some ⟨gs, 0, none⟩) 2 2) lv es N' z' lv' es') :
    St w0 w' bw gs (some ⟨a, 0, none⟩) (some ⟨b, 0, none⟩) p2 x2 z' z2 lv' es' := by
  obtain ⟨gb1, gb2⟩ := h.gs_book
  have hs := hl.mods.size
  have hz2 : ∀ k ∈ z2, k < w.heap.size := h.s2.zlt
  have hbw : ∀ k, bookZ bw lv' k → bookZ bw lv k ∨ w.heap.size ≤ k := fun k e => by
    rcases e with e | e
    · exact .inl (.inl e)
    · rcases hl.ls k e with e | e
      · exact .inl (.inr e)
      · exact .inr e
  have hgl := h.hb.lt
  have hsz := h.below.size
  refine ⟨.inr ⟨a, b, S, M, N', rfl, rfl, hl.side⟩, h.s2.move hs (fun k hk => hl.mods.block k (hz2 k hk) (fun e => ?_)), h.hb.mods hl.mods (fun e => ?_), hl.book, fun k hk hk2 => ?_, fun k hk => ?_, fun k hk => ?_, ?_⟩
  · rcases e with e | e
    · exact h.d12 k e hk
    · exact (h.db k (.inr hk)).2.1 e
  · rcases e with e | e
    · exact (h.db gs (.inl e)).1 rfl
    · exact gb1 e
  · rcases hl.zs k hk with e | e
    · exact h.d12 k e hk2
    · have := hz2 k hk2; omega
  · rcases hk with hk | hk
    · refine ⟨fun e => ?_, hl.dis k hk⟩
      rcases hl.zs k hk with e2 | e2
      · exact (h.db k (.inl e2)).1 e
      · omega
    · obtain ⟨h1, h2, h3⟩ := h.db k (.inr hk)
      have h4 := hz2 k hk
      refine ⟨h1, fun e => ?_, fun e => ?_⟩
      · rcases hbw k e with e2 | e2
        · exact h2 e2
        · omega
      · rcases hl.es_ k e with e2 | e2
        · exact h3 e2
        · omega
  · rcases hk with e | e | e | e | e
    · rcases hl.zs k e with e2 | e2
      · exact h.lo k (.inl e2)
      · omega
    · exact h.lo k (.inr (.inl e))
    · exact h.lo k (.inr (.inr (.inl e)))
    · rcases hbw k e with e2 | e2
      · exact h.lo k (.inr (.inr (.inr (.inl e2))))
      · omega
    · rcases hl.es_ k e with e2 | e2
      · exact h.lo k (.inr (.inr (.inr (.inr e2))))
      · omega
  · exact h.below.trans (hl.mods.below hsz (fun k _ e => by
      rcases e with e | e
      · exact h.lo k (.inl e)
      · exact h.lo k (.inr (.inr (.inr (.inl e))))))
/-- the second one -/
theorem St.left2 {a b : Nat} {S : List Int} {M : Int} {N' : List Nd} {z' : List Nat} {lv' : Value} {es' : List Value} (h : St w0 w bw gs p1 x1 (some ⟨a, 0, none⟩) (some ⟨b, 0, none⟩) z1 z2 lv es) (hl : Left w w' a b S M z2 bw (.slice (some ⟨gs, 0, none⟩) 2 2) lv es N' z' lv' es') :
    St w0 w' bw gs p1 x1 (some ⟨a, 0, none⟩) (some ⟨b, 0, none⟩) z1 z' lv' es' := by
  obtain ⟨gb1, gb2⟩ := h.gs_book
  have hs := hl.mods.size
  have hz1 : ∀ k ∈ z1, k < w.heap.size := h.s1.zlt
  have hbw : ∀ k, bookZ bw lv' k → bookZ bw lv k ∨ w.heap.size ≤ k := fun k e => by
    rcases e with e | e
    · exact .inl (.inl e)
    · rcases hl.ls k e with e | e
      · exact .inl (.inr e)
      · exact .inr e
  have hgl := h.hb.lt
  have hsz := h.below.size
  refine ⟨h.s1.move hs (fun k hk => hl.mods.block k (hz1 k hk) (fun e => ?_)), .inr ⟨a, b, S, M, N', rfl, rfl, hl.side⟩, h.hb.mods hl.mods (fun e => ?_), hl.book, fun k hk hk2 => ?_, fun k hk => ?_, fun k hk => ?_, ?_⟩
  · rcases e with e | e
    · exact h.d12 k hk e
    · exact (h.db k (.inl hk)).2.1 e
  · rcases e with e | e
    · exact (h.db gs (.inr e)).1 rfl
    · exact gb1 e
  · rcases hl.zs k hk2 with e | e
    · exact h.d12 k hk e
    · have := hz1 k hk; omega
  · rcases hk with hk | hk
    · obtain ⟨h1, h2, h3⟩ := h.db k (.inl hk)
      have h4 := hz1 k hk
      refine ⟨h1, fun e => ?_, fun e => ?_⟩
      · rcases hbw k e with e2 | e2
        · exact h2 e2
        · omega
      · rcases hl.es_ k e with e2 | e2
        · exact h3 e2
        · omega
    · refine ⟨fun e => ?_, hl.dis k hk⟩
      rcases hl.zs k hk with e2 | e2
      · exact (h.db k (.inr e2)).1 e
      · omega
  · rcases hk with e | e | e | e | e
    · exact h.lo k (.inl e)
    · rcases hl.zs k e with e2 | e2
      · exact h.lo k (.inr (.inl e2))
      · omega
    · exact h.lo k (.inr (.inr (.inl e)))
    · rcases hbw k e with e2 | e2
      · exact h.lo k (.inr (.inr (.inr (.inl e2))))
      · omega
    · rcases hl.es_ k e with e2 | e2
      · exact h.lo k (.inr (.inr (.inr (.inr e2))))
      · omega
  · exact h.below.trans (hl.mods.below hsz (fun k _ e => by
      rcases e with e | e
      · exact h.lo k (.inr (.inl e))
      · exact h.lo k (.inr (.inr (.inr (.inl e))))))
/-- the lists were marked and grown, and are forgotten -/
theorem St.owned (h : St w0 w bw gs p1 x1 p2 x2 z1 z2 lv es) (hm : Mods (OwnB es) w w') : St w0 (w'.setCell ⟨bw, 1, none⟩ (.slice none 0 0)) bw gs p1 x1 p2 x2 z1 z2 (.slice none 0 0) [] ∧ w'.cell? ⟨bw, 1, none⟩ = some lv ∧ w'.frozen? ⟨bw, 1, none⟩ = false ∧ bw < w'.heap.size := by
  have hs := hm.size
  have hs2 : (w'.setCell ⟨bw, 1, none⟩ (.slice none 0 0)).heap.size = w'.heap.size := by simp [World.setCell]
  have hb0 := h.book.blk.mods hm (fun e => (h.book.nb bw e).1 rfl)
  have hbl : Blk (w'.setCell ⟨bw, 1, none⟩ (.slice none 0 0)) bw [.slice (some ⟨gs, 0, none⟩) 2 2, .slice none 0 0] 38 := hb0.set 1 _
  have hne : ∀ k, k ∈ z1 ∨ k ∈ z2 → k ≠ bw := fun k hk e => (h.db k hk).2.1 (.inl e)
  obtain ⟨gb1, gb2⟩ := h.gs_book
  refine ⟨⟨h.s1.move (by omega) (fun k hk => ?_), h.s2.move (by omega) (fun k hk => ?_), (h.hb.mods hm gb2).far (fun e => gb1 (.inl e)) _, ⟨hbl, Row.nil _ _ _, by simp, fun i j hi => absurd hi (by simp)⟩, h.d12, fun k hk => ⟨(h.db k hk).1, fun e => ?_, fun ⟨v, hv, _⟩ => by simp at hv⟩, fun k hk => ?_, ?_⟩, hb0.cell 1, hb0.free 1, hb0.lt⟩
  · rw [Below.heap_setCell _ _ _ _ (hne k (.inl hk)), hm.block k (h.s1.zlt k hk) (h.db k (.inl hk)).2.2]
  · rw [Below.heap_setCell _ _ _ _ (hne k (.inr hk)), hm.block k (h.s2.zlt k hk) (h.db k (.inr hk)).2.2]
  · rcases e with e | e
    · exact hne k hk e
    · simp [Value.ownBlock] at e
  · rcases hk with e | e | e | e | ⟨v, hv, _⟩
    · exact h.lo k (.inl e)
    · exact h.lo k (.inr (.inl e))
    · exact h.lo k (.inr (.inr (.inl e)))
    · rcases e with e | e
      · exact h.lo k (.inr (.inr (.inr (.inl (.inl e)))))
      · simp [Value.ownBlock] at e
    · simp at hv
  · have h1 := h.below.trans (hm.below h.below.size (fun k _ e => h.lo k (.inr (.inr (.inr (.inr e))))))
    exact h1.setCell (h.lo bw (.inr (.inr (.inr (.inl (.inl rfl)))))) _
end
end Go.Proofs.Ytccgamaijjeafaa
