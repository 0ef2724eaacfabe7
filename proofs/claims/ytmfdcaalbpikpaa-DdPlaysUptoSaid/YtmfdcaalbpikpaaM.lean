/- What a call may have changed in memory ('Mods'), and blocks known whole ('Blk'). No program in sight. -/
import Derived.WalkKit
import Derived.Deep.Draws
import Derived.StillTailTactics
namespace Go.Proofs.Ytmfdcaalbpikpaa
open Go.RowKit
set_option linter.unusedVariables false
set_option linter.unusedSimpArgs false
/-- The old blocks that are not in S are as they were; the streams too. -/
structure Mods (S : Nat → Prop) (w w' : World) : Prop where
  os : w'.os = w.os
  tape : w'.tape = w.tape
  output : w'.output = w.output
  size : w.heap.size ≤ w'.heap.size
  block : ∀ k, k < w.heap.size → ¬ S k → w'.heap[k]? = w.heap[k]?
theorem Mods.refl (S : Nat → Prop) (w : World) : Mods S w w := ⟨rfl, rfl, rfl, Nat.le_refl _, fun _ _ _ => rfl⟩
theorem Mods.mono {S T : Nat → Prop} {w w' : World} (h : Mods S w w') (hs : ∀ k, k < w.heap.size → S k → T k) : Mods T w w' :=
  ⟨h.os, h.tape, h.output, h.size, fun k hk ht => h.block k hk (fun s => ht (hs k hk s))⟩
/-- Two steps; what the second one changes is in S, or new. -/
theorem Mods.trans {S T : Nat → Prop} {w w1 w2 : World} (h : Mods S w w1) (h2 : Mods T w1 w2) (ht : ∀ k, k < w.heap.size → T k → S k) : Mods S w w2 :=
  ⟨h2.os.trans h.os, h2.tape.trans h.tape, h2.output.trans h.output, Nat.le_trans h.size h2.size, fun k hk hs =>
    (h2.block k (Nat.lt_of_lt_of_le hk h.size) (fun t => hs (ht k hk t))).trans (h.block k hk hs)⟩
theorem Mods.of_below {B : Nat} {w w' : World} (h : Below B w w') : Mods (fun k => B ≤ k) w w' :=
  ⟨h.os, h.tape, h.output, h.size, fun k _ hs => h.block k (by omega)⟩
theorem Mods.of_new {S : Nat → Prop} {w w' : World} (h : Below w.heap.size w w') : Mods S w w' :=
  ⟨h.os, h.tape, h.output, h.size, fun k hk _ => h.block k hk⟩
theorem Mods.below {S : Nat → Prop} {B : Nat} {w w' : World} (h : Mods S w w') (hB : B ≤ w.heap.size) (hs : ∀ k, k < w.heap.size → S k → B ≤ k) : Below B w w' :=
  ⟨h.os, h.tape, h.output, h.size, fun k hk => h.block k (by omega) (fun s => by have := hs k (by omega) s; omega)⟩
theorem Mods.then_new {S : Nat → Prop} {w w1 w2 : World} (h : Mods S w w1) (h2 : Below w1.heap.size w1 w2) : Mods S w w2 :=
  h.trans (Mods.of_new (S := fun _ => False) h2) (fun _ _ f => f.elim)
theorem Mods.alloc {S : Nat → Prop} {w w1 : World} (h : Mods S w w1) (o : Obj) : Mods S w (w1.alloc o) := h.then_new ((Below.refl _ _).alloc (Nat.le_refl _) o)
theorem Mods.drew {S : Nat → Prop} {w w1 : World} (h : Mods S w w1) : Mods S w w1.drew := ⟨h.os, h.tape, h.output, h.size, h.block⟩
theorem Mods.drewN {S : Nat → Prop} {w w1 : World} (h : Mods S w w1) (n : Nat) : Mods S w (w1.drewN n) := ⟨h.os, h.tape, h.output, h.size, h.block⟩
theorem Mods.setCell {S : Nat → Prop} {w w1 : World} (h : Mods S w w1) {p : Addr} (hp : p.block < w.heap.size → S p.block) (u : Value) : Mods S w (w1.setCell p u) :=
  ⟨h.os, h.tape, h.output, by simpa [World.setCell] using h.size, fun k hk hs => by
    rw [Below.heap_setCell _ _ _ _ (fun e => hs (by rw [e]; exact hp (by rw [← e]; exact hk)))]
    exact h.block k hk hs⟩
theorem Mods.grown {S : Nat → Prop} {w w1 w2 : World} {row : Option Nat} (h : Mods S w w1) (hg : w1.grownBy w2 row) (hr : ∀ k, row = some k → k < w.heap.size → S k) : Mods S w w2 :=
  ⟨hg.os.trans h.os, hg.tape.trans h.tape, hg.output.trans h.output, Nat.le_trans h.size hg.size, fun k hk hs =>
    (hg.block k (Nat.lt_of_lt_of_le hk h.size) (fun e => hs (hr k e.symm hk))).trans (h.block k hk hs)⟩
/-- Block b holds just these cells, none of them frozen. -/
def Blk (w : World) (b : Nat) (cs : List Value) (e : TypeId) : Prop := w.heap[b]? = some (.cells cs.toArray e (0, 0))
section
variable {w w' : World} {b : Nat} {cs : List Value} {e : TypeId}
theorem Blk.lt (h : Blk w b cs e) : b < w.heap.size := (Array.getElem?_eq_some_iff.1 h).1
theorem Blk.move (h : Blk w b cs e) (hm : w'.heap[b]? = w.heap[b]?) : Blk w' b cs e := hm.trans h
theorem Blk.mods {S : Nat → Prop} (h : Blk w b cs e) (hm : Mods S w w') (hs : ¬ S b) : Blk w' b cs e := h.move (hm.block b h.lt hs)
theorem Blk.below {B : Nat} (h : Blk w b cs e) (hm : Below B w w') (hb : b < B) : Blk w' b cs e := h.move (hm.block b hb)
theorem Blk.cell (h : Blk w b cs e) (i : Nat) : w.cell? ⟨b, i, none⟩ = cs[i]? := by
  unfold Blk at h
  simp [World.cell?, h]
theorem Blk.free (h : Blk w b cs e) (i : Nat) : w.frozen? ⟨b, i, none⟩ = false := by
  unfold Blk at h
  simp [World.frozen?, h]
theorem Blk.new (w : World) (cs : List Value) (e : TypeId) : Blk (w.alloc (.cells cs.toArray e)) w.heap.size cs e := heap_alloc_new w _
theorem Blk.alloc (h : Blk w b cs e) (o : Obj) : Blk (w.alloc o) b cs e := h.move (Below.heap_alloc w o _ h.lt)
theorem Blk.drew (h : Blk w b cs e) : Blk w.drew b cs e := h
theorem Blk.drewN (h : Blk w b cs e) (n : Nat) : Blk (w.drewN n) b cs e := h
theorem Blk.set (h : Blk w b cs e) (i : Nat) (v : Value) : Blk (w.setCell ⟨b, i, none⟩ v) b (cs.set i v) e := by
  unfold Blk at *
  simp only [World.setCell, Array.getElem?_modify, if_pos, h, Option.map_some]
  simp
theorem Blk.far (h : Blk w b cs e) {p : Addr} (hp : b ≠ p.block) (v : Value) : Blk (w.setCell p v) b cs e := h.move (Below.heap_setCell _ _ _ _ hp)
theorem Blk.grown {row : Option Nat} (h : Blk w b cs e) (hg : w.grownBy w' row) (hr : some b ≠ row) : Blk w' b cs e := h.move (hg.block b h.lt hr)
end
/-- What lay below the heap's end reads as it did: the walk's own rules behind a contract that only lays blocks. -/
theorem bcell {W w1 : World} (hb : Below W.heap.size W w1) : (∀ b o, b < W.heap.size → w1.cell? ⟨b, o, none⟩ = W.cell? ⟨b, o, none⟩) ∧ (∀ b o, b < W.heap.size → w1.frozen? ⟨b, o, none⟩ = W.frozen? ⟨b, o, none⟩) :=
  ⟨fun b o h => hb.cell (p := ⟨b, o, none⟩) h, fun b o h => hb.frozen (p := ⟨b, o, none⟩) h⟩
/-- A region that draws, all but whose tail only reads: walked in the order of the text; the world behind the draw under its own name. -/
theorem still_tail_drew {P : Program} {id : Nat} {Q : Exit → Act → World → Prop} {a : Act} {w : World} {l : List Oper} (n : Nat) (hm : P.follows .mixedOrders = true) (hB : Region.lexTailB .any l.toArray n = true)
    (h : wpStill P l.toArray w.drew (fun a' => wpList P l.toArray Q (l.drop n) a' w.drew) (l.take n) a) : (Code.region id l.toArray true).wp P Q a w := wp_region_still_tail n hm hB h
theorem Hid.mk_ {p : Prop} (h : p) : Hid p := h
theorem Drawn_below (w : World) (n : Nat) {B : Nat} : Below B w (w.drewN n) := ⟨rfl, rfl, rfl, Nat.le_refl _, fun _ _ => rfl⟩
theorem own_move {w w' : World} {base : Nat} {e : TypeId} {size n : Nat} {v : Value} {xs : List Value} (h : w.ownsRow base e size v n xs) (hm : ∀ k, v.ownBlock = some k → w'.heap[k]? = w.heap[k]?) : w'.ownsRow base e size v n xs := by
  obtain ⟨h1, h2⟩ := h
  refine ⟨h1, ?_⟩
  rcases h2 with h2 | ⟨g, cap, cur, rfl, hg, hc, h2⟩
  · exact .inl h2
  · exact .inr ⟨g, cap, cur, rfl, hg, (hm g rfl).trans hc, h2⟩
theorem own_base {w : World} {base base' : Nat} {e : TypeId} {size n : Nat} {v : Value} {xs : List Value} (h : w.ownsRow base e size v n xs) (hb : base' ≤ base) : w.ownsRow base' e size v n xs := by
  obtain ⟨h1, h2⟩ := h
  refine ⟨h1, ?_⟩
  rcases h2 with h2 | ⟨g, cap, cur, rfl, hg, h3⟩
  · exact .inl h2
  · exact .inr ⟨g, cap, cur, rfl, Nat.le_trans hb hg, h3⟩
theorem own_shape {base : Nat} {w : World} {x : Value} {e : TypeId} {size m : Nat} {xs : List Value} (h : w.ownsRow base e size x m xs) : ∃ A c, x = .slice A m c := by
  rcases h.2 with ⟨rfl, h0⟩ | ⟨g, cap, cur, rfl, _⟩
  · exact ⟨none, 0, by rw [h0]⟩
  · exact ⟨_, _, rfl⟩
theorem one_cells (w : World) {t : TypeId} (xs : List Value) : ∀ j u, xs[j]? = some u → (w.alloc (.cells xs.toArray t)).cell? ((⟨w.heap.size, 0, none⟩ : Addr).add j) = some u := by
  intro j u hj
  have h := (Blk.new w xs t).cell j
  have e : ((⟨w.heap.size, 0, none⟩ : Addr).add j) = ⟨w.heap.size, j, none⟩ := by cases j <;> simp [Addr.add]
  rw [e]
  exact h.trans hj
theorem one_cells_at (w : World) {t : TypeId} (b : Nat) (xs : List Value) (hb : b = w.heap.size) : ∀ j u, xs[j]? = some u → (w.alloc (.cells xs.toArray t)).cell? ((⟨b, 0, none⟩ : Addr).add j) = some u := by
  subst hb; exact one_cells w xs
/-- numbers that a slice leads to -/
def IntsIn (w : World) (A : Option Addr) (xs : List Int) : Prop := xs.length ≤ 9223372036854775807 ∧ (0 < xs.length → ∃ g o, A = some ⟨g, o, none⟩ ∧ g < w.heap.size ∧ ∀ j (hj : j < xs.length), w.cell? ⟨g, o + j, none⟩ = some (.int .i64 (xs[j]'hj)))
theorem IntsIn.move {w w' : World} {A : Option Addr} {xs : List Int} (h : IntsIn w A xs) (hs : w.heap.size ≤ w'.heap.size) (hm : ∀ g o, A = some ⟨g, o, none⟩ → g < w.heap.size → w'.heap[g]? = w.heap[g]?) : IntsIn w' A xs := by
  refine ⟨h.1, fun h0 => ?_⟩
  obtain ⟨g, o, e, hg, hc⟩ := h.2 h0
  exact ⟨g, o, e, by omega, fun j hj => (World.cell?_of_block (a := ⟨g, o + j, none⟩) (hm g o e hg)).trans (hc j hj)⟩
theorem IntsIn.new {w w' : World} {A : Option Addr} {xs : List Int} (h : IntsIn w A xs) (hb : Below w.heap.size w w') : IntsIn w' A xs := h.move hb.size (fun g o _ hg => hb.block g hg)
end Go.Proofs.Ytmfdcaalbpikpaa
