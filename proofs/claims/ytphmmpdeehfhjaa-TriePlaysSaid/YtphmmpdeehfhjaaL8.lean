/- What TrieLast keeps in memory while it goes on. No program in sight. -/
import Derived.Test.YtphmmpdeehfhjaaL7
import Derived.Test.YtphmmpdeehfhjaaL4
namespace Go.Proofs.Ytphmmpdeehfhjaa
open Go.RowKit
set_option linter.unusedVariables false
set_option linter.unusedSimpArgs false
theorem own_move {w w' : World} {base : Nat} {e : TypeId} {size n : Nat} {v : Value} {xs : List Value} (h : w.ownsRow base e size v n xs) (hm : ∀ k, v.ownBlock = some k → w'.heap[k]? = w.heap[k]?) : w'.ownsRow base e size v n xs := by
  obtain ⟨h1, h2⟩ := h
  refine ⟨h1, ?_⟩
  rcases h2 with h2 | ⟨g, cap, cur, rfl, hg, hc, h2⟩
  · exact .inl h2
  · exact .inr ⟨g, cap, cur, rfl, hg, (hm g rfl).trans hc, h2⟩
theorem one_cells (w : World) {t : TypeId} (xs : List Value) : ∀ j u, xs[j]? = some u → (w.alloc (.cells xs.toArray t)).cell? ((⟨w.heap.size, 0, none⟩ : Addr).add j) = some u := by
  intro j u hj
  have h := (Blk.new w xs t).cell j
  have e : ((⟨w.heap.size, 0, none⟩ : Addr).add j) = ⟨w.heap.size, j, none⟩ := by cases j <;> simp [Addr.add]
  rw [e]
  exact h.trans hj
theorem one_cells_at (w : World) {t : TypeId} (b : Nat) (xs : List Value) (hb : b = w.heap.size) : ∀ j u, xs[j]? = some u → (w.alloc (.cells xs.toArray t)).cell? ((⟨b, 0, none⟩ : Addr).add j) = some u := by
  subst hb; exact one_cells w xs
structure St (base : Nat) (w wr : World) (A : Option Addr) (all : List Row) (t : Tr) (a : Nat) (fp : List Nat) (x : Value) (m : Nat) (ats : List Int) : Prop where
  own : wr.ownsRow base 3 1 x m (ats.map (Value.int .i64))
  trie : TrieAt wr t a fp
  rows : RowsIn wr A all
  fpb : ∀ q ∈ fp, base ≤ q
  xf : ∀ g, x.ownBlock = some g → g ∉ fp
  rf : ∀ g o, A = some ⟨g, o, none⟩ → g < wr.heap.size ∧ g ∉ fp ∧ x.ownBlock ≠ some g
  B : Below base w wr
  ok : ∀ x ∈ ats, 0 ≤ x ∧ x ≤ 4294967295
section
variable {base : Nat} {w wr w' : World} {A : Option Addr} {all : List Row} {t t' : Tr} {a : Nat} {fp fp' : List Nat} {x x' : Value} {m : Nat} {ats news : List Int}
theorem St.put (h : St base w wr A all t a fp x m ats) (hbs : base ≤ wr.heap.size) (ht : TrieAt w' t' a fp') (hf : ∀ k ∈ fp', k ∈ fp ∨ wr.heap.size ≤ k) (hm : Mods (· ∈ fp) wr w') : St base w w' A all t' a fp' x m ats where
  own := own_move h.own fun k hk => hm.block k (h.own.lt k hk).2 (h.xf k hk)
  trie := ht
  rows := h.rows.move fun g o e hg => hm.block g hg (h.rf g o e).2.1
  fpb := fun q hq => by rcases hf q hq with h1 | h1; exact h.fpb q h1; omega
  xf := fun g hg hq => by rcases hf g hq with h1 | h1; exact h.xf g hg h1; have := (h.own.lt g hg).2; omega
  rf := fun g o e => by
    obtain ⟨h1, h2, h3⟩ := h.rf g o e
    exact ⟨Nat.lt_of_lt_of_le h1 hm.size, fun hq => by rcases hf g hq with h4 | h4; exact h2 h4; omega, h3⟩
  B := h.B.trans (hm.below hbs (fun k _ hk => h.fpb k hk))
  ok := h.ok
theorem St.size (h : St base w wr A all t a fp x m ats) : w.heap.size ≤ wr.heap.size := h.B.size
theorem St.new (h : St base w wr A all t a fp x m ats) (hbs : base ≤ wr.heap.size) (hb : Below wr.heap.size wr w') : St base w w' A all t a fp x m ats :=
  h.put hbs (h.trie.new hb) (fun _ hk => .inl hk) (Mods.of_new hb)
theorem St.grow (h : St base w wr A all t a fp x m ats) (hbs : base ≤ wr.heap.size) (hg : wr.grownBy w' x.ownBlock) (hx : x'.ownBlock = x.ownBlock ∨ x'.ownBlock = some wr.heap.size) {k : Nat}
    (hown : w'.ownsRow base 3 1 x' (m + k) (ats.map (Value.int .i64) ++ news.map (Value.int .i64))) (hok : ∀ x ∈ news, 0 ≤ x ∧ x ≤ 4294967295) : St base w w' A all t a fp x' (m + k) (ats ++ news) where
  own := by rw [List.map_append]; exact hown
  trie := h.trie.move fun k hk => hg.block k (h.trie.lt k hk) (fun e => h.xf k e.symm hk)
  rows := h.rows.move fun g o e hl => hg.block g hl (fun e2 => (h.rf g o e).2.2 e2.symm)
  fpb := h.fpb
  xf := fun g hg2 hq => by
    rcases hx with hx | hx
    · exact h.xf g (hx ▸ hg2) hq
    · rw [hx] at hg2; cases hg2; exact absurd (h.trie.lt _ hq) (Nat.lt_irrefl _)
  rf := fun g o e => by
    obtain ⟨h1, h2, h3⟩ := h.rf g o e
    refine ⟨Nat.lt_of_lt_of_le h1 hg.size, h2, fun e2 => ?_⟩
    rcases hx with hx | hx
    · exact h3 (hx ▸ e2)
    · rw [hx] at e2; cases e2; exact absurd h1 (Nat.lt_irrefl _)
  B := h.B.grown hg hbs (fun k hk => (h.own.lt k hk).1)
  ok := fun y hy => by rcases List.mem_append.1 hy with h1 | h1; exact h.ok y h1; exact hok y h1
/-- its numbers' cells -/
theorem St.at (h : St base w wr A all t a fp x m ats) (hm : 0 < m) : ∃ g cap, x = .slice (some ⟨g, 0, none⟩) m cap ∧ g < wr.heap.size ∧ base ≤ g ∧ ats.length = m ∧ ∀ j (hj : j < ats.length), wr.cell? ⟨g, j, none⟩ = some (.int .i64 (ats[j]'hj)) := by
  obtain ⟨g, cap, rfl, hb, hlt⟩ := h.own.form hm
  have hl : ats.length = m := by have := h.own.1; simpa using this
  refine ⟨g, cap, rfl, hlt, hb, hl, fun j hj => ?_⟩
  rw [h.own.cellAt j (by omega)]
  simp [hj]
end
/-- what fit's list is to the walk -/
theorem fit_rows {w w' : World} {v : Value} {L : List Row} (h : w'.ownsRow w.heap.size 56 3 v L.length (rowsCells L)) (hl : L.length ≤ 33554431) : ∃ A c, v = .slice A L.length c ∧ RowsIn w' A L ∧ ∀ g o, A = some ⟨g, o, none⟩ → w.heap.size ≤ g ∧ g < w'.heap.size := by
  rcases h.2 with ⟨rfl, h0⟩ | ⟨g, cap, cur, rfl, hg, hc, _, _, _, ht⟩
  · refine ⟨none, 0, by rw [h0], ⟨by omega, fun h => by omega⟩, fun g o e => by cases e⟩
  · refine ⟨_, _, rfl, ⟨by omega, fun _ => ⟨g, 0, rfl, fun j hj => ?_⟩⟩, fun g' o e => by cases e; exact ⟨hg, (Array.getElem?_eq_some_iff.1 hc).1⟩⟩
    have h3 : ∀ i, i < 3 → w'.cell? ⟨g, j * 3 + i, none⟩ = (L[j]'hj).cells[i]? := fun i hi => by
      rw [← rowsCells_get L j i hj hi, ← ht, List.getElem?_take, if_pos (by omega)]
      simp [World.cell?, hc]
    simp only [Nat.zero_add]
    exact ⟨h3 0 (by omega), h3 1 (by omega), h3 2 (by omega)⟩
theorem fit_any' (A : Option Addr) (c : Nat) (l : List Row) (w : World) (hl : RowsIn w A l) (hn : l.length ≤ 33554431) (hwf : ∀ r ∈ l, r.wf) :
    Calls Try.prog 17 #[.slice A l.length c] w fun e w' => ∃ A' c', e = .returned (.slice A' (l.map fitRow).length c') ∧ RowsIn w' A' (l.map fitRow) ∧ (∀ g o, A' = some ⟨g, o, none⟩ → w.heap.size ≤ g ∧ g < w'.heap.size) ∧ Below w.heap.size w w' := by
  refine (fit_any A c l w hl hn hwf).mono ?_
  rintro e w' ⟨v, rfl, ho, hb⟩
  obtain ⟨A', c', rfl, h1, h2⟩ := fit_rows ho (by simpa using hn)
  exact ⟨A', c', rfl, h1, h2, hb⟩
/-! the third loop's words -/
def afterR : Int → List Row → Int
  | a, [] => a
  | _, r :: rs => afterR (r.hi + 1) rs
theorem after_snoc (a : Int) (L : List Row) (r : Row) : afterR a (L ++ [r]) = r.hi + 1 := by
  induction L generalizing a with
  | nil => rfl
  | cons q L ih => exact ih _
theorem Chain.after : ∀ {a e : Int} {L : List Row}, Chain a L e → afterR a L = e
  | _, _, [], h => h
  | _, _, _ :: _, ⟨_, h⟩ => (Chain.after h :)
theorem Chain.at : ∀ {a e : Int} {L : List Row}, Chain a L e → ∀ (i : Nat) (h : i < L.length), (L[i]'h).a = afterR a (L.take i)
  | _, _, [], _, i, h => by simp at h
  | _, _, r :: rs, ⟨h1, h⟩, 0, _ => h1
  | _, _, r :: rs, ⟨_, h⟩, i + 1, hi => (Chain.at h i (by simpa using hi) :)
abbrev K3 (W : World) (bq gt off : Nat) (lo hi l : Int) (w' : World) : Prop := w'.cell? ⟨bq, 0, none⟩ = some (.int .i64 lo) ∧ w'.cell? ⟨bq, 1, none⟩ = some (.int .i64 hi) ∧ w'.cell? ⟨gt, off, none⟩ = some (.int .i64 l) ∧ Below W.heap.size W w'
theorem K3.last {W : World} {bq gt off : Nat} {lo hi l : Int} {w1 : World} {A : Option Addr} {c : Nat} {all : List Row} {begin : Int} (hR : RowsIn W A all) (hok : ∀ r ∈ all, rowOk r = true) (hb : bq < W.heap.size) (hg : gt < W.heap.size) (q : Int) (hq : lastI all begin q = l) (h : K3 W bq gt off lo hi l w1) :
    Calls Try.prog 21 #[.slice A all.length c, .int .i64 begin, .int .i64 q] w1 fun e w' => e = .returned (.int .i64 l) ∧ K3 W bq gt off lo hi l w' := by
  obtain ⟨h1, h2, h3, h4⟩ := h
  refine (last_any A c all begin q w1 (hR.new h4) (fun r hr => by have := hok r hr; simp [rowOk] at this; exact this.1)).mono ?_
  rintro e w' ⟨he, hB⟩
  rw [hq] at he
  have hs := h4.size
  exact ⟨he, (hB.cell (p := ⟨bq, 0, none⟩) (show bq < w1.heap.size by omega)).trans h1, (hB.cell (p := ⟨bq, 1, none⟩) (show bq < w1.heap.size by omega)).trans h2, (hB.cell (p := ⟨gt, off, none⟩) (show gt < w1.heap.size by omega)).trans h3, h4.trans (hB.mono hs)⟩
abbrev K4 (W : World) (gt o1 o2 bq : Nat) (x y z : Int) (w' : World) : Prop := w'.cell? ⟨gt, o1, none⟩ = some (.int .i64 x) ∧ w'.cell? ⟨gt, o2, none⟩ = some (.int .i64 y) ∧ w'.cell? ⟨bq, 1, none⟩ = some (.int .i64 z) ∧ Below W.heap.size W w'
theorem K4.thn {W w1 w2 : World} {gt o1 o2 bq : Nat} {x y z : Int} (h : K4 W gt o1 o2 bq x y z w1) (hg : gt < W.heap.size) (hq : bq < W.heap.size) (hb : Below w1.heap.size w1 w2) : K4 W gt o1 o2 bq x y z w2 :=
  have hs := h.2.2.2.size
  ⟨(hb.cell (p := ⟨gt, o1, none⟩) (show gt < w1.heap.size by omega)).trans h.1, (hb.cell (p := ⟨gt, o2, none⟩) (show gt < w1.heap.size by omega)).trans h.2.1, (hb.cell (p := ⟨bq, 1, none⟩) (show bq < w1.heap.size by omega)).trans h.2.2.1, h.2.2.2.trans (hb.mono hs)⟩
theorem K4.alloc {W w1 : World} {gt o1 o2 bq : Nat} {x y z : Int} {O : Obj} (h : K4 W gt o1 o2 bq x y z w1) (hg : gt < W.heap.size) (hq : bq < W.heap.size) : K4 W gt o1 o2 bq x y z (w1.alloc O) := h.thn hg hq ((Below.refl _ _).alloc (Nat.le_refl _) _)
theorem K4.set {W w1 : World} {gt o1 o2 bq : Nat} {x y z : Int} {p : Addr} {v : Value} (h : K4 W gt o1 o2 bq x y z w1) (hg : gt < W.heap.size) (hq : bq < W.heap.size) (hp : W.heap.size ≤ p.block) : K4 W gt o1 o2 bq x y z (w1.setCell p v) := by
  have hb : Below W.heap.size w1 (w1.setCell p v) := (Below.refl _ _).setCell hp _
  exact ⟨(hb.cell (p := ⟨gt, o1, none⟩) hg).trans h.1, (hb.cell (p := ⟨gt, o2, none⟩) hg).trans h.2.1, (hb.cell (p := ⟨bq, 1, none⟩) hq).trans h.2.2.1, h.2.2.2.trans hb⟩
/-- a struct of two numbers laid ahead of a call is there behind it -/
theorem laid_ahead {W w1 : World} {x y : Value} {t : TypeId} (hb : Below (W.alloc (.cells #[x, y] t)).heap.size (W.alloc (.cells #[x, y] t)) w1) :
    w1.cell? ⟨W.heap.size, 0, none⟩ = some x ∧ w1.cell? ⟨W.heap.size, 1, none⟩ = some y ∧ w1.frozen? ⟨W.heap.size, 0, none⟩ = false ∧ w1.frozen? ⟨W.heap.size, 1, none⟩ = false := by
  have h := Blk.new W [x, y] t
  have hl : W.heap.size < (W.alloc (.cells #[x, y] t)).heap.size := by simp
  exact ⟨(hb.cell (p := ⟨W.heap.size, 0, none⟩) hl).trans (h.cell 0), (hb.cell (p := ⟨W.heap.size, 1, none⟩) hl).trans (h.cell 1), (hb.frozen (p := ⟨W.heap.size, 0, none⟩) hl).trans (h.free 0), (hb.frozen (p := ⟨W.heap.size, 1, none⟩) hl).trans (h.free 1)⟩
end Go.Proofs.Ytphmmpdeehfhjaa
