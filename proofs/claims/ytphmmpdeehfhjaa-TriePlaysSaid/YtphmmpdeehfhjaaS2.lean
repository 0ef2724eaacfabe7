/- What TrieSame keeps in memory while it goes on. No program in sight. -/
import Derived.Test.YtphmmpdeehfhjaaS1
import Derived.Test.YtphmmpdeehfhjaaB1
namespace Go.Proofs.Ytphmmpdeehfhjaa
open Go.RowKit
set_option linter.unusedVariables false
set_option linter.unusedSimpArgs false
/-- a list of rows, a trie that changes, a trie that does not: apart -/
structure Two (base : Nat) (w wr : World) (A : Option Addr) (all : List Row) (t : Tr) (a : Nat) (fp : List Nat) (t2 : Tr) (a2 : Nat) (fp2 : List Nat) : Prop where
  trie : TrieAt wr t a fp
  still : TrieAt wr t2 a2 fp2
  rows : RowsIn wr A all
  fpb : ∀ q ∈ fp, base ≤ q
  fpb2 : ∀ q ∈ fp2, base ≤ q
  apart : ∀ q ∈ fp2, q ∉ fp
  rf : ∀ g o, A = some ⟨g, o, none⟩ → g < wr.heap.size ∧ g ∉ fp
  B : Below base w wr
section
variable {base : Nat} {w wr w' : World} {A : Option Addr} {all : List Row} {t t' t2 : Tr} {a a2 : Nat} {fp fp' fp2 : List Nat}
theorem Two.put (h : Two base w wr A all t a fp t2 a2 fp2) (hbs : base ≤ wr.heap.size) (ht : TrieAt w' t' a fp') (hf : ∀ k ∈ fp', k ∈ fp ∨ wr.heap.size ≤ k) (hm : Mods (· ∈ fp) wr w') : Two base w w' A all t' a fp' t2 a2 fp2 where
  trie := ht
  still := h.still.mods hm h.apart
  rows := h.rows.move fun g o e hg => hm.block g hg (h.rf g o e).2
  fpb := fun q hq => by rcases hf q hq with h1 | h1; exact h.fpb q h1; omega
  fpb2 := h.fpb2
  apart := fun q hq hq2 => by rcases hf q hq2 with h1 | h1; exact h.apart q hq h1; have := h.still.lt q hq; omega
  rf := fun g o e => by
    obtain ⟨h1, h2⟩ := h.rf g o e
    exact ⟨Nat.lt_of_lt_of_le h1 hm.size, fun hq => by rcases hf g hq with h4 | h4; exact h2 h4; omega⟩
  B := h.B.trans (hm.below hbs (fun k _ hk => h.fpb k hk))
theorem Two.new (h : Two base w wr A all t a fp t2 a2 fp2) (hbs : base ≤ wr.heap.size) (hb : Below wr.heap.size wr w') : Two base w w' A all t a fp t2 a2 fp2 :=
  h.put hbs (h.trie.new hb) (fun _ hk => .inl hk) (Mods.of_new hb)
theorem Two.turn (h : Two base w wr A all t a fp t2 a2 fp2) {g : Nat} {L : List Row} (hs : RowsIn wr (some ⟨g, 0, none⟩) L) (hg : g < wr.heap.size) (hn : g ∉ fp2) : Two base w wr (some ⟨g, 0, none⟩) L t2 a2 fp2 t a fp where
  trie := h.still
  still := h.trie
  rows := hs
  fpb := h.fpb2
  fpb2 := h.fpb
  apart := fun q hq hq2 => h.apart q hq2 hq
  rf := fun g' o e => by cases e; exact ⟨hg, hn⟩
  B := h.B
end
/-- two lists of numbers, each in a row of its own, of blocks from base on -/
structure Lists (base : Nat) (w : World) (x y : Value) (m n : Nat) (xs ys : List Int) : Prop where
  ownx : w.ownsRow base 3 1 x m (xs.map (Value.int .i64))
  owny : w.ownsRow base 3 1 y n (ys.map (Value.int .i64))
  apart : ∀ k, x.ownBlock = some k → y.ownBlock ≠ some k
section
variable {base : Nat} {w w' : World} {x y x' y' : Value} {m n k : Nat} {xs ys news : List Int}
theorem Lists.new (h : Lists base w x y m n xs ys) (hb : Below w.heap.size w w') : Lists base w' x y m n xs ys :=
  ⟨own_move h.ownx fun k hk => hb.block k (h.ownx.lt k hk).2, own_move h.owny fun k hk => hb.block k (h.owny.lt k hk).2, h.apart⟩
theorem Lists.growx (h : Lists base w x y m n xs ys) (hg : w.grownBy w' x.ownBlock) (hx : x'.ownBlock = x.ownBlock ∨ x'.ownBlock = some w.heap.size)
    (hown : w'.ownsRow base 3 1 x' (m + k) (xs.map (Value.int .i64) ++ news.map (Value.int .i64))) : Lists base w' x' y (m + k) n (xs ++ news) ys where
  ownx := by rw [List.map_append]; exact hown
  owny := own_move h.owny fun k hk => hg.block k (h.owny.lt k hk).2 (fun e => h.apart k e.symm hk)
  apart := fun k hk hy => by
    rcases hx with hx | hx
    · exact h.apart k (hx ▸ hk) hy
    · rw [hx] at hk; cases hk; exact absurd (h.owny.lt _ hy).2 (Nat.lt_irrefl _)
theorem Lists.growy (h : Lists base w x y m n xs ys) (hg : w.grownBy w' y.ownBlock) (hx : y'.ownBlock = y.ownBlock ∨ y'.ownBlock = some w.heap.size)
    (hown : w'.ownsRow base 3 1 y' (n + k) (ys.map (Value.int .i64) ++ news.map (Value.int .i64))) : Lists base w' x y' m (n + k) xs (ys ++ news) where
  owny := by rw [List.map_append]; exact hown
  ownx := own_move h.ownx fun k hk => hg.block k (h.ownx.lt k hk).2 (fun e => h.apart k hk e.symm)
  apart := fun k hk hy => by
    rcases hx with hx | hx
    · exact h.apart k hk (hx ▸ hy)
    · rw [hx] at hy; cases hy; exact absurd (h.ownx.lt _ hk).2 (Nat.lt_irrefl _)
end
/-- a list of numbers as Map reads it -/
theorem own_labs {base : Nat} {w : World} {x : Value} {m : Nat} {xs : List Int} (h : w.ownsRow base 3 1 x m (xs.map (Value.int .i64))) (hm : 0 < m) (hs : m ≤ 100000) :
    ∃ g cap, x = .slice (some ⟨g, 0, none⟩) m cap ∧ base ≤ g ∧ g < w.heap.size ∧ LabsAt w.heap.size w (some ⟨g, 0, none⟩) m xs := by
  obtain ⟨g, cap, rfl, hb, hlt⟩ := h.form hm
  have hl : xs.length = m := by have := h.1; simpa using this
  refine ⟨g, cap, rfl, hb, hlt, hl, by omega, fun _ => ⟨g, 0, rfl, hlt, fun j hj => ?_⟩⟩
  rw [Nat.zero_add, h.cellAt j (by omega)]
  simp [hl, hj]
theorem own_shape {base : Nat} {w : World} {x : Value} {e : TypeId} {size m : Nat} {xs : List Value} (h : w.ownsRow base e size x m xs) : ∃ A c, x = .slice A m c := by
  rcases h.2 with ⟨rfl, h0⟩ | ⟨g, cap, cur, rfl, _⟩
  · exact ⟨none, 0, by rw [h0]⟩
  · exact ⟨_, _, rfl⟩
/-- the labels turned round, and back -/
def thereL (p : Int) (n : Nat) : List Int := (List.range n).map fun (i : Nat) => pickI ((i : Int) + p) 65536
def backL (p : Int) (n : Nat) : List Int := (List.range n).map fun (i : Nat) => pickI ((i : Int) + 65536 - p) 65536
theorem thereL_succ (p : Int) (n : Nat) : thereL p (n + 1) = thereL p n ++ [pickI ((n : Int) + p) 65536] := by simp [thereL, List.range_succ]
theorem backL_succ (p : Int) (n : Nat) : backL p (n + 1) = backL p n ++ [pickI ((n : Int) + 65536 - p) 65536] := by simp [backL, List.range_succ]
theorem getD_map_range (f : Nat → Int) (n i : Nat) (h : i < n) : ((List.range n).map f).getD i 0 = f i := by simp [List.getD, h]
theorem remap_there {p v : Int} (v0 : 0 ≤ v) (v1 : v ≤ 65535) : remap (thereL p 65536) v = pickI (v + p) 65536 := by
  unfold remap thereL
  rw [getD_map_range _ _ _ (by omega), Int.toNat_of_nonneg v0]
theorem remap_back {p v : Int} (v0 : 0 ≤ v) (v1 : v ≤ 65535) : remap (backL p 65536) v = pickI (v + 65536 - p) 65536 := by
  unfold remap backL
  rw [getD_map_range _ _ _ (by omega), Int.toNat_of_nonneg v0]
theorem there_back {p v : Int} (p0 : 0 ≤ p) (p1 : p ≤ 65535) (v0 : 0 ≤ v) (v1 : v ≤ 65535) : remap (backL p 65536) (remap (thereL p 65536) v) = v := by
  have h := pickI_range (v + p) 65536 (by decide)
  rw [remap_there v0 v1, remap_back h.1 (by omega)]
  unfold pickI at *
  rw [if_neg (by omega)] at *
  rw [if_neg (by omega)]
  omega
theorem good_there {p v : Int} (v0 : 0 ≤ v) (v1 : v ≤ 65535) : good 65536 (thereL p 65536) v.toNat = true := by
  have h := pickI_range (v + p) 65536 (by decide)
  have e := remap_there (p := p) v0 v1
  unfold remap at e
  unfold good
  rw [e]
  simp
  omega
theorem good_back {p v : Int} (v0 : 0 ≤ v) (v1 : v ≤ 65535) : good 65536 (backL p 65536) v.toNat = true := by
  have h := pickI_range (v + 65536 - p) 65536 (by decide)
  have e := remap_back (p := p) v0 v1
  unfold remap at e
  unfold good
  rw [e]
  simp
  omega
end Go.Proofs.Ytphmmpdeehfhjaa
