/- Binary tries: the plain functions, and how one lies in memory (type 85: value, two halves). -/
import Derived.Test.YtphmmpdeehfhjaaM
namespace Go.Proofs.Ytphmmpdeehfhjaa
open Go.RowKit
set_option linter.unusedVariables false
set_option linter.unusedSimpArgs false
inductive Tr where
  | leaf (v : Int)
  | node (l r : Tr)
  deriving DecidableEq
namespace Tr
def left : Tr → Tr
  | leaf v => leaf v
  | node l _ => l
def right : Tr → Tr
  | leaf v => leaf v
  | node _ r => r
def join : Tr → Tr → Tr
  | leaf a, leaf b => if a = b then leaf a else node (leaf a) (leaf b)
  | l, r => node l r
/-- the bit of an address at a depth -/
def bit (at_ : Int) (d : Nat) : Int := at_ / 2 ^ (31 - d) % 2
/-- n more bits to go down -/
def put (at_ : Int) (v : Int) : Nat → Nat → Tr → Tr
  | 0, _, _ => leaf v
  | n + 1, d, t => if bit at_ d = 0 then join (put at_ v n (d + 1) t.left) t.right else join t.left (put at_ v n (d + 1) t.right)
/-- halves that say the same are put together -/
def tidy : Tr → Tr
  | leaf v => leaf v
  | node l r => join l.tidy r.tidy
/-- other labels -/
def map (m : Int → Int) : Tr → Tr
  | leaf v => leaf (m v)
  | node l r => node (l.map m) (r.map m)
/-- its labels, from the least address on -/
def labels : Tr → List Int
  | leaf v => [v]
  | node l r => l.labels ++ r.labels
/-- how many bits it asks at most -/
def ht : Tr → Nat
  | leaf _ => 0
  | node l r => max l.ht r.ht + 1
/-- the label of an address, from a depth on -/
def find (n : Int) : Tr → Nat → Int
  | leaf v, _ => v
  | node l r, d => if bit n d = 0 then find n l (d + 1) else find n r (d + 1)
end Tr
/-- A node's three cells. -/
def nodeCells (x : Int) (p q : Option Addr) : List Value := [.int .i64 x, .pointer p, .pointer q]
/-- Trie t lies at block b; its blocks are fp, each once. -/
def At (w : World) : Tr → Nat → List Nat → Prop
  | .leaf v, b, fp => fp = [b] ∧ Blk w b (nodeCells v none none) 85
  | .node l r, b, fp => ∃ x bl br fl fr, fp = b :: (fl ++ fr) ∧ Blk w b (nodeCells x (some ⟨bl, 0, none⟩) (some ⟨br, 0, none⟩)) 85 ∧ At w l bl fl ∧ At w r br fr ∧ (b :: (fl ++ fr)).Nodup
theorem At.mem {w : World} {t : Tr} {b : Nat} {fp : List Nat} (h : At w t b fp) : b ∈ fp := by
  cases t with
  | leaf v => obtain ⟨rfl, _⟩ := h; simp
  | node l r => obtain ⟨x, bl, br, fl, fr, rfl, _⟩ := h; simp
theorem At.lt {w : World} : ∀ {t : Tr} {b : Nat} {fp : List Nat}, At w t b fp → ∀ k ∈ fp, k < w.heap.size
  | .leaf v, b, fp, ⟨e, hb⟩, k, hk => by subst e; simp at hk; subst hk; exact hb.lt
  | .node l r, b, fp, ⟨x, bl, br, fl, fr, e, hb, hl, hr, _⟩, k, hk => by
    subst e
    simp only [List.mem_cons, List.mem_append] at hk
    rcases hk with rfl | hk | hk
    · exact hb.lt
    · exact At.lt hl k hk
    · exact At.lt hr k hk
theorem At.nodup {w : World} {t : Tr} {b : Nat} {fp : List Nat} (h : At w t b fp) : fp.Nodup := by
  cases t with
  | leaf v => obtain ⟨rfl, _⟩ := h; simp
  | node l r => obtain ⟨x, bl, br, fl, fr, rfl, _, _, _, hn⟩ := h; exact hn
theorem At.move {w w' : World} : ∀ {t : Tr} {b : Nat} {fp : List Nat}, At w t b fp → (∀ k ∈ fp, w'.heap[k]? = w.heap[k]?) → At w' t b fp
  | .leaf v, b, fp, ⟨e, hb⟩, hm => ⟨e, hb.move (hm b (by simp [e]))⟩
  | .node l r, b, fp, ⟨x, bl, br, fl, fr, e, hb, hl, hr, hn⟩, hm =>
    ⟨x, bl, br, fl, fr, e, hb.move (hm b (by simp [e])), At.move hl (fun k hk => hm k (by simp [e, hk])), At.move hr (fun k hk => hm k (by simp [e, hk])), hn⟩
theorem At.mods {S : Nat → Prop} {w w' : World} {t : Tr} {b : Nat} {fp : List Nat} (h : At w t b fp) (hm : Mods S w w') (hs : ∀ k ∈ fp, ¬ S k) : At w' t b fp :=
  h.move fun k hk => hm.block k (h.lt k hk) (hs k hk)
theorem At.new {w w' : World} {t : Tr} {b : Nat} {fp : List Nat} (h : At w t b fp) (hm : Below w.heap.size w w') : At w' t b fp :=
  h.move fun k hk => hm.block k (h.lt k hk)
/-- a row: the prefix's first address, its bits, the label -/
structure Row where
  a : Int
  b : Int
  l : Int
  deriving DecidableEq
def Row.cells (r : Row) : List Value := [.int .i64 r.a, .int .i64 r.b, .int .i64 r.l]
def rowsCells (l : List Row) : List Value := l.flatMap Row.cells
theorem rowsCells_append (l m : List Row) : rowsCells (l ++ m) = rowsCells l ++ rowsCells m := by simp [rowsCells]
theorem rowsCells_length (l : List Row) : (rowsCells l).length = l.length * 3 := by
  induction l with
  | nil => rfl
  | cons r l ih => simp only [rowsCells, List.flatMap_cons, List.length_append, List.length_cons] at *; rw [ih]; simp [Row.cells]; omega
theorem rowsCells_get (l : List Row) (i j : Nat) (hi : i < l.length) (hj : j < 3) : (rowsCells l)[i * 3 + j]? = (l[i]'hi).cells[j]? := by
  induction l generalizing i with
  | nil => simp at hi
  | cons r l ih =>
    have hr : r.cells.length = 3 := rfl
    simp only [rowsCells, List.flatMap_cons] at *
    cases i with
    | zero => rw [List.getElem?_append_left (by rw [hr]; omega)]; simp
    | succ i =>
      rw [List.getElem?_append_right (by rw [hr]; omega), hr, show (i + 1) * 3 + j - 3 = i * 3 + j from by omega, ih i (by simpa using hi)]
      simp
namespace Tr
/-- what is not parted, from the least address on -/
def all : Tr → Int → Nat → List Row
  | leaf v, a, d => [⟨a, d, v⟩]
  | node l r, a, d => l.all a (d + 1) ++ r.all (a + 2 ^ (31 - d)) (d + 1)
theorem all_length (t : Tr) : ∀ a d, (t.all a d).length ≤ 2 ^ t.ht ∧ 1 ≤ (t.all a d).length := by
  induction t with
  | leaf v => intro a d; simp [all, ht]
  | node l r ihl ihr =>
    intro a d
    have h1 := ihl a (d + 1)
    have h2 := ihr (a + 2 ^ (31 - d)) (d + 1)
    have h3 := Nat.pow_le_pow_right (n := 2) (by omega) (Nat.le_max_left l.ht r.ht)
    have h4 := Nat.pow_le_pow_right (n := 2) (by omega) (Nat.le_max_right l.ht r.ht)
    simp only [all, ht, List.length_append, Nat.pow_succ]
    omega
end Tr
/-- A captured list of rows: the variable's block bo; its row's block is one from base on, another one. -/
def OutAt (base : Nat) (w : World) (bo : Nat) (rows : List Row) : Prop :=
  ∃ v, Blk w bo [v] 44 ∧ w.ownsRow base 65 3 v rows.length (rowsCells rows) ∧ v.ownBlock ≠ some bo ∧ base ≤ bo
/-- A list of rows whose row is one from base on (or nothing is in it). -/
def RowsAt (base : Nat) (w : World) (v : Value) (rows : List Row) : Prop :=
  ∃ A c, v = .slice A rows.length c ∧ rows.length ≤ c ∧ (rows = [] ∨ ∃ g cur, A = some ⟨g, 0, none⟩ ∧ base ≤ g ∧ w.heap[g]? = some (.cells cur 65 (0, 0)) ∧ cur.toList.take (rows.length * 3) = rowsCells rows)
theorem RowsAt.move {base : Nat} {w w' : World} {v : Value} {rows : List Row} (h : RowsAt base w v rows) (hm : ∀ k, v.ownBlock = some k → w'.heap[k]? = w.heap[k]?) : RowsAt base w' v rows := by
  obtain ⟨A, c, rfl, hc, h⟩ := h
  refine ⟨A, c, rfl, hc, ?_⟩
  rcases h with h | ⟨g, cur, rfl, hg, hh, ht⟩
  · exact .inl h
  · exact .inr ⟨g, cur, rfl, hg, (hm g rfl).trans hh, ht⟩
/-- A trie behind its pointer. -/
def TrieAt (w : World) (t : Tr) (a : Nat) (fp : List Nat) : Prop := ∃ b f, fp = a :: f ∧ Blk w a [.pointer (some ⟨b, 0, none⟩)] 73 ∧ At w t b f ∧ a ∉ f
theorem TrieAt.lt {w : World} {t : Tr} {a : Nat} {fp : List Nat} (h : TrieAt w t a fp) : ∀ k ∈ fp, k < w.heap.size := by
  obtain ⟨b, f, rfl, ha, ht, _⟩ := h
  intro k hk
  simp at hk
  rcases hk with rfl | hk
  · exact ha.lt
  · exact ht.lt k hk
theorem TrieAt.move {w w' : World} {t : Tr} {a : Nat} {fp : List Nat} (h : TrieAt w t a fp) (hm : ∀ k ∈ fp, w'.heap[k]? = w.heap[k]?) : TrieAt w' t a fp := by
  obtain ⟨b, f, rfl, ha, ht, hn⟩ := h
  exact ⟨b, f, rfl, ha.move (hm a (by simp)), ht.move (fun k hk => hm k (by simp [hk])), hn⟩
theorem TrieAt.mods {S : Nat → Prop} {w w' : World} {t : Tr} {a : Nat} {fp : List Nat} (h : TrieAt w t a fp) (hm : Mods S w w') (hs : ∀ k ∈ fp, ¬ S k) : TrieAt w' t a fp :=
  h.move fun k hk => hm.block k (h.lt k hk) (hs k hk)
theorem TrieAt.new {w w' : World} {t : Tr} {a : Nat} {fp : List Nat} (h : TrieAt w t a fp) (hm : Below w.heap.size w w') : TrieAt w' t a fp :=
  h.move fun k hk => hm.block k (h.lt k hk)
end Go.Proofs.Ytphmmpdeehfhjaa
