/- ArenaOnce: one side and the book; nodes that are there are made again. -/
import Derived.Test.YtccgamaijjeafaaG1
import Derived.Test.YtccgamaijjeafaaF3
namespace Go.Proofs.Ytccgamaijjeafaa
open Go.RowKit
set_option linter.unusedVariables false
set_option linter.unusedSimpArgs false
theorem lvl_same {N : List Nd} {i : Nat} {n k : Int} (hk : k < (i : Int) + 2) (hi : i ≤ N.length) : lvl n (N.take i) k = lvl n N k := lvl_take hk hi
theorem may_there {S : List Int} {M : Int} {N : List Nd} (h : Good S M N) (i : Nat) (hi : i < N.length) : mayA S N (N[i]'hi).lv (N[i]'hi).ks = true := by
  have h1 := (h.each i hi).1
  refine may_all (Bool.and_eq_true_iff.1 h1).1 ?_
  rw [List.all_eq_true]
  intro k hk
  obtain ⟨a, b, c⟩ := h.low i hi hk
  exact low_of (decide_eq_true ⟨a, by omega⟩) c
theorem make_there {S : List Int} {M : Int} {N : List Nd} (h : Good S M N) (i : Nat) (hi : i < N.length) : makeA S M N (N[i]'hi).lv (N[i]'hi).ks = (N, (i : Int) + 2, 0) :=
  make_old (may_there h i hi) (h.each i hi).2 h.nodup hi rfl rfl
theorem node_at {N : List Nd} (i : Nat) (hi : i < N.length) : nodeA N ((i : Int) + 2) = ((N[i]'hi).lv, (N[i]'hi).ks, 0) := by
  unfold nodeA
  rw [dif_pos ⟨by omega, by omega⟩]
  have e2 : ((i : Int) + 2 - 2).toNat = i := by omega
  simp only [e2]
section
variable {w w' w0 : World} {a b : Nat} {S : List Int} {M : Int} {N : List Nd} {z : List Nat} {bw gs : Nat} {lv : Value} {es : List Value}
structure St1 (w0 w : World) (bw gs a b : Nat) (S : List Int) (M : Int) (N : List Nd) (z : List Nat) (lv : Value) (es : List Value) : Prop where
  side : SideAt w a b S M N z
  hb : Blk w gs [.pointer (some ⟨a, 0, none⟩), .pointer (some ⟨b, 0, none⟩)] 34
  book : LBook w bw (.slice (some ⟨gs, 0, none⟩) 1 1) lv es
  db : ∀ k ∈ z, k ≠ gs ∧ ¬ bookZ bw lv k ∧ ¬ OwnB es k
  lo : ∀ k, k ∈ z ∨ k = gs ∨ bookZ bw lv k ∨ OwnB es k → w0.heap.size ≤ k
  below : Below w0.heap.size w0 w
theorem St1.new (h : St1 w0 w bw gs a b S M N z lv es) (hb : Below w.heap.size w w') : St1 w0 w' bw gs a b S M N z lv es :=
  ⟨h.side.new hb, h.hb.below hb h.hb.lt, h.book.new hb, h.db, h.lo, h.below.trans (hb.mono h.below.size)⟩
theorem St1.left {N' : List Nd} {z' : List Nat} {lv' : Value} {es' : List Value} (h : St1 w0 w bw gs a b S M N z lv es) (hl : Left w w' a b S M z bw (.slice (some ⟨gs, 0, none⟩) 1 1) lv es N' z' lv' es') :
    St1 w0 w' bw gs a b S M N' z' lv' es' := by
  have gb1 : ¬ bookZ bw lv gs := fun e => by
    rcases e with e | e
    · have h1 := h.hb
      have h2 := h.book.blk
      rw [e] at h1
      unfold Blk at h1 h2
      rw [h1] at h2
      simp at h2
    · exact row_blk h.book.row h.hb (by decide) e
  have hs := hl.mods.size
  have hbw : ∀ k, bookZ bw lv' k → bookZ bw lv k ∨ w.heap.size ≤ k := fun k e => by
    rcases e with e | e
    · exact .inl (.inl e)
    · rcases hl.ls k e with e | e
      · exact .inl (.inr e)
      · exact .inr e
  have hgl := h.hb.lt
  have hsz := h.below.size
  refine ⟨hl.side, h.hb.mods hl.mods (fun e => ?_), hl.book, fun k hk => ⟨fun e => ?_, hl.dis k hk⟩, fun k hk => ?_, ?_⟩
  · rcases e with e | e
    · exact (h.db gs e).1 rfl
    · exact gb1 e
  · rcases hl.zs k hk with e2 | e2
    · exact (h.db k e2).1 e
    · omega
  · rcases hk with e | e | e | e
    · rcases hl.zs k e with e2 | e2
      · exact h.lo k (.inl e2)
      · omega
    · exact h.lo k (.inr (.inl e))
    · rcases hbw k e with e2 | e2
      · exact h.lo k (.inr (.inr (.inl e2)))
      · omega
    · rcases hl.es_ k e with e2 | e2
      · exact h.lo k (.inr (.inr (.inr e2)))
      · omega
  · exact h.below.trans (hl.mods.below hsz (fun k _ e => by
      rcases e with e | e
      · exact h.lo k (.inl e)
      · exact h.lo k (.inr (.inr (.inl e)))))
/-- the program's arena alone, and a list of its nodes; wS: where the list began, wN: where it was whole -/
structure Again (w0 wS wN w : World) (a : Nat) (S : List Int) (M : Int) (L : List (Nd × Value)) (nv : Value) : Prop where
  ex : ∃ z, PAt w a S M (nds L) z ∧ ∀ k ∈ z, w0.heap.size ≤ k ∧ (k < wS.heap.size ∨ wN.heap.size ≤ k)
  list : NList w nv L
  nz : ∀ k, nv.ownBlock = some k ∨ (∃ p ∈ L, p.2.ownBlock = some k) → wS.heap.size ≤ k ∧ k < wN.heap.size
  size : wN.heap.size ≤ w.heap.size
  below : Below w0.heap.size w0 w
theorem Again.new {wS wN : World} {L : List (Nd × Value)} {nv : Value} (h : Again w0 wS wN w a S M L nv) (hb : Below w.heap.size w w') : Again w0 wS wN w' a S M L nv := by
  obtain ⟨z, h1, h2⟩ := h.ex
  exact ⟨⟨z, h1.move hb.size (fun k hk => hb.block k (h1.zlt k hk)), h2⟩, h.list.new hb, h.nz, Nat.le_trans h.size hb.size, h.below.trans (hb.mono h.below.size)⟩
theorem Again.make {wS wN : World} {L : List (Nd × Value)} {nv : Value} (h : Again w0 wS wN w a S M L nv) (i : Nat) (hi : i < L.length) {A : Option Addr} {c : Nat} (hA : IntsIn w A (L[i]'hi).1.ks) (hl : ∀ g o, A = some ⟨g, o, none⟩ → g < w.heap.size) :
    Calls Try.prog 18 #[.pointer (some ⟨a, 0, none⟩), .int .i64 (L[i]'hi).1.lv, .slice A (L[i]'hi).1.ks.length c] w fun e w' => e = .returned (.tuple #[.int .i64 ((i : Int) + 2), .int .i64 0]) ∧ Again w0 wS wN w' a S M L nv := by
  obtain ⟨z, h1, h2⟩ := h.ex
  have hm := make_there h1.good i (by rw [nds_length]; exact hi)
  rw [nds_get L i hi] at hm
  refine (make_at (c := c) h1 (L[i]'hi).1.lv hA hl).mono fun e w' ⟨he, hg⟩ => ?_
  rw [hm] at he hg
  obtain ⟨z', p, m, s⟩ := hg
  have hsz := h.size
  have hms := m.size
  refine ⟨he, ⟨z', p, fun k hk => ?_⟩, h.list.move fun k hk => ?_, h.nz, by omega, ?_⟩
  · rcases s k hk with e2 | e2
    · exact h2 k e2
    · exact ⟨by have := h.below.size; omega, .inr (by omega)⟩
  · obtain ⟨n1, n2⟩ := h.nz k hk
    refine m.block k (by omega) (fun e2 => ?_)
    have := (h2 k e2).2
    omega
  · exact h.below.trans (m.below h.below.size (fun k _ e2 => (h2 k e2).1))
theorem Again.len {wS wN : World} {L : List (Nd × Value)} {nv : Value} (h : Again w0 wS wN w a S M L nv) : Calls Try.prog 12 #[.pointer (some ⟨a, 0, none⟩)] w fun e w' => e = .returned (.int .i64 (L.length : Int)) ∧ w = w' := by
  obtain ⟨z, ⟨L', nv', sv, mb, cz, p, e1, e2⟩, _⟩ := h.ex
  have := len_pa p
  rw [e1, nds_length] at this
  exact this
end
end Go.Proofs.Ytccgamaijjeafaa
