/- DdPlays: a step's state; looks, makes of whatever step. -/
import Derived.Test.YtmfdcaalbpikpaaX25
import Derived.Test.YtmfdcaalbpikpaaX12
import Derived.Test.YtmfdcaalbpikpaaD2
namespace Go.Proofs.Ytmfdcaalbpikpaa
open Go.RowKit Go.Maps
set_option linter.unusedVariables false
set_option linter.unusedSimpArgs false
structure ScrIn (w : World) (A : Option Addr) (ops : List OpD) : Prop where
  len : ops.length ≤ 1048576
  cell : 0 < ops.length → ∃ g o, A = some ⟨g, o, none⟩ ∧ g < w.heap.size ∧ ∀ j (hj : j < ops.length) r, r < 9 → w.cell? ⟨g, o + j * 9 + r, none⟩ = (ops[j]'hj).cells[r]?
  ok : ∀ op ∈ ops, OpDOk w op ∧ (∀ x ∈ op.cls, i64 x) ∧ op.ins.length ≤ 1048576 ∧ op.cls.length ≤ 1048576
/-- a step's op, as it may be asked -/
structure OpFit (W : World) (zp zr : List Nat) (o : OpD) : Prop where
  ok : OpDOk W o
  i : o.ins.length ≤ 1048576
  c : o.cls.length ≤ 1048576
  far : ∀ g p, o.A = some ⟨g, p, none⟩ → 0 < o.ins.length → ¬ wsz zp zr g
section
variable {B n : Nat} {w0 w w1 w2 w' : World} {wb ab xb : Nat} {S : List Int} {M : Int} {lv : Value} {es : List Value} {N N' : List Nd} {zp zr : List Nat} {o : OpD}
theorem OpFit.new (h : OpFit w zp zr o) (hb : Below w.heap.size w w') : OpFit w' zp zr o := ⟨h.ok.new hb, h.i, h.c, h.far⟩
theorem OpFit.asked (h : DS B n w0 w wb ab xb S M lv es N zp zr) (hb0 : B = w0.heap.size) (ho : OpDOk w0 o) (hi : o.ins.length ≤ 1048576) (hc : o.cls.length ≤ 1048576) : OpFit w zp zr o :=
  ⟨ho.new (hb0 ▸ h.bl), hi, hc, fun g p e h0 hk => by
    obtain ⟨g', o', e2, hg, _⟩ := ho.ins.2 h0
    rw [e] at e2
    cases e2
    have := h.g1 g hk
    omega⟩
theorem OpFit.near {o0 : OpD} (h : DS B n w0 w wb ab xb S M lv es N zp zr) {o' : OpD} (ho : OpDOk w' o') (hi : o'.ins.length ≤ 256) (hf : ∀ g p, o'.A = some ⟨g, p, none⟩ → 0 < o'.ins.length → w.heap.size ≤ g) (hc : o'.cls.length = S.length) : OpFit w' zp zr o' :=
  ⟨ho, by omega, by have := h.ws.pa.good.s2; omega, fun g p e h0 hk => by have := hf g p e h0; have := h.ws.lt (.inl hk); omega⟩
/-- one block that is no one's has changed -/
theorem DS.aside (h : DS B n w0 w wb ab xb S M lv es N zp zr) {bt : Nat} (hm : Mods (fun k => k = bt) w w') (h1 : ¬ wsz zp zr bt) (h2 : ¬ (bookZ wb lv bt ∨ OwnB es bt)) (h3 : B ≤ bt) : DS B n w0 w' wb ab xb S M lv es N zp zr := by
  have hs := hm.size
  have hbs := h.bs
  refine ⟨h.ws.move hs (fun k hk => hm.block k (h.ws.lt hk) (fun e => ?_)), h.bk.move (fun k hk => hm.block k (h.bk.zlt k hk) (fun e => h2 (e ▸ hk))), h.d1, h.d2, h.bl.trans (hm.below hbs fun k _ e => by omega), h.g1, h.g2, by omega, h.len⟩
  subst e
  rcases hk with e | e
  · exact h1 e
  · exact h2 (.inl (.inl e))
theorem OpFit.aside (h : OpFit w zp zr o) {bt : Nat} (hm : Mods (fun k => k = bt) w w') (hA : ∀ g p, o.A = some ⟨g, p, none⟩ → 0 < o.ins.length → g ≠ bt) (hB : ∀ g p, o.B = some ⟨g, p, none⟩ → g ≠ bt) : OpFit w' zp zr o :=
  ⟨⟨h.ok.wh, h.ok.f, h.ok.g, h.ok.h, h.ok.l, h.ok.c, h.ok.ins.move0 hm.size (fun g p e h0 hg => hm.block g hg (hA g p e h0)), h.ok.cls.move hm.size (fun g p e hg => hm.block g hg (hB g p e))⟩, h.i, h.c, h.far⟩
theorem looks_any (h : DS B n w0 w wb ab xb S M lv es N zp zr) (hn : n ≤ 9000000) (ho : OpFit w zp zr o) :
    Calls Try.prog 20 #[.pointer (some ⟨wb, 0, none⟩), o.agg] w (LooksPost B n w0 wb ab xb S M) := by
  by_cases h7 : o.wh = 7
  · exact looks_eval h h7 ho.ok.cls (by have := ho.c; omega)
  · by_cases h8 : o.wh = 8
    · exact looks_path h hn h8
    · by_cases h9 : o.wh = 9
      · exact looks_nodes h hn h9
      · exact looks_back h ⟨h7, h8, h9⟩ ho.ok.c
def MakesPost2 (B n : Nat) (w0 : World) (wb ab xb : Nat) (S : List Int) (M : Int) (e : Ending) (w' : World) : Prop := ∃ p q, e = .returned (.tuple #[.int .i64 p, .int .i64 q, .int .i64 p, .int .i64 q]) ∧ DState B (n + 1) w0 w' wb ab xb S M
theorem makes_any (h : DS B n w0 w wb ab xb S M lv es N zp zr) (ho : OpFit w zp zr o) :
    Calls Try.prog 13 #[.pointer (some ⟨wb, 0, none⟩), o.agg] w (MakesPost2 B n w0 wb ab xb S M) := by
  have hm : Calls Try.prog 13 #[.pointer (some ⟨wb, 0, none⟩), o.agg] w (MakesPost w wb ab xb lv S M zp zr (opR S M N o)) := by
    by_cases hw : 2 ≤ o.wh ∧ o.wh ≤ 6
    · exact makes_ops h.ws hw
    · exact makes_set h.ws hw ho.ok.ins (by have := ho.i; omega) ho.far
  refine hm.mono fun e w' ⟨he, hg⟩ => ⟨_, _, he, ?_⟩
  obtain ⟨zp', zr', h9⟩ := h.grew hg
  exact ⟨lv, es, _, zp', zr', { h9 with len := by have := h9.len; omega }⟩
end
end Go.Proofs.Ytmfdcaalbpikpaa
