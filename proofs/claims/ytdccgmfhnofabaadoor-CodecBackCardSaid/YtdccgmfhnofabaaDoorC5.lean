/- What is wrong, told; the reader as it lies in memory: walks. -/
import Derived.Test.YtdccgmfhnofabaaDoorC3
import Derived.Test.YtdccgmfhnofabaaDoorC4
import Derived.Test.YtdccgmfhnofabaaDoorP3
namespace Go.Proofs.YtdccgmfhnofabaaDoor
open Go.RowKit
set_option linter.unusedVariables false
set_option linter.unusedSimpArgs false
/-- the variable errors.errorType -/
def Glob (w : World) : Prop := w.cell? ⟨0, 0, none⟩ = some (.iface 115 (.agg #[.pointer (some ⟨1, 74, none⟩)]))
/-- what is wrong, as it lies in memory -/
def Er (w : World) (e : Int) (ev : Value) : Prop := (e = 0 ∧ ev = .nilIface) ∨ (e ≠ 0 ∧ ∃ g, ev = .iface 93 (.pointer (some ⟨g, 0, none⟩)) ∧ Blk w g [.int .i64 e] 97)
/-- the block of what is wrong -/
def errB : Value → Option Nat
  | .iface _ (.pointer (some a)) => some a.block
  | _ => none
section
variable {w w' : World} {b : Nat} {e : Int} {ev : Value} {s : List UInt8}
theorem Glob.pos (h : Glob w) : 0 < w.heap.size := by
  rcases Nat.eq_zero_or_pos w.heap.size with h0 | h1
  · unfold Glob at h; simp [World.cell?, h0] at h
  · exact h1
theorem Glob.move (h : Glob w) (hm : w'.heap[0]? = w.heap[0]?) : Glob w' := (World.cell?_of_block (a := ⟨0, 0, none⟩) hm).trans h
theorem Glob.below {B : Nat} (h : Glob w) (hb : Below B w w') (hB : 0 < B) : Glob w' := h.move (hb.block 0 hB)
theorem Glob.new (h : Glob w) (hb : Below w.heap.size w w') : Glob w' := h.below hb h.pos
theorem Er.move (h : Er w e ev) (hm : ∀ g, Blk w g [.int .i64 e] 97 → w'.heap[g]? = w.heap[g]?) : Er w' e ev := by
  rcases h with h | ⟨h1, g, h2, h3⟩
  · exact .inl h
  · exact .inr ⟨h1, g, h2, h3.move (hm g h3)⟩
theorem Er.new (h : Er w e ev) (hb : Below w.heap.size w w') : Er w' e ev := h.move fun g hg => hb.block g hg.lt
theorem as_told {g : Nat} (hG : Glob w) : Calls Tryd.prog 57 #[.iface 93 (.pointer (some ⟨g, 0, none⟩)), .iface 95 (.pointer (some ⟨w.heap.size, 0, none⟩))] (w.alloc (.cells #[.pointer none] 93)) fun r w' => r = .returned (.bool true) ∧ w'.cell? ⟨w.heap.size, 0, none⟩ = some (.pointer (some ⟨g, 0, none⟩)) ∧ Below w.heap.size w w' := by
  have h1 := Glob.new hG ((Below.refl _ _).alloc (Nat.le_refl _) (.cells #[.pointer none] 93))
  unfold Glob at h1
  refine (as_hit ⟨g, 0, none⟩ ⟨w.heap.size, 0, none⟩ (.pointer none) (w.alloc (.cells #[.pointer none] 93)) h1 ((Blk.new w [.pointer none] 93).cell 0) ((Blk.new w [.pointer none] 93).free 0)).mono ?_
  rintro e w' ⟨rfl, rfl⟩
  refine ⟨rfl, ?_, ?_⟩
  · exact ((((((Blk.new w [.pointer none] 93).alloc _).alloc _).alloc _).alloc _).set 0 (.pointer (some ⟨g, 0, none⟩))).cell 0
  · exact ((((((Below.refl _ _).alloc (Nat.le_refl _) _).alloc (by simp) _).alloc (by simp; omega) _).alloc (by simp; omega) _).alloc (by simp; omega) _).setCell (Nat.le_refl _) _
theorem told_any {g : Nat} (hG : Glob w) (hg : Blk w g [.int .i64 e] 97) : Calls Tryd.prog 43 #[.iface 93 (.pointer (some ⟨g, 0, none⟩))] w fun r w' => r = .returned (.int .i64 e) ∧ Below w.heap.size w w' := by
  have HA := Hid.mk_ (as_told (g := g) hG)
  have HG := Hid.mk_ hg
  clear hG hg
  go_enter Tryd.func43, Tryd.ntmps43
  go_upto_region 3 with (go_at_call 57; (with_reducible refine HA.out.mono ?_); rintro e w1 ⟨rfl, hc, hb⟩)
  have c0 := (HG.out.below hb HG.out.lt).cell 0
  go_wp2_with fail
  go_ret
  exact ⟨rfl, hb⟩
end
end Go.Proofs.YtdccgmfhnofabaaDoor
