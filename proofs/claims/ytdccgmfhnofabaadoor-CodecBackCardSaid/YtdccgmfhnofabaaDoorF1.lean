/- Scripts and items as they come in. -/
import Derived.Test.YtdccgmfhnofabaaDoorF0
import Derived.Test.YtdccgmfhnofabaaDoorE4
import Derived.Deep.Slices
import Derived.ChangeSlices
import Derived.ChangeMaps5
namespace Go.Proofs.YtdccgmfhnofabaaDoor
open Go.ChangeShapes Go.WideShapes Go.ChangeAt Go.RowKit Go.Deep
set_option linter.unusedVariables false
set_option linter.unusedSimpArgs false
theorem len_of_size (s : ByteArray) (h : s.size ≤ maxLen) : s.data.toList.length ≤ 9223372036854775807 := by
  have e : s.data.toList.length = s.size := by simp
  unfold maxLen at h
  omega
theorem cells_str (a b c d : Int) (s : ByteArray) : [Value.int .i64 a, .int .i64 b, .int .i64 c, .int .i64 d, .string s] = OpC.cells ⟨a, b, c, d, s.data.toList⟩ := by
  simp [OpC.cells]
instance : Inhabited OpC := ⟨⟨0, 0, 0, 0, []⟩⟩
theorem spot_none {w : World} {a : Addr} {v : Value} (hc : w.cell? (a.add 0) = some v) : a.spot = none := by
  simp only [Addr.add, if_pos] at hc
  unfold World.cell? at hc
  cases hs : a.spot with
  | none => rfl
  | some k =>
    rw [hs] at hc
    revert hc
    split <;> simp
theorem cell_lt {w : World} {g o : Nat} {v : Value} (h : w.cell? ⟨g, o, none⟩ = some v) : g < w.heap.size := by
  unfold World.cell? at h
  simp only at h
  rcases hh : w.heap[g]? with _ | ob
  · rw [hh] at h; simp at h
  · exact (Array.getElem?_eq_some_iff.1 hh).1
theorem add_at {g o k : Nat} : (⟨g, o, none⟩ : Addr).add k = ⟨g, o + k, none⟩ := by
  unfold Addr.add
  split
  · rename_i hz; rw [hz]; rfl
  · rfl
theorem choose_lt {α : Type} [Inhabited α] {n : Nat} {p : Nat → α → Prop} (h : ∀ i, i < n → ∃ r, p i r) : ∃ R : Nat → α, ∀ i, i < n → p i (R i) :=
  ⟨fun i => if hi : i < n then (h i hi).choose else default, fun i hi => by simp only [dif_pos hi]; exact (h i hi).choose_spec⟩
section
variable {H : Type} {enc : TypeId × Value → H} {w : World} {base : Nat} {spare : Nat → Bool} {held : Bool} {fuel : Nat} {cs : List Value} {x : DataW H × List MemPlace}
set_option maxRecDepth 100000 in
theorem op_open {T : TypeId} {fs : Array TypeId} (hT : T = 36 ∨ T = 55) (h : DataW.trod enc Tryd.prog w base spare held fuel T cs = some x) : ∃ o : OpC, cs = o.cells ∧ OpOk o := by
  have hC3 : Tryd.prog.cellsOf 3 = 1 := by kernel_rfl
  have hC9 : Tryd.prog.cellsOf 9 = 1 := by kernel_rfl
  have key : ∀ xs : List (DataW H × List MemPlace), True := fun _ => trivial
  rcases hT with rfl | rfl
  all_goals (
    first
      | obtain ⟨xs, n, _, hx, hl, hlen, hf⟩ := DataW.trod_struct Tryd.underlying36 h
      | obtain ⟨xs, n, _, hx, hl, hlen, hf⟩ := DataW.trod_struct Tryd.underlying55 h
    first
      | rw [show Tryd.prog.cellsOf 36 = 5 by kernel_rfl] at hl
      | rw [show Tryd.prog.cellsOf 55 = 5 by kernel_rfl] at hl
    match xs, hlen with
    | [y0, y1, y2, y3, y4], _ =>
      have q0 := hf 0 _ rfl
      have q1 := hf 1 _ rfl
      have q2 := hf 2 _ rfl
      have q3 := hf 3 _ rfl
      have q4 := hf 4 _ rfl
      match cs, hl with
      | [e0, e1, e2, e3, e4], _ =>
        simp [hC3] at q0
        simp [hC3] at q1
        simp [hC3] at q2
        simp [hC3] at q3
        simp [hC3, hC9] at q4
        obtain ⟨v0, r0, _, u0⟩ := DataW.trod_int Tryd.underlying3 q0
        obtain ⟨v1, r1, _, u1⟩ := DataW.trod_int Tryd.underlying3 q1
        obtain ⟨v2, r2, _, u2⟩ := DataW.trod_int Tryd.underlying3 q2
        obtain ⟨v3, r3, _, u3⟩ := DataW.trod_int Tryd.underlying3 q3
        obtain ⟨s4, r4, _, u4⟩ := DataW.trod_string Tryd.underlying9 q4
        simp at r0 r1 r2 r3 r4
        subst r0 r1 r2 r3 r4
        exact ⟨⟨v0, v1, v2, v3, s4.data.toList⟩, cells_str .., ⟨i64_of_wf u0, i64_of_wf u1, i64_of_wf u2, i64_of_wf u3, len_of_size s4 u4⟩⟩)
theorem list_open {S T : TypeId} (hS : Tryd.prog.underlying S = some (.slice T)) (hT : T = 36 ∨ T = 55) {a1 : Option Addr} {len1 cap1 : Nat} (h : DataW.trod enc Tryd.prog w base spare held fuel S [.slice a1 len1 cap1] = some x) : ∃ ops : List OpC, len1 = ops.length ∧ OpsIn w w.heap.size a1 ops := by
  rcases open_slice hS h with ⟨hcs, _⟩ | ⟨a, len, cap, m, n, D, Pl, hcs, hb, hl, hm, hmm, hx, hi⟩
  · simp at hcs
    obtain ⟨rfl, rfl, rfl⟩ := hcs
    exact ⟨[], rfl, by simp, fun h => by simp at h, by simp⟩
  · simp at hcs
    obtain ⟨rfl, rfl, rfl⟩ := hcs
    have hle : len1 ≤ m := by rw [hmm]; split <;> omega
    have hC : Tryd.prog.cellsOf T = 5 := by
      rcases hT with rfl | rfl
      · kernel_rfl
      · kernel_rfl
    rw [hC] at hi
    have key : ∀ i, i < len1 → ∃ o : OpC, OpOk o ∧ ∀ r, r < 5 → w.cell? ((a.add (i * 5)).add r) = o.cells[r]? := by
      intro i hil
      obtain ⟨cs', hc, ht'⟩ := hi i (by omega)
      obtain ⟨_, hcl, hat⟩ := World.cells?_some hc
      obtain ⟨o, rfl, ho⟩ := op_open (fs := #[]) hT ht'
      exact ⟨o, ho, fun r hr => by
        have hr2 : r < o.cells.length := by simpa [OpC.cells] using hr
        have := hat r hr2
        rw [this, List.getElem?_eq_getElem hr2]⟩
    by_cases h0 : len1 = 0
    · subst h0
      exact ⟨[], rfl, by simp, fun h => by simp at h, by simp⟩
    · have hsp : a.spot = none := by
        obtain ⟨o, _, hc⟩ := key 0 (by omega)
        have h1 : w.cell? (((a.add (0 * 5))).add 0) = some (.int .i64 o.kind) := hc 0 (by omega)
        have h2 : (a.add (0 * 5)) = a := by simp [Addr.add]
        rw [h2] at h1
        exact spot_none h1
      obtain ⟨g, o, sp⟩ := a
      simp only at hsp
      subst hsp
      obtain ⟨R, hR⟩ := choose_lt (α := OpC) (p := fun i r => OpOk r ∧ ∀ j, j < 5 → w.cell? (((⟨g, o, none⟩ : Addr).add (i * 5)).add j) = r.cells[j]?) key
      have hcell : ∀ j, j < len1 → ∀ r, r < 5 → w.cell? ⟨g, o + j * 5 + r, none⟩ = (R j).cells[r]? := fun j hj r hr => by
        have := (hR j hj).2 r hr
        rwa [add_at, add_at] at this
      have hg : g < w.heap.size := cell_lt (hcell 0 (by omega) 0 (by omega))
      refine ⟨(List.range len1).map R, by simp, ⟨by simp; unfold maxLen at hm; omega, fun _ => ⟨g, o, rfl, hg, fun j hj => ?_⟩, ?_⟩⟩
      · simp only [List.length_map, List.length_range] at hj
        simp only [List.getElem_map, List.getElem_range]
        exact ⟨hcell j hj 0 (by omega), hcell j hj 1 (by omega), hcell j hj 2 (by omega), hcell j hj 3 (by omega), hcell j hj 4 (by omega)⟩
      · intro r hr
        obtain ⟨i, hi, rfl⟩ := List.mem_map.1 hr
        exact (hR i (List.mem_range.1 hi)).1
theorem ops_open {a1 : Option Addr} {len1 cap1 : Nat} (h : DataW.trod enc Tryd.prog w base spare held fuel 26 [.slice a1 len1 cap1] = some x) : ∃ ops : List OpC, len1 = ops.length ∧ OpsIn w w.heap.size a1 ops := list_open Tryd.underlying26 (.inl rfl) h
theorem items_open {a1 : Option Addr} {len1 cap1 : Nat} (h : DataW.trod enc Tryd.prog w base spare held fuel 53 [.slice a1 len1 cap1] = some x) : ∃ ops : List OpC, len1 = ops.length ∧ OpsIn w w.heap.size a1 ops := list_open Tryd.underlying53 (.inr rfl) h
end
end Go.Proofs.YtdccgmfhnofabaaDoor
