/- What comes in: numbers; a script. -/
import Derived.Test.YtccgamaijjeafaaBulk
import Derived.Test.YtccgamaijjeafaaF2
import Derived.ProofKit
import Derived.OpenShut
import Derived.Deep.Slices
import Derived.ChangeSlices
namespace Go.Proofs.Ytccgamaijjeafaa
open Go.ChangeShapes Go.WideShapes Go.ChangeAt Go.RowKit Go.Deep
set_option linter.unusedVariables false
set_option linter.unusedSimpArgs false
instance : Inhabited OpV := ⟨⟨false, false, 0, 0, none, 0, []⟩⟩
theorem i64_of_wf {n : Int} (h : (Lit.int .i64 n).wf = true) : i64 n := by
  unfold i64
  have h1 : IntKind.i64.min = -9223372036854775808 := by decide +kernel
  have h2 : IntKind.i64.max = 9223372036854775807 := by decide +kernel
  simp [Lit.wf] at h
  omega
theorem spot_none {w : World} {a : Addr} {v : Value} (hc : w.cell? (a.add 0) = some v) : a.spot = none := by
  simp only [Addr.add, if_pos] at hc
  unfold World.cell? at hc
  cases hs : a.spot with
  | none => rfl
  | some k =>
    rw [hs] at hc
    revert hc
    split <;> simp
theorem cell_lt {w : World} {g o : Nat} {v : Value} (h : w.cell? ⟨g, o, none⟩ = some v) : g < w.heap.size := by
  unfold World.cell? at h
  simp only at h
  rcases hh : w.heap[g]? with _ | ob
  · rw [hh] at h; simp at h
  · exact (Array.getElem?_eq_some_iff.1 hh).1
theorem add_at {g o k : Nat} : (⟨g, o, none⟩ : Addr).add k = ⟨g, o + k, none⟩ := by
  unfold Addr.add
  split
  · rename_i hz; rw [hz]; rfl
  · rfl
theorem choose_lt {α : Type} [Inhabited α] {n : Nat} {p : Nat → α → Prop} (h : ∀ i, i < n → ∃ r, p i r) : ∃ R : Nat → α, ∀ i, i < n → p i (R i) :=
  ⟨fun i => if hi : i < n then (h i hi).choose else default, fun i hi => by simp only [dif_pos hi]; exact (h i hi).choose_spec⟩
section
variable {H : Type} {enc : TypeId × Value → H} {w : World} {base : Nat} {spare : Nat → Bool} {held : Bool} {fuel : Nat} {cs : List Value} {x : DataW H × List MemPlace}
theorem nums_open (h : DataW.trod enc Try.prog w base spare held fuel 22 cs = some x) : ∃ A c xs, cs = [.slice A (List.length xs) c] ∧ IntsIn w A xs ∧ (∀ k ∈ xs, i64 k) ∧ xs.length ≤ c ∧ xs.length ≤ Rows.uptoBulk x.1 ∧ ∀ g o, A = some ⟨g, o, none⟩ → 0 < xs.length → g < w.heap.size := by
  rcases open_ints Try.underlying22 Try.underlying3 (by kernel_rfl) h with ⟨hcs, _⟩ | ⟨a, len, cap, zs, hcs, hb, hl, hm, hzl, hx, hc, hwf⟩
  · exact ⟨none, 0, [], by simpa using hcs, ⟨by simp, fun h => by simp at h⟩, by simp, by simp, by simp, by simp⟩
  · have hle : len ≤ zs.length := by rw [hzl]; split <;> omega
    have hlen : (zs.take len).length = len := by rw [List.length_take]; omega
    have hbk : len ≤ Rows.uptoBulk x.1 := by
      rw [hx]
      have h1 := bulks.slice_le (H := H) (lits .i64 (zs.take len)) (lits .i64 (zs.drop len))
      have h2 : (lits (H := H) .i64 (zs.take len)).length = len := by unfold lits; rw [List.length_map, hlen]
      rw [h2] at h1
      show len ≤ Rows.uptoBulk (DataW.slice (lits .i64 (zs.take len)) (lits .i64 (zs.drop len)))
      omega
    have hal : len ≤ 9223372036854775807 := by unfold maxLen at hm; omega
    by_cases h0 : len = 0
    · subst h0
      exact ⟨some a, cap, [], by simpa using hcs, ⟨by simp, fun h => by simp at h⟩, by simp, by simp, by simp, by simp⟩
    · have hsp : a.spot = none := spot_none (hc 0 (by omega))
      obtain ⟨g, o, sp⟩ := a
      simp only at hsp
      subst hsp
      have hcc : ∀ j, j < len → w.cell? ⟨g, o + j, none⟩ = some (.int .i64 (zs.getD j 0)) := fun j hj => by have := hc j (by omega); rwa [add_at] at this
      have hg : g < w.heap.size := cell_lt (hcc 0 (by omega))
      refine ⟨some ⟨g, o, none⟩, cap, zs.take len, by rw [hlen]; exact hcs, ⟨by omega, fun _ => ⟨g, o, rfl, hg, fun j hj => ?_⟩⟩, fun k hk => i64_of_wf (hwf k (List.mem_of_mem_take hk)), by omega, by rw [hlen]; exact hbk, fun g' o' e _ => by cases e; exact hg⟩
      rw [hlen] at hj
      rw [hcc j hj, List.getElem_take]
      simp [List.getD, show j < zs.length by omega]
def OpV.cells (o : OpV) : List Value := [.bool o.other, .bool o.near, .int .i64 o.what, .int .i64 o.n, .slice o.A o.ks.length o.c]
theorem op_open (h : DataW.trod enc Try.prog w base spare held fuel 40 cs = some x) (hB : Rows.uptoBulk x.1 ≤ 1048576) : ∃ o : OpV, cs = o.cells ∧ OpOk w w.heap.size o := by
  obtain ⟨xs, n, _, hx, hl, hlen, hf⟩ := DataW.trod_struct Try.underlying40 h
  have hC : Try.prog.cellsOf 40 = 5 := by kernel_rfl
  have hC3 : Try.prog.cellsOf 3 = 1 := by kernel_rfl
  have hC4 : Try.prog.cellsOf 4 = 1 := by kernel_rfl
  have hC22 : Try.prog.cellsOf 22 = 1 := by kernel_rfl
  rw [hC] at hl
  match xs, hlen with
  | [y0, y1, y2, y3, y4], _ =>
    have g0 := hf 0 _ rfl
    have g1 := hf 1 _ rfl
    have g2 := hf 2 _ rfl
    have g3 := hf 3 _ rfl
    have g4 := hf 4 _ rfl
    match cs, hl with
    | [e0, e1, e2, e3, e4], _ =>
      simp [hC4] at g0
      simp [hC4] at g1
      simp [hC3] at g2
      simp [hC3] at g3
      simp [hC22] at g4
      obtain ⟨v0, q0, _⟩ := DataW.trod_bool Try.underlying4 g0
      obtain ⟨v1, q1, _⟩ := DataW.trod_bool Try.underlying4 g1
      obtain ⟨v2, q2, _, u2⟩ := DataW.trod_int Try.underlying3 g2
      obtain ⟨v3, q3, _, u3⟩ := DataW.trod_int Try.underlying3 g3
      obtain ⟨A4, c4, l4, q4, r4, r5, r6, r7, r8⟩ := nums_open g4
      have hb4 : Rows.uptoBulk y4.1 ≤ Rows.uptoBulk x.1 := by
        rw [hx]
        show Rows.uptoBulk y4.1 ≤ Rows.uptoBulk (DataW.agg [y0.1, y1.1, y2.1, y3.1, y4.1])
        simp only [Rows.uptoBulk, Rows.uptoBulkAll]
        omega
      simp at q0 q1 q2 q3 q4
      subst q0 q1 q2 q3 q4
      exact ⟨⟨v0, v1, v2, v3, A4, c4, l4⟩, rfl, ⟨i64_of_wf u3, i64_of_wf u2, r4, r5, r6, by show l4.length ≤ _; omega, fun h0 g p e => r8 g p e h0⟩⟩
theorem ops_open {a1 : Option Addr} {len1 cap1 : Nat} (h : DataW.trod enc Try.prog w base spare held fuel 23 [.slice a1 len1 cap1] = some x) (hB : Rows.uptoBulk x.1 ≤ 1048576) : ∃ ops : List OpV, len1 = ops.length ∧ OpsIn w w.heap.size a1 ops := by
  rcases open_slice Try.underlying23 h with ⟨hcs, _⟩ | ⟨a, len, cap, m, n, D, Pl, hcs, hb, hl, hm, hmm, hx, hi⟩
  · simp at hcs
    obtain ⟨rfl, rfl, rfl⟩ := hcs
    exact ⟨[], rfl, by simp, fun h => by simp at h, by simp⟩
  · simp at hcs
    obtain ⟨rfl, rfl, rfl⟩ := hcs
    have hle : len1 ≤ m := by rw [hmm]; split <;> omega
    have hC : Try.prog.cellsOf 40 = 5 := by kernel_rfl
    rw [hC] at hi
    rw [hx] at hB
    have hB' : Rows.uptoBulk (DataW.slice ((List.range len1).map D) ((List.range (m - len1)).map fun j => D (len1 + j))) ≤ 1048576 := hB
    have hlen := bulks.slice_le ((List.range len1).map D) ((List.range (m - len1)).map fun j => D (len1 + j))
    have hel := bulks.slice_elems ((List.range len1).map D) ((List.range (m - len1)).map fun j => D (len1 + j))
    have hl1 : len1 ≤ 1048576 := by simp only [List.length_map, List.length_range] at hlen; omega
    have key : ∀ i, i < len1 → ∃ o : OpV, OpOk w w.heap.size o ∧ ∀ r, r < 5 → w.cell? ((a.add (i * 5)).add r) = o.cells[r]? := by
      intro i hil
      obtain ⟨cs', hc, ht'⟩ := hi i (by omega)
      obtain ⟨_, hcl, hat⟩ := World.cells?_some hc
      have hp := bulks.part_le (show D i ∈ (List.range len1).map D from List.mem_map.2 ⟨i, List.mem_range.2 hil, rfl⟩)
      obtain ⟨o, rfl, ho⟩ := op_open ht' (by show Rows.uptoBulk (D i) ≤ _; omega)
      exact ⟨o, ho, fun r hr => by
        have hr2 : r < o.cells.length := by simpa [OpV.cells] using hr
        have := hat r hr2
        rw [this, List.getElem?_eq_getElem hr2]⟩
    by_cases h0 : len1 = 0
    · subst h0
      exact ⟨[], rfl, by simp, fun h => by simp at h, by simp⟩
    · have hsp : a.spot = none := by
        obtain ⟨o, _, hc⟩ := key 0 (by omega)
        have h1 : w.cell? (((a.add (0 * 5))).add 0) = some (.bool o.other) := hc 0 (by omega)
        have h2 : (a.add (0 * 5)) = a := by simp [Addr.add]
        rw [h2] at h1
        exact spot_none h1
      obtain ⟨g, o, sp⟩ := a
      simp only at hsp
      subst hsp
      obtain ⟨R, hR⟩ := choose_lt (α := OpV) (p := fun i r => OpOk w w.heap.size r ∧ ∀ j, j < 5 → w.cell? (((⟨g, o, none⟩ : Addr).add (i * 5)).add j) = r.cells[j]?) key
      have hcell : ∀ j, j < len1 → ∀ r, r < 5 → w.cell? ⟨g, o + j * 5 + r, none⟩ = (R j).cells[r]? := fun j hj r hr => by
        have := (hR j hj).2 r hr
        rwa [add_at, add_at] at this
      have hg : g < w.heap.size := cell_lt (hcell 0 (by omega) 0 (by omega))
      refine ⟨(List.range len1).map R, by simp, ⟨by simpa using hl1, fun _ => ⟨g, o, rfl, hg, fun j hj => ?_⟩, ?_⟩⟩
      · simp only [List.length_map, List.length_range] at hj
        simp only [List.getElem_map, List.getElem_range]
        exact ⟨hcell j hj 0 (by omega), hcell j hj 1 (by omega), hcell j hj 2 (by omega), hcell j hj 3 (by omega), hcell j hj 4 (by omega)⟩
      · intro r hr
        obtain ⟨i, hi, rfl⟩ := List.mem_map.1 hr
        exact (hR i (List.mem_range.1 hi)).1
end
end Go.Proofs.Ytccgamaijjeafaa
