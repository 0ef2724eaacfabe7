/- What comes in: numbers; truth values; a script. -/
import Derived.Test.YtmfdcaalbpikpaaW13
import Derived.ProofKit
import Derived.OpenShut
import Derived.Deep.Slices
import Derived.Deep.Grids
import Derived.ChangeSlices
import Derived.Test.YtmfdcaalbpikpaaX26
import Derived.Test.YtmfdcaalbpikpaaBulk
namespace Go.Proofs.Ytmfdcaalbpikpaa
open Go.ChangeShapes Go.WideShapes Go.ChangeAt Go.RowKit Go.Deep
set_option linter.unusedVariables false
set_option linter.unusedSimpArgs false
instance : Inhabited OpD := ⟨⟨false, 0, 0, 0, 0, 0, 0, none, 0, [], none, 0, []⟩⟩
theorem i64_of_wf {n : Int} (h : (Lit.int .i64 n).wf = true) : i64 n := by
  unfold i64
  have h1 : IntKind.i64.min = -9223372036854775808 := by decide +kernel
  have h2 : IntKind.i64.max = 9223372036854775807 := by decide +kernel
  simp [Lit.wf] at h
  omega
theorem spot_none {w : World} {a : Addr} {v : Value} (hc : w.cell? (a.add 0) = some v) : a.spot = none := by
  simp only [Addr.add, if_pos] at hc
  unfold World.cell? at hc
  cases hs : a.spot with
  | none => rfl
  | some k =>
    rw [hs] at hc
    revert hc
    split <;> simp
theorem cell_lt {w : World} {g o : Nat} {v : Value} (h : w.cell? ⟨g, o, none⟩ = some v) : g < w.heap.size := by
  unfold World.cell? at h
  simp only at h
  rcases hh : w.heap[g]? with _ | ob
  · rw [hh] at h; simp at h
  · exact (Array.getElem?_eq_some_iff.1 hh).1
theorem add_at {g o k : Nat} : (⟨g, o, none⟩ : Addr).add k = ⟨g, o + k, none⟩ := by
  unfold Addr.add
  split
  · rename_i hz; rw [hz]; rfl
  · rfl
theorem choose_lt {α : Type} [Inhabited α] {n : Nat} {p : Nat → α → Prop} (h : ∀ i, i < n → ∃ r, p i r) : ∃ R : Nat → α, ∀ i, i < n → p i (R i) :=
  ⟨fun i => if hi : i < n then (h i hi).choose else default, fun i hi => by simp only [dif_pos hi]; exact (h i hi).choose_spec⟩
section
variable {H : Type} {enc : TypeId × Value → H} {w : World} {base : Nat} {spare : Nat → Bool} {held : Bool} {fuel : Nat} {cs : List Value} {x : DataW H × List MemPlace}
theorem nums_open (h : DataW.trod enc Try.prog w base spare held fuel 22 cs = some x) : ∃ A c xs, cs = [.slice A (List.length xs) c] ∧ IntsIn w A xs ∧ ∀ k ∈ xs, i64 k := by
  rcases open_ints Try.underlying22 Try.underlying3 (by kernel_rfl) h with ⟨hcs, _⟩ | ⟨a, len, cap, zs, hcs, hb, hl, hm, hzl, hx, hc, hwf⟩
  · exact ⟨none, 0, [], by simpa using hcs, ⟨by simp, fun h => by simp at h⟩, by simp⟩
  · have hle : len ≤ zs.length := by rw [hzl]; split <;> omega
    have hlen : (zs.take len).length = len := by rw [List.length_take]; omega
    have hal : len ≤ 9223372036854775807 := by unfold maxLen at hm; omega
    by_cases h0 : len = 0
    · subst h0
      exact ⟨some a, cap, [], by simpa using hcs, ⟨by simp, fun h => by simp at h⟩, by simp⟩
    · have hsp : a.spot = none := spot_none (hc 0 (by omega))
      obtain ⟨g, o, sp⟩ := a
      simp only at hsp
      subst hsp
      have hcc : ∀ j, j < len → w.cell? ⟨g, o + j, none⟩ = some (.int .i64 (zs.getD j 0)) := fun j hj => by have := hc j (by omega); rwa [add_at] at this
      have hg : g < w.heap.size := cell_lt (hcc 0 (by omega))
      refine ⟨some ⟨g, o, none⟩, cap, zs.take len, by rw [hlen]; exact hcs, ⟨by omega, fun _ => ⟨g, o, rfl, hg, fun j hj => ?_⟩⟩, fun k hk => i64_of_wf (hwf k (List.mem_of_mem_take hk))⟩
      rw [hlen] at hj
      rw [hcc j hj, List.getElem_take]
      simp [List.getD, show j < zs.length by omega]
theorem bools_open (h : DataW.trod enc Try.prog w base spare held fuel 34 cs = some x) : ∃ A c xs, cs = [.slice A (List.length xs) c] ∧ BoolsIn w A xs := by
  rcases open_slice1 Try.underlying34 (by kernel_rfl) h with ⟨hcs, _⟩ | ⟨a, len, cap, m, n, V, D, Pl, hcs, hb, hl, hm, hmm, hx, hi⟩
  · exact ⟨none, 0, [], by simpa using hcs, ⟨by simp, fun h => by simp at h⟩⟩
  · have hle : len ≤ m := by rw [hmm]; split <;> omega
    obtain ⟨B, hB⟩ := choose_lt (α := Bool) (p := fun i b => V i = .bool b) (n := m) (fun i hi' => by
      obtain ⟨b, h1, h2⟩ := DataW.trod_bool Try.underlying4 (hi i hi').2
      exact ⟨b, by simpa using h1⟩)
    have hal : len ≤ 9223372036854775807 := by unfold maxLen at hm; omega
    by_cases h0 : len = 0
    · subst h0
      exact ⟨some a, cap, [], by simpa using hcs, ⟨by simp, fun h => by simp at h⟩⟩
    · have hc : ∀ i, i < len → w.cell? (a.add i) = some (.bool (B i)) := fun i hil => by rw [(hi i (by omega)).1, hB i (by omega)]
      have hsp : a.spot = none := spot_none (hc 0 (by omega))
      obtain ⟨g, o, sp⟩ := a
      simp only at hsp
      subst hsp
      have hcc : ∀ j, j < len → w.cell? ⟨g, o + j, none⟩ = some (.bool (B j)) := fun j hj => by have := hc j hj; rwa [add_at] at this
      have hg : g < w.heap.size := cell_lt (hcc 0 (by omega))
      refine ⟨some ⟨g, o, none⟩, cap, (List.range len).map B, by simpa using hcs, ⟨by simpa using hal, fun _ => ⟨g, o, rfl, hg, fun j hj => ?_⟩⟩⟩
      simp only [List.length_map, List.length_range] at hj
      simp only [List.getElem_map, List.getElem_range]
      exact hcc j hj
set_option maxRecDepth 100000 in
theorem opd_open (h : DataW.trod enc Try.prog w base spare held fuel 37 cs = some x) : ∃ o : OpD, cs = o.cells ∧ OpDOk w o := by
  obtain ⟨xs, n, _, hx, hl, hlen, hf⟩ := DataW.trod_struct Try.underlying37 h
  have hC : Try.prog.cellsOf 37 = 9 := by kernel_rfl
  have hC3 : Try.prog.cellsOf 3 = 1 := by kernel_rfl
  have hC4 : Try.prog.cellsOf 4 = 1 := by kernel_rfl
  have hC22 : Try.prog.cellsOf 22 = 1 := by kernel_rfl
  have hC34 : Try.prog.cellsOf 34 = 1 := by kernel_rfl
  rw [hC] at hl
  match xs, hlen with
  | [y0, y1, y2, y3, y4, y5, y6, y7, y8], _ =>
    have g0 := hf 0 _ rfl
    have g1 := hf 1 _ rfl
    have g2 := hf 2 _ rfl
    have g3 := hf 3 _ rfl
    have g4 := hf 4 _ rfl
    have g5 := hf 5 _ rfl
    have g6 := hf 6 _ rfl
    have g7 := hf 7 _ rfl
    have g8 := hf 8 _ rfl
    match cs, hl with
    | [e0, e1, e2, e3, e4, e5, e6, e7, e8], _ =>
      simp [hC4] at g0
      simp [hC3] at g1 g2 g3 g4 g5 g6
      simp [hC34] at g7
      simp [hC22] at g8
      obtain ⟨v0, q0, _⟩ := DataW.trod_bool Try.underlying4 g0
      obtain ⟨v1, q1, _, u1⟩ := DataW.trod_int Try.underlying3 g1
      obtain ⟨v2, q2, _, u2⟩ := DataW.trod_int Try.underlying3 g2
      obtain ⟨v3, q3, _, u3⟩ := DataW.trod_int Try.underlying3 g3
      obtain ⟨v4, q4, _, u4⟩ := DataW.trod_int Try.underlying3 g4
      obtain ⟨v5, q5, _, u5⟩ := DataW.trod_int Try.underlying3 g5
      obtain ⟨v6, q6, _, u6⟩ := DataW.trod_int Try.underlying3 g6
      obtain ⟨A7, c7, l7, q7, r7⟩ := bools_open g7
      obtain ⟨A8, c8, l8, q8, r8, _⟩ := nums_open g8
      simp at q0 q1 q2 q3 q4 q5 q6 q7 q8
      subst q0 q1 q2 q3 q4 q5 q6 q7 q8
      exact ⟨⟨v0, v1, v2, v3, v4, v5, v6, A7, c7, l7, A8, c8, l8⟩, rfl, ⟨i64_of_wf u1, i64_of_wf u2, i64_of_wf u3, i64_of_wf u4, i64_of_wf u5, i64_of_wf u6, r7, r8⟩⟩
theorem script_open {a1 : Option Addr} {len1 cap1 : Nat} (h : DataW.trod enc Try.prog w base spare held fuel 23 [.slice a1 len1 cap1] = some x) : ∃ ops : List OpD, len1 = ops.length ∧ (0 < ops.length → ∃ g o, a1 = some ⟨g, o, none⟩ ∧ g < w.heap.size ∧ ∀ j (hj : j < ops.length) r, r < 9 → w.cell? ⟨g, o + j * 9 + r, none⟩ = (ops[j]'hj).cells[r]?) ∧ (∀ op ∈ ops, OpDOk w op) ∧
    (0 < ops.length → ∃ elems sp, x.1 = .slice elems sp ∧ ops.length ≤ elems.length) := by
  rcases open_slice Try.underlying23 h with ⟨hcs, _⟩ | ⟨a, len, cap, m, n, D, Pl, hcs, hb, hl, hm, hmm, hx, hi⟩
  · simp at hcs
    obtain ⟨rfl, rfl, rfl⟩ := hcs
    exact ⟨[], rfl, fun h => by simp at h, by simp, fun h => by simp at h⟩
  · simp at hcs
    obtain ⟨rfl, rfl, rfl⟩ := hcs
    have hle : len1 ≤ m := by rw [hmm]; split <;> omega
    have hC : Try.prog.cellsOf 37 = 9 := by kernel_rfl
    rw [hC] at hi
    have key : ∀ i, i < len1 → ∃ o : OpD, OpDOk w o ∧ ∀ r, r < 9 → w.cell? ((a.add (i * 9)).add r) = o.cells[r]? := by
      intro i hil
      obtain ⟨cs', hc, ht'⟩ := hi i (by omega)
      obtain ⟨_, hcl, hat⟩ := World.cells?_some hc
      obtain ⟨o, rfl, ho⟩ := opd_open ht'
      exact ⟨o, ho, fun r hr => by
        have hr2 : r < o.cells.length := by simpa [OpD.cells] using hr
        have := hat r hr2
        rw [this, List.getElem?_eq_getElem hr2]⟩
    by_cases h0 : len1 = 0
    · subst h0
      exact ⟨[], rfl, fun h => by simp at h, by simp, fun h => by simp at h⟩
    · have hsp : a.spot = none := by
        obtain ⟨o, _, hc⟩ := key 0 (by omega)
        have h1 : w.cell? (((a.add (0 * 9))).add 0) = some (.bool o.near) := hc 0 (by omega)
        have h2 : (a.add (0 * 9)) = a := by simp [Addr.add]
        rw [h2] at h1
        exact spot_none h1
      obtain ⟨g, o, sp⟩ := a
      simp only at hsp
      subst hsp
      obtain ⟨R, hR⟩ := choose_lt (α := OpD) (p := fun i r => OpDOk w r ∧ ∀ j, j < 9 → w.cell? (((⟨g, o, none⟩ : Addr).add (i * 9)).add j) = r.cells[j]?) key
      have hcell : ∀ j, j < len1 → ∀ r, r < 9 → w.cell? ⟨g, o + j * 9 + r, none⟩ = (R j).cells[r]? := fun j hj r hr => by
        have := (hR j hj).2 r hr
        rwa [add_at, add_at] at this
      have hg : g < w.heap.size := cell_lt (hcell 0 (by omega) 0 (by omega))
      refine ⟨(List.range len1).map R, by simp, fun _ => ⟨g, o, rfl, hg, fun j hj r hr => ?_⟩, fun r hr => ?_, fun _ => ⟨_, _, by rw [hx], by simp⟩⟩
      · simp only [List.length_map, List.length_range] at hj
        simp only [List.getElem_map, List.getElem_range]
        exact hcell j hj r hr
      · obtain ⟨i, hi, rfl⟩ := List.mem_map.1 hr
        exact (hR i (List.mem_range.1 hi)).1
end
end Go.Proofs.Ytmfdcaalbpikpaa
namespace Go.Proofs.Ytmfdcaalbpikpaa
open Go.ChangeShapes Go.WideShapes Go.ChangeAt Go.RowKit Go.Deep
set_option linter.unusedVariables false
set_option linter.unusedSimpArgs false
section
variable {H : Type} {enc : TypeId × Value → H} {w : World} {base : Nat} {spare : Nat → Bool} {held : Bool} {fuel : Nat} {cs : List Value} {x : DataW H × List MemPlace}
set_option maxRecDepth 100000 in
theorem opd_open2 (h : DataW.trod enc Try.prog w base spare held fuel 37 cs = some x) : ∃ o : OpD, cs = o.cells ∧ OpDOk w o ∧ ∀ x ∈ o.cls, i64 x := by
  obtain ⟨xs, n, _, hx, hl, hlen, hf⟩ := DataW.trod_struct Try.underlying37 h
  have hC : Try.prog.cellsOf 37 = 9 := by kernel_rfl
  have hC3 : Try.prog.cellsOf 3 = 1 := by kernel_rfl
  have hC4 : Try.prog.cellsOf 4 = 1 := by kernel_rfl
  have hC22 : Try.prog.cellsOf 22 = 1 := by kernel_rfl
  have hC34 : Try.prog.cellsOf 34 = 1 := by kernel_rfl
  rw [hC] at hl
  match xs, hlen with
  | [y0, y1, y2, y3, y4, y5, y6, y7, y8], _ =>
    have g0 := hf 0 _ rfl
    have g1 := hf 1 _ rfl
    have g2 := hf 2 _ rfl
    have g3 := hf 3 _ rfl
    have g4 := hf 4 _ rfl
    have g5 := hf 5 _ rfl
    have g6 := hf 6 _ rfl
    have g7 := hf 7 _ rfl
    have g8 := hf 8 _ rfl
    match cs, hl with
    | [e0, e1, e2, e3, e4, e5, e6, e7, e8], _ =>
      simp [hC4] at g0
      simp [hC3] at g1 g2 g3 g4 g5 g6
      simp [hC34] at g7
      simp [hC22] at g8
      obtain ⟨v0, q0, _⟩ := DataW.trod_bool Try.underlying4 g0
      obtain ⟨v1, q1, _, u1⟩ := DataW.trod_int Try.underlying3 g1
      obtain ⟨v2, q2, _, u2⟩ := DataW.trod_int Try.underlying3 g2
      obtain ⟨v3, q3, _, u3⟩ := DataW.trod_int Try.underlying3 g3
      obtain ⟨v4, q4, _, u4⟩ := DataW.trod_int Try.underlying3 g4
      obtain ⟨v5, q5, _, u5⟩ := DataW.trod_int Try.underlying3 g5
      obtain ⟨v6, q6, _, u6⟩ := DataW.trod_int Try.underlying3 g6
      obtain ⟨A7, c7, l7, q7, r7⟩ := bools_open g7
      obtain ⟨A8, c8, l8, q8, r8, r9⟩ := nums_open g8
      simp at q0 q1 q2 q3 q4 q5 q6 q7 q8
      subst q0 q1 q2 q3 q4 q5 q6 q7 q8
      exact ⟨⟨v0, v1, v2, v3, v4, v5, v6, A7, c7, l7, A8, c8, l8⟩, rfl, ⟨i64_of_wf u1, i64_of_wf u2, i64_of_wf u3, i64_of_wf u4, i64_of_wf u5, i64_of_wf u6, r7, r8⟩, r9⟩
theorem script_open2 {a1 : Option Addr} {len1 cap1 : Nat} (h : DataW.trod enc Try.prog w base spare held fuel 23 [.slice a1 len1 cap1] = some x) : ∃ ops : List OpD, len1 = ops.length ∧ (0 < ops.length → ∃ g o, a1 = some ⟨g, o, none⟩ ∧ g < w.heap.size ∧ ∀ j (hj : j < ops.length) r, r < 9 → w.cell? ⟨g, o + j * 9 + r, none⟩ = (ops[j]'hj).cells[r]?) ∧ (∀ op ∈ ops, OpDOk w op ∧ ∀ x ∈ op.cls, i64 x) ∧
    (0 < ops.length → ∃ elems sp, x.1 = .slice elems sp ∧ ops.length ≤ elems.length) := by
  rcases open_slice Try.underlying23 h with ⟨hcs, _⟩ | ⟨a, len, cap, m, n, D, Pl, hcs, hb, hl, hm, hmm, hx, hi⟩
  · simp at hcs
    obtain ⟨rfl, rfl, rfl⟩ := hcs
    exact ⟨[], rfl, fun h => by simp at h, by simp, fun h => by simp at h⟩
  · simp at hcs
    obtain ⟨rfl, rfl, rfl⟩ := hcs
    have hle : len1 ≤ m := by rw [hmm]; split <;> omega
    have hC : Try.prog.cellsOf 37 = 9 := by kernel_rfl
    rw [hC] at hi
    have key : ∀ i, i < len1 → ∃ o : OpD, (OpDOk w o ∧ ∀ x ∈ o.cls, i64 x) ∧ ∀ r, r < 9 → w.cell? ((a.add (i * 9)).add r) = o.cells[r]? := by
      intro i hil
      obtain ⟨cs', hc, ht'⟩ := hi i (by omega)
      obtain ⟨_, hcl, hat⟩ := World.cells?_some hc
      obtain ⟨o, rfl, ho⟩ := opd_open2 ht'
      exact ⟨o, ho, fun r hr => by
        have hr2 : r < o.cells.length := by simpa [OpD.cells] using hr
        have := hat r hr2
        rw [this, List.getElem?_eq_getElem hr2]⟩
    by_cases h0 : len1 = 0
    · subst h0
      exact ⟨[], rfl, fun h => by simp at h, by simp, fun h => by simp at h⟩
    · have hsp : a.spot = none := by
        obtain ⟨o, _, hc⟩ := key 0 (by omega)
        have h1 : w.cell? (((a.add (0 * 9))).add 0) = some (.bool o.near) := hc 0 (by omega)
        have h2 : (a.add (0 * 9)) = a := by simp [Addr.add]
        rw [h2] at h1
        exact spot_none h1
      obtain ⟨g, o, sp⟩ := a
      simp only at hsp
      subst hsp
      obtain ⟨R, hR⟩ := choose_lt (α := OpD) (p := fun i r => (OpDOk w r ∧ ∀ x ∈ r.cls, i64 x) ∧ ∀ j, j < 9 → w.cell? (((⟨g, o, none⟩ : Addr).add (i * 9)).add j) = r.cells[j]?) key
      have hcell : ∀ j, j < len1 → ∀ r, r < 9 → w.cell? ⟨g, o + j * 9 + r, none⟩ = (R j).cells[r]? := fun j hj r hr => by
        have := (hR j hj).2 r hr
        rwa [add_at, add_at] at this
      have hg : g < w.heap.size := cell_lt (hcell 0 (by omega) 0 (by omega))
      refine ⟨(List.range len1).map R, by simp, fun _ => ⟨g, o, rfl, hg, fun j hj r hr => ?_⟩, fun r hr => ?_, fun _ => ⟨_, _, by rw [hx], by simp⟩⟩
      · simp only [List.length_map, List.length_range] at hj
        simp only [List.getElem_map, List.getElem_range]
        exact hcell j hj r hr
      · obtain ⟨i, hi, rfl⟩ := List.mem_map.1 hr
        exact (hR i (List.mem_range.1 hi)).1
end
end Go.Proofs.Ytmfdcaalbpikpaa
namespace Go.Proofs.Ytmfdcaalbpikpaa
open Go.ChangeShapes Go.WideShapes Go.ChangeAt Go.RowKit Go.Deep
set_option linter.unusedVariables false
set_option linter.unusedSimpArgs false
section
variable {H : Type} {enc : TypeId × Value → H} {w : World} {base : Nat} {spare : Nat → Bool} {held : Bool} {fuel : Nat} {cs : List Value} {x : DataW H × List MemPlace}
theorem slice_bulk {t e : TypeId} (ht : Try.prog.underlying t = some (.slice e)) {A : Option Addr} {n c : Nat} (h : DataW.trod enc Try.prog w base spare held fuel t [.slice A n c] = some x) : n ≤ Rows.uptoBulk x.1 := by
  rcases open_slice ht h with ⟨hcs, _⟩ | ⟨a, len, cap, m, k, D, Pl, hcs, hb, hl, hm, hmm, hx, hi⟩
  · simp at hcs
    omega
  · simp at hcs
    obtain ⟨_, rfl, _⟩ := hcs
    rw [hx]
    have h1 := bulks.slice_le ((List.range n).map D) ((List.range (m - n)).map fun j => D (n + j))
    rw [List.length_map, List.length_range] at h1
    show n ≤ Rows.uptoBulk (DataW.slice ((List.range n).map D) ((List.range (m - n)).map fun j => D (n + j)))
    omega
set_option maxRecDepth 100000 in
theorem opd_bulk {o : OpD} (h : DataW.trod enc Try.prog w base spare held fuel 37 o.cells = some x) : o.ins.length ≤ Rows.uptoBulk x.1 ∧ o.cls.length ≤ Rows.uptoBulk x.1 := by
  obtain ⟨xs, n, _, hx, hl, hlen, hf⟩ := DataW.trod_struct Try.underlying37 h
  have hC : Try.prog.cellsOf 37 = 9 := by kernel_rfl
  have hC3 : Try.prog.cellsOf 3 = 1 := by kernel_rfl
  have hC4 : Try.prog.cellsOf 4 = 1 := by kernel_rfl
  have hC22 : Try.prog.cellsOf 22 = 1 := by kernel_rfl
  have hC34 : Try.prog.cellsOf 34 = 1 := by kernel_rfl
  match xs, hlen with
  | [y0, y1, y2, y3, y4, y5, y6, y7, y8], _ =>
    have g7 := hf 7 _ rfl
    have g8 := hf 8 _ rfl
    simp [OpD.cells, hC34] at g7
    simp [OpD.cells, hC22] at g8
    have b7 := slice_bulk Try.underlying34 g7
    have b8 := slice_bulk Try.underlying22 g8
    have hb : Rows.uptoBulk y7.1 ≤ Rows.uptoBulk x.1 ∧ Rows.uptoBulk y8.1 ≤ Rows.uptoBulk x.1 := by
      rw [hx]
      show Rows.uptoBulk y7.1 ≤ Rows.uptoBulk (DataW.agg [y0.1, y1.1, y2.1, y3.1, y4.1, y5.1, y6.1, y7.1, y8.1]) ∧ Rows.uptoBulk y8.1 ≤ Rows.uptoBulk (DataW.agg [y0.1, y1.1, y2.1, y3.1, y4.1, y5.1, y6.1, y7.1, y8.1])
      simp only [Rows.uptoBulk, Rows.uptoBulkAll]
      omega
    omega
theorem scr_open {a1 : Option Addr} {len1 cap1 : Nat} (h : DataW.trod enc Try.prog w base spare held fuel 23 [.slice a1 len1 cap1] = some x) (hB : Rows.uptoBulk x.1 ≤ 1048576) : ∃ ops : List OpD, len1 = ops.length ∧ ScrIn w a1 ops := by
  rcases open_slice Try.underlying23 h with ⟨hcs, _⟩ | ⟨a, len, cap, m, n, D, Pl, hcs, hb, hl, hm, hmm, hx, hi⟩
  · simp at hcs
    obtain ⟨rfl, rfl, rfl⟩ := hcs
    exact ⟨[], rfl, by simp, fun h => by simp at h, by simp⟩
  · simp at hcs
    obtain ⟨rfl, rfl, rfl⟩ := hcs
    have hle : len1 ≤ m := by rw [hmm]; split <;> omega
    have hC : Try.prog.cellsOf 37 = 9 := by kernel_rfl
    rw [hC] at hi
    rw [hx] at hB
    have hB' : Rows.uptoBulk (DataW.slice ((List.range len1).map D) ((List.range (m - len1)).map fun j => D (len1 + j))) ≤ 1048576 := hB
    have hlen := bulks.slice_le ((List.range len1).map D) ((List.range (m - len1)).map fun j => D (len1 + j))
    have hel := bulks.slice_elems ((List.range len1).map D) ((List.range (m - len1)).map fun j => D (len1 + j))
    have hl1 : len1 ≤ 1048576 := by simp only [List.length_map, List.length_range] at hlen; omega
    have key : ∀ i, i < len1 → ∃ o : OpD, (OpDOk w o ∧ (∀ x ∈ o.cls, i64 x) ∧ o.ins.length ≤ 1048576 ∧ o.cls.length ≤ 1048576) ∧ ∀ r, r < 9 → w.cell? ((a.add (i * 9)).add r) = o.cells[r]? := by
      intro i hil
      obtain ⟨cs', hc, ht'⟩ := hi i (by omega)
      obtain ⟨_, hcl, hat⟩ := World.cells?_some hc
      have hp := bulks.part_le (show D i ∈ (List.range len1).map D from List.mem_map.2 ⟨i, List.mem_range.2 hil, rfl⟩)
      obtain ⟨o, rfl, ho⟩ := opd_open2 ht'
      have hbo := opd_bulk ht'
      have hb1 : Rows.uptoBulk (D i) ≤ 1048576 := by omega
      have hb2 : o.ins.length ≤ Rows.uptoBulk (D i) ∧ o.cls.length ≤ Rows.uptoBulk (D i) := hbo
      exact ⟨o, ⟨ho.1, ho.2, by omega, by omega⟩, fun r hr => by
        have hr2 : r < o.cells.length := by simpa [OpD.cells] using hr
        have := hat r hr2
        rw [this, List.getElem?_eq_getElem hr2]⟩
    by_cases h0 : len1 = 0
    · subst h0
      exact ⟨[], rfl, by simp, fun h => by simp at h, by simp⟩
    · have hsp : a.spot = none := by
        obtain ⟨o, _, hc⟩ := key 0 (by omega)
        have h1 : w.cell? (((a.add (0 * 9))).add 0) = some (.bool o.near) := hc 0 (by omega)
        have h2 : (a.add (0 * 9)) = a := by simp [Addr.add]
        rw [h2] at h1
        exact spot_none h1
      obtain ⟨g, o, sp⟩ := a
      simp only at hsp
      subst hsp
      obtain ⟨R, hR⟩ := choose_lt (α := OpD) (p := fun i r => (OpDOk w r ∧ (∀ x ∈ r.cls, i64 x) ∧ r.ins.length ≤ 1048576 ∧ r.cls.length ≤ 1048576) ∧ ∀ j, j < 9 → w.cell? (((⟨g, o, none⟩ : Addr).add (i * 9)).add j) = r.cells[j]?) key
      have hcell : ∀ j, j < len1 → ∀ r, r < 9 → w.cell? ⟨g, o + j * 9 + r, none⟩ = (R j).cells[r]? := fun j hj r hr => by
        have := (hR j hj).2 r hr
        rwa [add_at, add_at] at this
      have hg : g < w.heap.size := cell_lt (hcell 0 (by omega) 0 (by omega))
      refine ⟨(List.range len1).map R, by simp, ⟨by simpa using hl1, fun _ => ⟨g, o, rfl, hg, fun j hj r hr => ?_⟩, fun r hr => ?_⟩⟩
      · simp only [List.length_map, List.length_range] at hj
        simp only [List.getElem_map, List.getElem_range]
        exact hcell j hj r hr
      · obtain ⟨i, hi, rfl⟩ := List.mem_map.1 hr
        exact (hR i (List.mem_range.1 hi)).1
end
end Go.Proofs.Ytmfdcaalbpikpaa
