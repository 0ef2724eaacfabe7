/- ArenaOnce: lists of numbers as they come in. -/
import Derived.Test.YtccgamaijjeafaaG3
import Derived.Test.YtccgamaijjeafaaF4
namespace Go.Proofs.Ytccgamaijjeafaa
open Go.ChangeShapes Go.WideShapes Go.ChangeAt Go.RowKit Go.Deep
set_option linter.unusedVariables false
set_option linter.unusedSimpArgs false
section
variable {H : Type} {enc : TypeId × Value → H} {w : World} {base : Nat} {spare : Nat → Bool} {held : Bool} {fuel : Nat} {cs : List Value} {x : DataW H × List MemPlace}
theorem lists_open {a1 : Option Addr} {len1 cap1 : Nat} (h : DataW.trod enc Try.prog w base spare held fuel 36 [.slice a1 len1 cap1] = some x) (hB : Rows.uptoBulk x.1 ≤ 1048576) : ∃ rows : List (Option Addr × Nat × List Int), len1 = rows.length ∧ RowsIn w w.heap.size a1 rows := by
  rcases open_slice Try.underlying36 h with ⟨hcs, _⟩ | ⟨a, len, cap, m, n, D, Pl, hcs, hb, hl, hm, hmm, hx, hi⟩
  · simp at hcs
    obtain ⟨rfl, rfl, rfl⟩ := hcs
    exact ⟨[], rfl, by simp, fun h => by simp at h, by simp⟩
  · simp at hcs
    obtain ⟨rfl, rfl, rfl⟩ := hcs
    have hle : len1 ≤ m := by rw [hmm]; split <;> omega
    have hC : Try.prog.cellsOf 22 = 1 := by kernel_rfl
    rw [hC] at hi
    rw [hx] at hB
    have hB' : Rows.uptoBulk (DataW.slice ((List.range len1).map D) ((List.range (m - len1)).map fun j => D (len1 + j))) ≤ 1048576 := hB
    have hlen := bulks.slice_le ((List.range len1).map D) ((List.range (m - len1)).map fun j => D (len1 + j))
    have hl1 : len1 ≤ 1048576 := by simp only [List.length_map, List.length_range] at hlen; omega
    have key : ∀ i, i < len1 → ∃ r : Option Addr × Nat × List Int, (IntsIn w r.1 r.2.2 ∧ (∀ x ∈ r.2.2, i64 x) ∧ (0 < r.2.2.length → ∀ g p, r.1 = some ⟨g, p, none⟩ → g < w.heap.size)) ∧ w.cell? (a.add i) = some (.slice r.1 r.2.2.length r.2.1) := by
      intro i hil
      obtain ⟨cs', hc, ht'⟩ := hi i (by omega)
      obtain ⟨_, hcl, hat⟩ := World.cells?_some hc
      obtain ⟨A4, c4, l4, q4, r4, r5, r6, r7, r8⟩ := nums_open ht'
      subst q4
      refine ⟨⟨A4, c4, l4⟩, ⟨r4, r5, fun h0 g p e => r8 g p e h0⟩, ?_⟩
      have := hat 0 (by simp)
      simpa [Addr.add] using this
    by_cases h0 : len1 = 0
    · subst h0
      exact ⟨[], rfl, by simp, fun h => by simp at h, by simp⟩
    · have hsp : a.spot = none := by
        obtain ⟨o, _, hc⟩ := key 0 (by omega)
        exact spot_none hc
      obtain ⟨g, o, sp⟩ := a
      simp only at hsp
      subst hsp
      obtain ⟨R, hR⟩ := choose_lt (α := Option Addr × Nat × List Int) (p := fun i r => (IntsIn w r.1 r.2.2 ∧ (∀ x ∈ r.2.2, i64 x) ∧ (0 < r.2.2.length → ∀ g p, r.1 = some ⟨g, p, none⟩ → g < w.heap.size)) ∧ w.cell? ((⟨g, o, none⟩ : Addr).add i) = some (.slice r.1 r.2.2.length r.2.1)) key
      have hcell : ∀ j, j < len1 → w.cell? ⟨g, o + j, none⟩ = some (.slice (R j).1 (R j).2.2.length (R j).2.1) := fun j hj => by
        have := (hR j hj).2
        rwa [add_at] at this
      have hg : g < w.heap.size := cell_lt (hcell 0 (by omega))
      refine ⟨(List.range len1).map R, by simp, ⟨by simpa using hl1, fun _ => ⟨g, o, rfl, hg, fun j hj => ?_⟩, ?_⟩⟩
      · simp only [List.length_map, List.length_range] at hj
        simp only [List.getElem_map, List.getElem_range]
        exact hcell j hj
      · intro r hr
        obtain ⟨i, hi, rfl⟩ := List.mem_map.1 hr
        exact (hR i (List.mem_range.1 hi)).1
end
end Go.Proofs.Ytccgamaijjeafaa
