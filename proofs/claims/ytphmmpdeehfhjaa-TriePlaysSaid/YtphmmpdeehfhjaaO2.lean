/- A slice of ops as it comes in: its cells. -/
import Derived.Test.YtphmmpdeehfhjaaU3
import Derived.Test.YtphmmpdeehfhjaaO1
namespace Go.Proofs.Ytphmmpdeehfhjaa
open Go.ChangeShapes Go.WideShapes Go.ChangeAt Go.RowKit Go.Deep
set_option linter.unusedVariables false
set_option linter.unusedSimpArgs false
instance : Inhabited OpV := ⟨⟨0, 0, 0, 0, 0, none, 0, [], none, 0, []⟩⟩
theorem spot_none {w : World} {a : Addr} {v : Value} (hc : w.cell? (a.add 0) = some v) : a.spot = none := by
  simp only [Addr.add, if_pos] at hc
  unfold World.cell? at hc
  cases hs : a.spot with
  | none => rfl
  | some k =>
    rw [hs] at hc
    revert hc
    split <;> simp
theorem add_at {g o k : Nat} : (⟨g, o, none⟩ : Addr).add k = ⟨g, o + k, none⟩ := by
  unfold Addr.add
  split
  · rename_i hz; rw [hz]; rfl
  · rfl
section
variable {H : Type} {enc : TypeId × Value → H} {w : World} {base : Nat} {spare : Nat → Bool} {held : Bool} {fuel : Nat} {cs : List Value} {x : DataW H × List MemPlace}
theorem ints_open (h : DataW.trod enc Try.prog w base spare held fuel 43 cs = some x) : ∃ A c xs, cs = [.slice A (List.length xs) c] ∧ LabRaw w A xs := by
  rcases open_slice Try.underlying43 h with ⟨hcs, _⟩ | ⟨a, len, cap, m, n, D, Pl, hcs, hb, hl, hm, hmm, hx, hi⟩
  · exact ⟨none, 0, [], by simpa using hcs, by simp, fun h => by simp at h⟩
  · have hle : len ≤ m := by rw [hmm]; split <;> omega
    have hC : Try.prog.cellsOf 3 = 1 := by kernel_rfl
    rw [hC] at hi
    have key : ∀ i, i < len → ∃ v : Int, w.cell? (a.add i) = some (.int .i64 v) := by
      intro i hil
      obtain ⟨cs', hc, ht'⟩ := hi i (by omega)
      obtain ⟨_, hcl, hat⟩ := World.cells?_some hc
      obtain ⟨v0, q0, _, u0⟩ := DataW.trod_int Try.underlying3 ht'
      refine ⟨v0, ?_⟩
      subst q0
      have := hat 0 (by simp)
      simpa [Addr.add] using this
    by_cases h0 : len = 0
    · subst h0
      exact ⟨some a, cap, [], hcs, by simp, fun h => by simp at h⟩
    · obtain ⟨v, hv⟩ := key 0 (by omega)
      have hsp := spot_none hv
      obtain ⟨g, o, sp⟩ := a
      simp only at hsp
      subst hsp
      obtain ⟨R, hR⟩ := choose_lt (α := Int) (p := fun i r => w.cell? ((⟨g, o, none⟩ : Addr).add i) = some (.int .i64 r)) key
      refine ⟨some ⟨g, o, none⟩, cap, (List.range len).map R, by simpa using hcs, by simp; unfold maxLen at hm; omega, fun _ => ⟨g, o, rfl, fun j hj => ?_⟩⟩
      simp at hj
      have := hR j hj
      rw [add_at] at this
      simpa using this
theorem rowsl_open (h : DataW.trod enc Try.prog w base spare held fuel 44 cs = some x) : ∃ A c rows, cs = [.slice A (List.length rows) c] ∧ RowsIn w A rows := by
  rcases open_slice Try.underlying44 h with ⟨hcs, _⟩ | ⟨a, len, cap, m, n, D, Pl, hcs, _⟩
  · exact ⟨none, 0, [], by simpa using hcs, by simp, fun h => by simp at h⟩
  · subst hcs
    obtain ⟨rows, rfl, hR, _⟩ := rowsarg_open h
    exact ⟨some a, cap, rows, rfl, hR⟩
theorem op_open (h : DataW.trod enc Try.prog w base spare held fuel 46 cs = some x) : ∃ o : OpV, cs = o.cells ∧ OpOk w o := by
  obtain ⟨xs, n, _, rfl, hl, hlen, hf⟩ := DataW.trod_struct Try.underlying46 h
  have hC : Try.prog.cellsOf 46 = 7 := by kernel_rfl
  have hC3 : Try.prog.cellsOf 3 = 1 := by kernel_rfl
  have hC42 : Try.prog.cellsOf 42 = 2 := by kernel_rfl
  have hC43 : Try.prog.cellsOf 43 = 1 := by kernel_rfl
  have hC44 : Try.prog.cellsOf 44 = 1 := by kernel_rfl
  rw [hC] at hl
  match xs, hlen with
  | [y0, y1, y2, y3, y4, y5], _ =>
    have g0 := hf 0 _ rfl
    have g1 := hf 1 _ rfl
    have g2 := hf 2 _ rfl
    have g3 := hf 3 _ rfl
    have g4 := hf 4 _ rfl
    have g5 := hf 5 _ rfl
    match cs, hl with
    | [e0, e1, e2, e3, e4, e5, e6], _ =>
      simp [hC3] at g0
      simp [hC3] at g1
      simp [hC3] at g2
      simp [hC42] at g3
      simp [hC43] at g4
      simp [hC44] at g5
      obtain ⟨v0, q0, _, u0⟩ := DataW.trod_int Try.underlying3 g0
      obtain ⟨v1, q1, _, u1⟩ := DataW.trod_int Try.underlying3 g1
      obtain ⟨v2, q2, _, u2⟩ := DataW.trod_int Try.underlying3 g2
      obtain ⟨z0, z1, n2, _, _, hg0, hg1⟩ := trod_struct2 Try.underlying42 g3
      rw [hC3] at hg0 hg1
      obtain ⟨v3, q3, _, u3⟩ := DataW.trod_int Try.underlying3 hg0
      obtain ⟨v4, q4, _, u4⟩ := DataW.trod_int Try.underlying3 hg1
      obtain ⟨A5, c5, l5, q5, r5⟩ := ints_open g4
      obtain ⟨A6, c6, l6, q6, r6⟩ := rowsl_open g5
      simp at q0 q1 q2 q3 q4 q5 q6
      subst q0 q1 q2 q3 q4 q5 q6
      exact ⟨⟨v0, v1, v2, v3, v4, A5, c5, l5, A6, c6, l6⟩, rfl, ⟨i64_of_wf u2, i64_of_wf u1, r5, r6⟩⟩
theorem ops_open {a1 : Option Addr} {len1 cap1 : Nat} (h : DataW.trod enc Try.prog w base spare held fuel 22 [.slice a1 len1 cap1] = some x) : ∃ ops : List OpV, len1 = ops.length ∧ OpsIn w a1 ops := by
  rcases open_slice Try.underlying22 h with ⟨hcs, _⟩ | ⟨a, len, cap, m, n, D, Pl, hcs, hb, hl, hm, hmm, hx, hi⟩
  · simp at hcs
    obtain ⟨rfl, rfl, rfl⟩ := hcs
    exact ⟨[], rfl, by simp, fun h => by simp at h, by simp⟩
  · simp at hcs
    obtain ⟨rfl, rfl, rfl⟩ := hcs
    have hle : len1 ≤ m := by rw [hmm]; split <;> omega
    have hC : Try.prog.cellsOf 46 = 7 := by kernel_rfl
    rw [hC] at hi
    have key : ∀ i, i < len1 → ∃ o : OpV, OpOk w o ∧ ∀ r, r < 7 → w.cell? ((a.add (i * 7)).add r) = o.cells[r]? := by
      intro i hil
      obtain ⟨cs', hc, ht'⟩ := hi i (by omega)
      obtain ⟨_, hcl, hat⟩ := World.cells?_some hc
      obtain ⟨o, rfl, ho⟩ := op_open ht'
      exact ⟨o, ho, fun r hr => by
        have hr2 : r < o.cells.length := by simpa [OpV.cells] using hr
        have := hat r hr2
        rw [this, List.getElem?_eq_getElem hr2]⟩
    by_cases h0 : len1 = 0
    · subst h0
      exact ⟨[], rfl, by simp, fun h => by simp at h, by simp⟩
    · have hsp : a.spot = none := by
        obtain ⟨o, _, hc⟩ := key 0 (by omega)
        have h1 : w.cell? (((a.add (0 * 7))).add 0) = some (.int .i64 o.kind) := hc 0 (by omega)
        have h2 : (a.add (0 * 7)) = a := by simp [Addr.add]
        rw [h2] at h1
        exact spot_none h1
      obtain ⟨g, o, sp⟩ := a
      simp only at hsp
      subst hsp
      obtain ⟨R, hR⟩ := choose_lt (α := OpV) (p := fun i r => OpOk w r ∧ ∀ j, j < 7 → w.cell? (((⟨g, o, none⟩ : Addr).add (i * 7)).add j) = r.cells[j]?) key
      refine ⟨(List.range len1).map R, by simp, ⟨by simp; unfold maxLen at hm; omega, fun _ => ⟨g, o, rfl, fun j hj r hr => ?_⟩, ?_⟩⟩
      · simp at hj
        have := (hR j hj).2 r hr
        rw [add_at, add_at] at this
        simp only [List.getElem_map, List.getElem_range]
        exact this
      · intro r hr
        obtain ⟨i, hi, rfl⟩ := List.mem_map.1 hr
        exact (hR i (List.mem_range.1 hi)).1
end
end Go.Proofs.Ytphmmpdeehfhjaa
