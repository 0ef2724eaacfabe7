/- A slice of Put (a prefix, a label) as it comes in: its cells. -/
import Derived.Test.YtphmmpdeehfhjaaL1
import Derived.ProofKit
import Derived.OpenShut
import Derived.Deep.Slices
namespace Go.Proofs.Ytphmmpdeehfhjaa
open Go.ChangeShapes Go.WideShapes Go.ChangeAt Go.RowKit Go.Deep
set_option linter.unusedVariables false
set_option linter.unusedSimpArgs false
instance : Inhabited Row := ⟨⟨0, 0, 0⟩⟩
/-- What the walk is told of a slice of rows that came in. -/
def IsRows (w : World) (a : Option Addr) (len : Nat) : Prop := ∃ rows : List Row, len = rows.length ∧ RowsIn w a rows ∧ ∀ r ∈ rows, r.wf
theorem i64_of_wf {n : Int} (h : (Lit.int .i64 n).wf = true) : i64 n := by
  unfold i64
  have h1 : IntKind.i64.min = -9223372036854775808 := by decide +kernel
  have h2 : IntKind.i64.max = 9223372036854775807 := by decide +kernel
  simp [Lit.wf] at h
  omega
section
variable {H : Type} {enc : TypeId × Value → H} {w : World} {base : Nat} {spare : Nat → Bool} {held : Bool}
theorem rows_open {t e s : TypeId} {f0 f1 g0 g1 : Field} {fuel : Nat} {a1 : Option Addr} {len1 cap1 : Nat} {x : DataW H × List MemPlace}
    (ht : Try.prog.underlying t = some (.slice e)) (he : Try.prog.underlying e = some (.struct #[f0, f1])) (hs : Try.prog.underlying s = some (.struct #[g0, g1])) (h3 : Try.prog.underlying 3 = some (.int .i64))
    (hC : Try.prog.cellsOf e = 3) (hCs : Try.prog.cellsOf s = 2) (hC3 : Try.prog.cellsOf 3 = 1)
    (e0 : f0.type = s) (e1 : f1.type = 3) (e2 : g0.type = 3) (e3 : g1.type = 3) (o0 : f0.offset = 0) (o1 : f1.offset = 2) (o2 : g0.offset = 0) (o3 : g1.offset = 1)
    (h : DataW.trod enc Try.prog w base spare held fuel t [.slice a1 len1 cap1] = some x) : IsRows w a1 len1 := by
  rcases open_slice ht h with ⟨hcs, _⟩ | ⟨a, len, cap, m, n, D, Pl, hcs, hb, hl, hm, hmm, hx, hi⟩
  · simp at hcs
    obtain ⟨rfl, rfl, rfl⟩ := hcs
    exact ⟨[], rfl, ⟨by simp, fun h => by simp at h⟩, by simp⟩
  · simp at hcs
    obtain ⟨rfl, rfl, rfl⟩ := hcs
    have hle : len1 ≤ m := by rw [hmm]; split <;> omega
    rw [hC] at hi
    have key : ∀ i, i < len1 → ∃ r : Row, r.wf ∧ w.cell? (a.add (i * 3)) = some (.int .i64 r.a) ∧ w.cell? ((a.add (i * 3)).add 1) = some (.int .i64 r.b) ∧ w.cell? ((a.add (i * 3)).add 2) = some (.int .i64 r.l) := by
      intro i hil
      obtain ⟨cs', hc, ht'⟩ := hi i (by omega)
      obtain ⟨_, hcl, hat⟩ := World.cells?_some hc
      obtain ⟨y0, y1, n1, _, _, hf0, hf1⟩ := trod_struct2 he ht'
      rw [e0, o0, hCs] at hf0
      rw [e1, o1, hC3] at hf1
      obtain ⟨z0, z1, n2, _, _, hg0, hg1⟩ := trod_struct2 hs hf0
      rw [e2, o2, hC3] at hg0
      rw [e3, o3, hC3] at hg1
      obtain ⟨v0, q0, _, u0⟩ := DataW.trod_int h3 hg0
      obtain ⟨v1, q1, _, u1⟩ := DataW.trod_int h3 hg1
      obtain ⟨v2, q2, _, u2⟩ := DataW.trod_int h3 hf1
      match cs', hcl with
      | [c0, c1, c2], _ =>
        simp at q0 q1 q2
        subst q0 q1 q2
        refine ⟨⟨v0, v1, v2⟩, ⟨i64_of_wf u0, i64_of_wf u1, i64_of_wf u2⟩, ?_, ?_, ?_⟩
        · have := hat 0 (by omega); simpa [Addr.add] using this
        · have := hat 1 (by omega); simpa using this
        · have := hat 2 (by omega); simpa using this
    by_cases h0 : len1 = 0
    · subst h0
      exact ⟨[], rfl, ⟨by simp, fun h => by simp at h⟩, by simp⟩
    · have hsp : a.spot = none := by
        obtain ⟨r, _, hc, _⟩ := key 0 (by omega)
        simp only [Nat.zero_mul, Addr.add, if_pos] at hc
        unfold World.cell? at hc
        cases hs : a.spot with
        | none => rfl
        | some k =>
          rw [hs] at hc
          revert hc
          split <;> simp
      obtain ⟨g, o, sp⟩ := a
      simp only at hsp
      subst hsp
      obtain ⟨R, hR⟩ := choose_lt (α := Row) (p := fun i r => r.wf ∧ w.cell? ((⟨g, o, none⟩ : Addr).add (i * 3)) = some (.int .i64 r.a) ∧ w.cell? (((⟨g, o, none⟩ : Addr).add (i * 3)).add 1) = some (.int .i64 r.b) ∧ w.cell? (((⟨g, o, none⟩ : Addr).add (i * 3)).add 2) = some (.int .i64 r.l)) key
      refine ⟨(List.range len1).map R, by simp, ⟨by simp; unfold maxLen at hm; omega, fun _ => ⟨g, o, rfl, fun j hj => ?_⟩⟩, ?_⟩
      · simp at hj
        obtain ⟨_, k0, k1, k2⟩ := hR j hj
        have ea : (⟨g, o, none⟩ : Addr).add (j * 3) = ⟨g, o + j * 3, none⟩ := by
          unfold Addr.add
          split
          · rename_i hz; simp [hz]
          · rfl
        rw [ea] at k0 k1 k2
        simp only [List.getElem_map, List.getElem_range]
        exact ⟨k0, k1, k2⟩
      · intro r hr
        obtain ⟨i, hi, rfl⟩ := List.mem_map.1 hr
        exact (hR i (List.mem_range.1 hi)).1
end
theorem puts_open {H : Type} {enc : TypeId × Value → H} {w : World} {base : Nat} {spare : Nat → Bool} {held : Bool} {fuel : Nat} {a1 : Option Addr} {len1 cap1 : Nat} {x : DataW H × List MemPlace}
    (h : DataW.trod enc Try.prog w base spare held fuel 52 [.slice a1 len1 cap1] = some x) : IsRows w a1 len1 :=
  rows_open Try.underlying52 Try.underlying56 Try.underlying42 Try.underlying3 (by kernel_rfl) (by kernel_rfl) (by kernel_rfl) rfl rfl rfl rfl rfl rfl rfl rfl h
theorem rowsarg_open {H : Type} {enc : TypeId × Value → H} {w : World} {base : Nat} {spare : Nat → Bool} {held : Bool} {fuel : Nat} {a1 : Option Addr} {len1 cap1 : Nat} {x : DataW H × List MemPlace}
    (h : DataW.trod enc Try.prog w base spare held fuel 44 [.slice a1 len1 cap1] = some x) : IsRows w a1 len1 :=
  rows_open Try.underlying44 Try.underlying65 Try.underlying42 Try.underlying3 (by kernel_rfl) (by kernel_rfl) (by kernel_rfl) rfl rfl rfl rfl rfl rfl rfl rfl h
end Go.Proofs.Ytphmmpdeehfhjaa
