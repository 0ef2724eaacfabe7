/- side.made: both Makes, of rows lent in a list that is looked at again. -/
import Derived.Test.YtphmmpdeehfhjaaK6
import Derived.Laws.CopyOwn
import Derived.Laws.MakeOwn
namespace Go.Proofs.Ytphmmpdeehfhjaa
open Go.RowKit
set_option linter.unusedVariables false
set_option linter.unusedSimpArgs false
/-- copy of elements of more than one cell, all of them, to a row's head -/
theorem run_copy_many {P : Program} (w : World) (dT sT ty elem : TypeId) (s g dLen dCap : Nat) (sp : Option Addr) (sLen sCap : Nat) (cur : List Value) (t : TypeId) (cs : List Value)
    (hu : P.underlying dT = some (.slice elem)) (hs : (P.info? elem).map (·.size) = some s)
    (hg : w.heap[g]? = some (.cells cur.toArray t (0, 0))) (hle : sLen ≤ dLen) (hn : cs.length = sLen * s)
    (hsrc : 0 < sLen → ∃ a, sp = some a ∧ ∀ j v, cs[j]? = some v → w.cell? (a.add j) = some v) (hfit : cs.length ≤ cur.length) (h1 : ∀ v ∈ cs, v.oneCell' = true) :
    (Builtin.copy_ #[dT, sT] ty #[.slice (some ⟨g, 0, none⟩) dLen dCap, .slice sp sLen sCap]).run P w =
      .ok (goInt sLen) (w.setRow g (cs ++ cur.drop cs.length).toArray) := by
  have hst := run_storeCells_at P g 0 t cs 0 cur.toArray w hg (by simpa using hfit) h1
  simp only [Nat.add_zero, Nat.zero_add, List.take_zero, List.nil_append] at hst
  have hmin : Nat.min sLen dLen = sLen := Nat.min_eq_left hle
  have hmin2 : min sLen dLen = sLen := Nat.min_eq_left hle
  cases hq : P.info? elem with
  | none => simp [hq] at hs
  | some i =>
    have hi : i.size = s := by simpa [hq] using hs
    by_cases h0 : 0 < sLen
    · obtain ⟨a, rfl, hsrc'⟩ := hsrc h0
      have hl := run_loadCells_list (P := P) w a cs hsrc'
      rw [hn] at hl
      simp [Builtin.copy_, run_underlying hu, Builtin.lenOf, Builtin.firstCells, sizeOf, typeInfo, hq, hi, hmin, hmin2, hl, hst]
    · obtain rfl : sLen = 0 := by omega
      have hc : cs = [] := List.eq_nil_of_length_eq_zero (by omega)
      subst hc
      have hw : w.setRow g cur.toArray = w := setRow_self w g cur.toArray t (0, 0) hg
      have hl : ∀ a, Sem.run P (loadCells a 0) w = Result.ok #[] w := fun a => by
        have := run_loadCells_list (P := P) w a [] (by simp)
        simpa using this
      cases sp with
      | none => simp [Builtin.copy_, run_underlying hu, Builtin.lenOf, Builtin.firstCells, sizeOf, typeInfo, hq, hi, storeCells, hw]
      | some a => simp [Builtin.copy_, run_underlying hu, Builtin.lenOf, Builtin.firstCells, sizeOf, typeInfo, hq, hi, storeCells, hw, hl]
end Go.Proofs.Ytphmmpdeehfhjaa
