/- The closures; slices.Clone, Clip; the key. -/
import Derived.Test.YtmfdcaalbpikpaaA2
import Derived.Laws.IdiomStrings
import Derived.WalkSpells
namespace Go.Proofs.Ytmfdcaalbpikpaa
open Go.RowKit
set_option linter.unusedVariables false
set_option linter.unusedSimpArgs false
theorem Try.info3 : (Try.prog.info? 3).map (fun i => (i.zero, i.size, i.bytes)) = some (some (.int .i64 0), 1, 8) := by kernel_rfl
theorem Try.info5 : (Try.prog.info? 5).map (fun i => (i.zero, i.size, i.bytes)) = some (some (.int .u8 0), 1, 1) := by kernel_rfl
theorem Try.info22 : (Try.prog.info? 22).map (fun i => (i.zero, i.size, i.bytes)) = some (some (.slice none 0 0), 1, 24) := by kernel_rfl
theorem Try.info55 : (Try.prog.info? 55).map (fun i => (i.zero, i.size, i.bytes)) = some (some (.agg #[.int .i64 0, .slice none 0 0]), 2, 32) := by kernel_rfl
def badSize (x : Int) : Bool := decide (x < 1) || decide (256 < x)
theorem size_clo (x : Int) (w : World) : Calls Try.prog 30 #[.int .i64 x] w fun e w' => e = .returned (.bool (badSize x)) ∧ w = w' := by
  by_cases h : x < 1
  · go_enter Try.func30, Try.ntmps30
    go_wp2_with fail
    go_ret
    exact ⟨by simp [badSize, h], rfl⟩
  · go_enter Try.func30, Try.ntmps30
    go_wp2_with fail
    go_ret
    exact ⟨by simp [badSize, h] <;> omega, rfl⟩
theorem same_clo {bk g o n c : Nat} {y : Int} (x : Int) (w : World) (h1 : w.cell? ⟨bk, 0, none⟩ = some (.slice (some ⟨g, o, none⟩) n c)) (hn : 0 < n) (hy : w.cell? ⟨g, o, none⟩ = some (.int .i64 y)) :
    Calls Try.prog 71 #[.int .i64 x, .pointer (some ⟨bk, 0, none⟩)] w fun e w' => e = .returned (.bool (!decide (x = y))) ∧ w = w' := by
  have hn1 : (0 : Int) < n := by omega
  have hy0 : w.cell? ⟨g, o + 0, none⟩ = some (.int .i64 y) := hy
  go_enter Try.func71, Try.ntmps71
  go_wp2_with fail
  go_ret
  refine ⟨?_, rfl⟩
  congr 2
/-- slices.Clone of what is not empty -/
theorem clone_some {g o n c : Nat} {xs : List Int} (hx : n = xs.length) (h0 : 0 < n) (hn : n ≤ 8589934592) (w : World) (hc : ∀ j (hj : j < xs.length), w.cell? ⟨g, o + j, none⟩ = some (.int .i64 (xs[j]'hj))) (hlt : g < w.heap.size) :
    Calls Try.prog 31 #[.slice (some ⟨g, o, none⟩) n c] w fun e w' => ∃ g' c', e = .returned (.slice (some ⟨g', 0, none⟩) n c') ∧ Row w' 3 1 (.slice (some ⟨g', 0, none⟩) n c') n (xs.map (Value.int .i64)) ∧ w.heap.size ≤ g' ∧ Below w.heap.size w w' := by
  subst hx
  obtain ⟨i0, hi, hz0, hz1, hz2⟩ := info_parts Try.info3
  have hne := fun W => Lib.run_eql_slice_nil (P := Try.prog) W 22 3 (some ⟨g, o, none⟩) xs.length c 0 0 Try.underlying22
  have hr0 : Row (w.alloc (.cells #[] 3)) 3 1 (.slice (some ⟨w.heap.size, 0, none⟩) 0 0) 0 [] := ⟨rfl, .inr ⟨w.heap.size, 0, #[], rfl, heap_alloc_new w _, Nat.le_refl _, by decide, by simp, rfl⟩⟩
  have hnews : ∀ j u, (xs.map (Value.int .i64))[j]? = some u → (w.alloc (.cells #[] 3)).cell? ((⟨g, o, none⟩ : Addr).add j) = some u := fun j u hj => by
    rw [Addr.add_lit, ((Below.refl w.heap.size w).alloc (Nat.le_refl _) _).cell (p := ⟨g, o + j, none⟩) hlt]
    obtain ⟨hjl, e⟩ := List.getElem?_eq_some_iff.1 hj
    rw [List.length_map] at hjl
    rw [List.getElem_map] at e
    rw [← e]
    exact hc j hjl
  have HC := Hid.mk_ hnews
  clear hc hnews
  go_enter Try.func31, Try.ntmps31
  go_wp2_with (at_builtin; refine wpList_append_row _ rfl _ _ 22 rfl 3 i0 (.int .i64 0) 1 8 Try.underlying22 hi hz0 hz1 hz2 rfl (by decide) _ 0 [] rfl hr0 ⟨g, o, none⟩ xs.length c (xs.map (Value.int .i64)) rfl (by simp) HC.out (by simp [Value.oneCell']) h0 (by unfold maxLen; omega) (by omega) (w.heap.size + 1) (by simp) ?_; intro g' c' w' hrow hgrow hloc hlt')
  go_ret
  have hg' : w.heap.size ≤ g' := by
    rcases hloc with h | h
    · cases h; exact Nat.le_refl _
    · omega
  rw [Nat.zero_add, List.nil_append] at hrow
  refine ⟨g', c', by simp, hrow, hg', ?_⟩
  exact ((Below.refl w.heap.size w).alloc (Nat.le_refl _) _).grown hgrow (by simp) (fun k hk => by cases hk; exact Nat.le_refl _)
theorem clip_any (A : Option Addr) (n c : Nat) (hn : n ≤ c) (w : World) : Calls Try.prog 47 #[.slice A n c] w fun e w' => e = .returned (.slice A n n) ∧ w = w' := by
  go_enter Try.func47, Try.ntmps47
  go_wp2_with fail
  go_ret
  exact ⟨rfl, rfl⟩
end Go.Proofs.Ytmfdcaalbpikpaa
