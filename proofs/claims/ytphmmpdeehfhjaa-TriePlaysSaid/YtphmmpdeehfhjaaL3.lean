import Derived.Test.YtphmmpdeehfhjaaL2
import Derived.Test.YtphmmpdeehfhjaaA4
namespace Go.Proofs.Ytphmmpdeehfhjaa
open Go.RowKit
set_option linter.unusedVariables false
set_option linter.unusedSimpArgs false
/-- a row's list in its block, and none of a trie's blocks -/
def Seen (w : World) (g : Nat) (L : List Row) (fp : List Nat) : Prop := RowsIn w (some ⟨g, 0, none⟩) L ∧ g < w.heap.size ∧ g ∉ fp
theorem Seen.mods {w w' : World} {g : Nat} {L : List Row} {fp fp' : List Nat} (h : Seen w g L fp) (hm : Mods (· ∈ fp) w w') (hf : ∀ k ∈ fp', k ∈ fp ∨ w.heap.size ≤ k) : Seen w' g L fp' :=
  ⟨h.1.move fun g' o e hg => by cases e; exact hm.block g hg h.2.2, Nat.lt_of_lt_of_le h.2.1 hm.size, fun hk => by rcases hf _ hk with h1 | h1; exact h.2.2 h1; have := h.2.1; omega⟩
theorem Seen.below {w w' : World} {g : Nat} {L : List Row} {fp : List Nat} (h : Seen w g L fp) (hm : Below w.heap.size w w') : Seen w' g L fp :=
  h.mods (Mods.of_new hm) (fun _ hk => .inl hk)
def T1 : Tr := .node (.leaf 0) (.leaf 5)
def L1 : List Row := [⟨0, 1, 0⟩, ⟨2147483648, 1, 5⟩]
def L2 : List Row := [⟨0, 0, 1⟩]
theorem put_T1 : Tr.put 2147483648 5 (1 : Int).toNat 0 (.leaf 0) = T1 := by decide +kernel
theorem all_T1 : T1.all 0 0 = L1 := by decide +kernel
theorem all_T2 : (Tr.leaf 1).all 0 0 = L2 := by decide +kernel
theorem make_L1 : MakeOf L1 = some T1 := by decide +kernel
theorem make_L0 : MakeOf [] = none := by decide +kernel
theorem find_T1 : Tr.find 2147483648 T1 0 = 5 := by decide +kernel
theorem tidy_T1 : (T1.map (remap [1, 0, 0, 0, 0, 1])).tidy = .leaf 1 := by decide +kernel
def AwRows (w : World) (fp : List Nat) (L : List Row) (n : Nat) (e : Ending) (w' : World) : Prop :=
  ∃ g, e = .returned (.slice (some ⟨g, 0, none⟩) n n) ∧ Seen w' g L fp ∧ Below w.heap.size w w'
theorem rows_seen {w : World} {t : Tr} {a : Nat} {fp : List Nat} {L : List Row} {n : Nat} (h : TrieAt w t a fp) (hh : t.ht ≤ 32) (hL : t.all 0 0 = L) (hn : n = L.length) :
    Calls Try.prog 16 #[.pointer (some ⟨a, 0, none⟩)] w (AwRows w fp L n) := by
  subst hL hn
  refine (rows_any t a fp w h hh).mono ?_
  rintro e w' ⟨g, cur, rfl, hg, hc, ht, hB⟩
  have hlt : g < w'.heap.size := (Array.getElem?_eq_some_iff.1 hc).1
  refine ⟨g, rfl, ⟨⟨?_, fun hn => ⟨g, 0, rfl, fun j hj => ?_⟩⟩, hlt, fun hk => by have := h.lt g hk; omega⟩, hB⟩
  · have := Tr.all_length t 0 0
    have hp := Nat.pow_le_pow_right (n := 2) (by omega) hh
    omega
  · have := row_cells hc ht hj
    simp only [Nat.zero_add]
    exact this
theorem labs_new {w : World} {xs : List Int} {ty : TypeId} (h : xs.length ≤ 100) : LabsAt (w.alloc (.cells (xs.map (Value.int .i64)).toArray ty)).heap.size (w.alloc (.cells (xs.map (Value.int .i64)).toArray ty)) (some ⟨w.heap.size, 0, none⟩) xs.length xs := by
  refine ⟨rfl, by omega, fun _ => ⟨_, 0, rfl, by simp, fun j hj => ?_⟩⟩
  have hb := (Blk.new w (xs.map (Value.int .i64)) ty).cell j
  rw [Nat.zero_add, hb]
  simp [hj]
theorem aw_map0 {w : World} {a : Nat} {fp : List Nat} (h : TrieAt w T1 a fp) (ty : TypeId) :
    Calls Try.prog 23 #[.pointer (some ⟨a, 0, none⟩), .slice (some ⟨w.heap.size, 0, none⟩) 1 1] (w.alloc (.cells #[.int .i64 3] ty)) fun e w' => e = .returned (.int .i64 1) ∧ Below w.heap.size w w' := by
  have hB : Below w.heap.size w (w.alloc (.cells #[.int .i64 3] ty)) := (Below.refl _ _).alloc (Nat.le_refl _) _
  refine (tmap_no T1 a fp _ 1 1 [3] _ (h.new hB) (by decide) (by decide) (labs_new (xs := [3]) (by decide)) (by decide)).mono ?_
  rintro e w' ⟨he, hb⟩
  exact ⟨he, hB.trans (hb.mono (by simp))⟩
theorem aw_map1 {w : World} {a : Nat} {fp : List Nat} (h : TrieAt w T1 a fp) (ty : TypeId) :
    Calls Try.prog 23 #[.pointer (some ⟨a, 0, none⟩), .slice (some ⟨w.heap.size, 0, none⟩) 6 6] (w.alloc (.cells #[.int .i64 1, .int .i64 0, .int .i64 0, .int .i64 0, .int .i64 0, .int .i64 1] ty)) (fun e w' =>
      ∃ fp', e = .returned (.int .i64 0) ∧ TrieAt w' (.leaf 1) a fp' ∧ (∀ k ∈ fp', k ∈ fp ∨ w.heap.size ≤ k) ∧ Mods (· ∈ fp) w w') := by
  have hB : Below w.heap.size w (w.alloc (.cells #[.int .i64 1, .int .i64 0, .int .i64 0, .int .i64 0, .int .i64 0, .int .i64 1] ty)) := (Below.refl _ _).alloc (Nat.le_refl _) _
  refine (tmap_yes T1 a fp _ 6 6 [1, 0, 0, 0, 0, 1] _ (h.new hB) (by decide) (by decide) (labs_new (xs := [1, 0, 0, 0, 0, 1]) (by decide)) (fun g o e hk => by cases e; exact absurd (h.lt _ hk) (Nat.lt_irrefl _)) (by decide)).mono ?_
  rintro e w' ⟨fp', he, ht, hf, hm⟩
  rw [tidy_T1] at ht
  exact ⟨fp', he, ht, fun k hk => .inl (hf k hk), (Mods.of_new hB).trans hm (fun _ _ h => h)⟩
theorem aw_make {w : World} {g : Nat} {fp : List Nat} (h : Seen w g L1 fp) : Calls Try.prog 22 #[.slice (some ⟨g, 0, none⟩) 2 2] w fun e w' => ∃ a, e = .returned (.tuple #[.pointer (some ⟨a, 0, none⟩), .int .i64 0]) ∧ Below w.heap.size w w' := by
  refine (make_any _ 2 L1 w h.1).mono ?_
  rw [make_L1]
  rintro e w' ⟨a, _, he, _, _, hb⟩
  exact ⟨a, he, hb⟩
theorem aw_make0 {w : World} {g : Nat} (c : Nat) : Calls Try.prog 22 #[.slice (some ⟨g, 0, none⟩) 0 c] w fun e w' => e = .returned (.tuple #[.pointer none, .int .i64 40]) ∧ Below w.heap.size w w' := by
  refine (make_any _ c [] w ⟨by simp, fun h => by simp at h⟩).mono ?_
  rw [make_L0]
  rintro e w' ⟨he, hb⟩
  exact ⟨he, hb⟩
theorem aw_find {w : World} {a : Nat} {fp : List Nat} (h : TrieAt w T1 a fp) : Calls Try.prog 20 #[.pointer (some ⟨a, 0, none⟩), .int .i64 2147483648] w fun e w' => e = .returned (.tuple #[.int .i64 5, .int .i64 0]) ∧ Below w.heap.size w w' ∧ Mods (· ∈ fp) w w' := by
  refine (tfind_yes T1 a fp _ w h (by decide) (by decide) (by decide)).mono ?_
  rintro e w' ⟨he, m, rfl⟩
  rw [find_T1] at he
  exact ⟨he, Drawn_below _ _, Mods.of_new (Drawn_below _ _)⟩
theorem aw_put {w : World} {a : Nat} {fp : List Nat} (h : TrieAt w (.leaf 0) a fp) : Calls Try.prog 18 #[.pointer (some ⟨a, 0, none⟩), .agg #[.int .i64 2147483648, .int .i64 1], .int .i64 5] w (TputPost w T1 a fp) := by
  have h2 := tput_yes (.leaf 0) a fp 2147483648 1 5 w h (by decide) (by decide) (by decide)
  rwa [put_T1] at h2
theorem Seen.cells {w : World} {g : Nat} {L : List Row} {fp : List Nat} (h : Seen w g L fp) (j : Nat) (hj : j < L.length) :
    w.cell? ⟨g, j * 3, none⟩ = some (.int .i64 (L[j]'hj).a) ∧ w.cell? ⟨g, j * 3 + 1, none⟩ = some (.int .i64 (L[j]'hj).b) ∧ w.cell? ⟨g, j * 3 + 2, none⟩ = some (.int .i64 (L[j]'hj).l) := by
  obtain ⟨g', o, e, hc⟩ := h.1.2 (by omega)
  cases e
  have := hc j hj
  simpa only [Nat.zero_add] using this
theorem aw_cells1 {w : World} {g : Nat} {fp : List Nat} (h : Seen w g L1 fp) : w.cell? ⟨g, 3, none⟩ = some (.int .i64 2147483648) ∧ w.cell? ⟨g, 4, none⟩ = some (.int .i64 1) ∧ w.cell? ⟨g, 5, none⟩ = some (.int .i64 5) := h.cells 1 (by decide)
theorem aw_cells2 {w : World} {g : Nat} {fp : List Nat} (h : Seen w g L2 fp) : w.cell? ⟨g, 0, none⟩ = some (.int .i64 0) ∧ w.cell? ⟨g, 1, none⟩ = some (.int .i64 0) ∧ w.cell? ⟨g, 2, none⟩ = some (.int .i64 1) := h.cells 0 (by decide)
end Go.Proofs.Ytphmmpdeehfhjaa
