/- The document's own cuts: with. -/
import Derived.Test.YtphmmpdeehfhjaaK4
import Derived.Test.YtphmmpdeehfhjaaS2
namespace Go.Proofs.Ytphmmpdeehfhjaa
open Go.RowKit
set_option linter.unusedVariables false
set_option linter.unusedSimpArgs false
structure Cut where
  f : Int
  l : Int
def Cut.cells (c : Cut) : List Value := [.int .i64 c.f, .int .i64 c.l]
def cutsCells (l : List Cut) : List Value := l.flatMap Cut.cells
theorem cutsCells_append (l m : List Cut) : cutsCells (l ++ m) = cutsCells l ++ cutsCells m := by simp [cutsCells]
theorem cutsCells_length (l : List Cut) : (cutsCells l).length = l.length * 2 := by
  induction l with
  | nil => rfl
  | cons r l ih => simp only [cutsCells, List.flatMap_cons, List.length_append, List.length_cons] at *; rw [ih]; simp [Cut.cells]; omega
theorem cutsCells_get (l : List Cut) (i j : Nat) (hi : i < l.length) (hj : j < 2) : (cutsCells l)[i * 2 + j]? = (l[i]'hi).cells[j]? := by
  induction l generalizing i with
  | nil => simp at hi
  | cons r l ih =>
    have hr : r.cells.length = 2 := rfl
    simp only [cutsCells, List.flatMap_cons] at *
    cases i with
    | zero => rw [List.getElem?_append_left (by rw [hr]; omega)]; simp
    | succ i =>
      rw [List.getElem?_append_right (by rw [hr]; omega), hr, show (i + 1) * 2 + j - 2 = i * 2 + j from by omega, ih i (by simpa using hi)]
      simp
/-- cuts with one more, if it is another label's -/
def withL (l : List Cut) (c : Cut) : List Cut :=
  match l.getLast? with
  | none => l ++ [c]
  | some q => if q.l = c.l then l else l ++ [c]
abbrev OwnCuts (base : Nat) (w : World) (v : Value) (l : List Cut) : Prop := w.ownsRow base 75 2 v l.length (cutsCells l)
def WithPost (base : Nat) (w : World) (v : Value) (l : List Cut) (e : Ending) (w' : World) : Prop :=
  ∃ v', e = .returned v' ∧ OwnCuts base w' v' l ∧ Mods (fun k => v.ownBlock = some k) w w' ∧ (v'.ownBlock = v.ownBlock ∨ ∃ k, v'.ownBlock = some k ∧ w.heap.size ≤ k)
theorem Try.info75 : (Try.prog.info? 75).map (fun i => (i.zero, i.size, i.bytes)) = some (some (.agg #[.int .i64 0, .int .i64 0]), 2, 16) := by kernel_rfl
theorem OwnCuts.cell {base : Nat} {w : World} {g cap : Nat} {l : List Cut} (h : OwnCuts base w (.slice (some ⟨g, 0, none⟩) l.length cap) l) (i : Nat) (hi : i < l.length) :
    w.cell? ⟨g, i * 2, none⟩ = some (.int .i64 (l[i]'hi).f) ∧ w.cell? ⟨g, i * 2 + 1, none⟩ = some (.int .i64 (l[i]'hi).l) := by
  have hc : ∀ j, j < 2 → w.cell? ⟨g, i * 2 + j, none⟩ = (l[i]'hi).cells[j]? := fun j hj => by
    rw [h.cellAt _ (by omega), cutsCells_get l i j hi hj]
  exact ⟨hc 0 (by omega), hc 1 (by omega)⟩
set_option maxHeartbeats 8000000 in
set_option maxRecDepth 100000 in
theorem with_any (base : Nat) (v : Value) (l : List Cut) (c : Cut) (w : World) (hown : OwnCuts base w v l) (hb : base ≤ w.heap.size) (hn : l.length ≤ 4294967296) :
    Calls Try.prog 44 #[v, .agg #[.int .i64 c.f, .int .i64 c.l]] w (WithPost base w v (withL l c)) := by
  obtain ⟨A, cap, rfl⟩ := own_shape hown
  obtain ⟨i0, hi, hz0, hz1, hz2⟩ := info_parts Try.info75
  by_cases h0 : 0 < l.length
  · obtain ⟨g, cap', e, hg, hgl⟩ := hown.form h0
    cases e
    obtain ⟨j, hj⟩ : ∃ j : Nat, (l.length : Int) - 1 = j := ⟨l.length - 1, by omega⟩
    have hjl : j < l.length := by omega
    have hjl1 : (j : Int) < l.length := by omega
    have hjk : j + 1 = l.length := by omega
    obtain ⟨c0, c1⟩ := hown.cell j hjl
    have hlast : l.getLast? = some (l[j]'hjl) := by
      rw [List.getLast?_eq_getElem?, show l.length - 1 = j from by omega, List.getElem?_eq_getElem hjl]
    obtain ⟨q, hq⟩ : ∃ q, q = l[j]'hjl := ⟨_, rfl⟩
    rw [← hq] at c0 c1 hlast
    have hw : withL l c = if q.l = c.l then l else l ++ [c] := by unfold withL; rw [hlast]
    have hw1 : IntKind.i64.wrap ((l.length : Int) - 1) = j := by rw [hj, IntKind.wrap_i64]; omega
    have t1 : decide ((0 : Int) < l.length) = true := decide_eq_true (by omega)
    have t1n : decide (0 < l.length) = true := decide_eq_true h0
    have t1p : (0 : Int) < l.length := by omega
    have hn1 : ¬ g = w.heap.size := by omega
    have HO := Hid.mk_ hown
    clear hown hj hlast hq
    by_cases h1 : q.l = c.l
    · rw [hw, if_pos h1]
      rw [h1] at c1
      clear hw h1
      go_enter Try.func44, Try.ntmps44
      go_wp2_with fail
      go_big_quiet (fail)
      go_wp2_with fail
      go_ret
      have hB : Below w.heap.size w ((w.alloc (.cells #[.int .i64 c.f, .int .i64 c.l] 75)).drewN nq) := ((Below.refl _ _).alloc (Nat.le_refl _) _).trans (Drawn_below _ _)
      exact ⟨_, rfl, own_move HO.out (fun k hk => hB.block k (HO.out.lt k hk).2), Mods.of_new hB, .inl rfl⟩
    · rw [hw, if_neg h1]
      have t5 : decide (q.l = c.l) = false := decide_eq_false h1
      have t5b : (q.l == c.l) = false := by simpa using h1
      clear hw h1
      go_enter Try.func44, Try.ntmps44
      go_wp2_with fail
      go_big_quiet (fail)
      have hBx : ∀ O, Below w.heap.size w (((w.alloc (.cells #[.int .i64 c.f, .int .i64 c.l] 75)).drewN nq).alloc O) := fun O => (((Below.refl _ _).alloc (Nat.le_refl _) _).trans (Drawn_below _ _)).alloc (by simp) O
      have hB : ∀ O, OwnCuts base (((w.alloc (.cells #[.int .i64 c.f, .int .i64 c.l] 75)).drewN nq).alloc O) (.slice (some ⟨g, 0, none⟩) l.length cap) l := fun O => own_move HO.out (fun k hk => (hBx O).block k (HO.out.lt k hk).2)
      have HB := Hid.mk_ (hB)
      have HBX := Hid.mk_ hBx
      clear hBx hB
      go_wp2_with (at_builtin; refine wpList_append_own_at _ rfl _ _ 76 rfl base 75 i0 _ 2 16 Try.underlying76 hi hz0 hz1 hz2 rfl (by omega) _ _ _ rfl (HB.out _) ⟨_, 0, none⟩ 1 1 [.int .i64 c.f, .int .i64 c.l] rfl rfl (one_cells_at _ _ _ (by simp)) (by simp [Value.oneCell']) (by unfold maxLen; omega) (by omega) (by simp; omega) ?_; intro v' w1 hown' hgrow hnil hloc)
      go_ret
      refine ⟨_, rfl, ?_, (Mods.of_new (HBX.out _)).trans (T := fun k => some g = some k) ((Mods.refl _ _).grown hgrow (fun k e _ => e)) (fun k _ e => e), ?_⟩
      · unfold OwnCuts
        rw [List.length_append, cutsCells_append]
        exact hown'
      · rcases hloc with h | h
        · exact .inl h
        · exact .inr ⟨_, h, by simp; omega⟩
  · have hl : l = [] := List.length_eq_zero_iff.1 (by omega)
    subst hl
    have hw : withL [] c = [c] := rfl
    rw [hw]
    have HO := Hid.mk_ hown
    clear hw hown h0
    go_enter Try.func44, Try.ntmps44
    go_wp2_with fail
    go_big_quiet (fail)
    have hBx : ∀ O, Below w.heap.size w (((w.alloc (.cells #[.int .i64 c.f, .int .i64 c.l] 75)).drewN nq).alloc O) := fun O => (((Below.refl _ _).alloc (Nat.le_refl _) _).trans (Drawn_below _ _)).alloc (by simp) O
    have hB : ∀ O, OwnCuts base (((w.alloc (.cells #[.int .i64 c.f, .int .i64 c.l] 75)).drewN nq).alloc O) (.slice A 0 cap) [] := fun O => own_move HO.out (fun k hk => (hBx O).block k (HO.out.lt k hk).2)
    have HB := Hid.mk_ (hB)
    have HBX := Hid.mk_ hBx
    clear hBx hB
    go_wp2_with (at_builtin; refine wpList_append_own_at _ rfl _ _ 76 rfl base 75 i0 _ 2 16 Try.underlying76 hi hz0 hz1 hz2 rfl (by omega) _ _ _ rfl (HB.out _) ⟨_, 0, none⟩ 1 1 [.int .i64 c.f, .int .i64 c.l] rfl rfl (one_cells_at _ _ _ (by simp)) (by simp [Value.oneCell']) (by unfold maxLen; omega) (by omega) (by simp; omega) ?_; intro v' w1 hown' hgrow hnil hloc)
    go_ret
    refine ⟨_, rfl, hown', (Mods.of_new (HBX.out _)).trans (T := fun k => Value.ownBlock (.slice A 0 cap) = some k) ((Mods.refl _ _).grown hgrow (fun k e _ => e)) (fun k _ e => e), ?_⟩
    rcases hloc with h | h
    · exact .inl h
    · exact .inr ⟨_, h, by simp; omega⟩
end Go.Proofs.Ytphmmpdeehfhjaa
