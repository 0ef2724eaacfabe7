/- A new arena. -/
import Derived.Test.YtmfdcaalbpikpaaC7
namespace Go.Proofs.Ytmfdcaalbpikpaa
open Go.RowKit Go.WideMaps Go.Maps
set_option linter.unusedVariables false
set_option linter.unusedSimpArgs false
theorem any_bad (S : List Int) : S.any badSize = false ↔ ∀ x ∈ S, 1 ≤ x ∧ x ≤ 256 := by
  rw [List.any_eq_false]
  refine forall_congr' fun x => forall_congr' fun _ => ?_
  unfold badSize
  simp
theorem sized_iff (S : List Int) (M : Int) : Sized S M ↔ (1 ≤ S.length ∧ S.length ≤ 12) ∧ S.any badSize = false ∧ 0 ≤ M ∧ M ≤ 8192 := by
  rw [any_bad]
  exact ⟨fun h => ⟨⟨h.s1, h.s2⟩, h.sz, h.m0, h.m1⟩, fun ⟨⟨a, b⟩, c, d, e⟩ => ⟨a, b, c, d, e⟩⟩
section
variable {w w' : World} {A : Option Addr} {c : Nat} {S : List Int} {M : Int}
theorem PA.fresh {gs cs mb b : Nat} (hS : Sized S M) (hk : Row w 3 1 (.slice (some ⟨gs, 0, none⟩) S.length cs) S.length (S.map (Value.int .i64))) (hm : w.ownsMap Try.prog 9 (plainElem Try.prog 3) mb 0 (.map [] : DataW Unit))
    (hb : Blk w b [.slice (some ⟨gs, 0, none⟩) S.length cs, .int .i64 M, .slice none 0 0, .map (some mb)] 76) (h1 : gs ≠ b) (h2 : gs ≠ mb) : PAt w b S M [] (pz b mb (.slice none 0 0) [gs]) :=
  ⟨[], .slice none 0 0, .slice (some ⟨gs, 0, none⟩) S.length cs, mb, [gs], ⟨hb, Row.kid hk (by have := hS.s2; omega) (by simp), Row.nil _ _ _, fun p hp => absurd hp (by simp), ⟨_, hm, Found.none⟩, Good.nil hS, fun k hk2 => by
    simp at hk2; subst hk2; exact ⟨h1, h2, by simp [Value.ownBlock], hk.lt k rfl⟩⟩, rfl, rfl⟩
theorem new_bad (hA : IntsIn w A S) (hbad : ¬ Sized S M) : Calls Try.prog 8 #[.slice A S.length c, .int .i64 M] w fun e w' => e = .returned (.tuple #[.pointer none, .int .i64 1]) ∧ Below w.heap.size w w' := by
  have hc := contains_any 30 #[] enter30 badSize A c S w hA (fun q x _ => (size_clo x _).mono fun e w' ⟨h1, h2⟩ => ⟨h1, 0, h2.symm⟩)
  rw [sized_iff] at hbad
  have hl := hA.1
  obtain ⟨r, hr⟩ : ∃ r, r = S.any badSize := ⟨_, rfl⟩
  rw [← hr] at hc hbad
  have HC := Hid.mk_ hc
  clear hr hc hA
  by_cases h1 : S.length < 1
  · have h1' : (S.length : Int) < 1 := by omega
    clear hbad
    go_enter Try.func8, Try.ntmps8
    go_wp2_with (go_at_call 29; (with_reducible refine HC.out.mono ?_); rintro e w' ⟨rfl, q, rfl⟩)
    go_ret2
    exact ⟨rfl, Drawn_below _ _⟩
  · have h1' : ¬ (S.length : Int) < 1 := by omega
    by_cases h2 : 12 < S.length
    · have h2' : (12 : Int) < S.length := by omega
      clear hbad
      go_enter Try.func8, Try.ntmps8
      go_wp2_with (go_at_call 29; (with_reducible refine HC.out.mono ?_); rintro e w' ⟨rfl, q, rfl⟩)
      go_ret2
      exact ⟨rfl, Drawn_below _ _⟩
    · have h2' : ¬ (12 : Int) < S.length := by omega
      cases r with
      | true =>
        clear hbad
        go_enter Try.func8, Try.ntmps8
        go_wp2_with (go_at_call 29; (with_reducible refine HC.out.mono ?_); rintro e w' ⟨rfl, q, rfl⟩)
        go_ret2
        exact ⟨rfl, Drawn_below _ _⟩
      | false =>
        by_cases h3 : M < 0
        · clear hbad
          go_enter Try.func8, Try.ntmps8
          go_wp2_with (go_at_call 29; (with_reducible refine HC.out.mono ?_); rintro e w' ⟨rfl, q, rfl⟩)
          go_ret2
          exact ⟨rfl, Drawn_below _ _⟩
        · have h4 : 8192 < M := by
            apply Int.not_le.1
            intro h
            exact hbad ⟨by omega, rfl, by omega, h⟩
          clear hbad
          go_enter Try.func8, Try.ntmps8
          go_wp2_with (go_at_call 29; (with_reducible refine HC.out.mono ?_); rintro e w' ⟨rfl, q, rfl⟩)
          go_ret2
          exact ⟨rfl, Drawn_below _ _⟩
theorem new_ok (hA : IntsIn w A S) (hS : Sized S M) : Calls Try.prog 8 #[.slice A S.length c, .int .i64 M] w fun e w' => ∃ b z, e = .returned (.tuple #[.pointer (some ⟨b, 0, none⟩), .int .i64 0]) ∧ PAt w' b S M [] z ∧ (∀ k ∈ z, w.heap.size ≤ k) ∧ Below w.heap.size w w' := by
  have hc := contains_any 30 #[] enter30 badSize A c S w hA (fun q x _ => (size_clo x _).mono fun e w' ⟨h1, h2⟩ => ⟨h1, 0, h2.symm⟩)
  have hs := (sized_iff S M).1 hS
  rw [hs.2.1] at hc
  have HS := Hid.mk_ hS
  obtain ⟨⟨h1, h2⟩, _, h3, h4⟩ := hs
  obtain ⟨g, o, rfl, hg, hcells⟩ := hA.2 (by omega)
  have HC := Hid.mk_ hc
  have HCL := Hid.mk_ (fun (q : Nat) => clone_some (g := g) (o := o) (c := c) (xs := S) (n := S.length) rfl (by omega) (by omega) (w.drewN q) hcells hg)
  have h1' : ¬ (S.length : Int) < 1 := by omega
  have h2' : ¬ (12 : Int) < S.length := by omega
  have h3' : ¬ M < 0 := by omega
  have h4' : ¬ 8192 < M := by omega
  have hmm := @run_makeMap Try.prog
  clear hc hA hcells hS
  go_enter Try.func8, Try.ntmps8
  go_wp2_with (first
    | (go_at_call 29; (with_reducible refine HC.out.mono ?_); rintro e w' ⟨rfl, q, rfl⟩)
    | (go_at_call 31; (with_reducible refine (HCL.out _).mono ?_); rintro e w1 ⟨g', c', rfl, hrow, hg', hb⟩))
  go_ret2
  have hb1 : Below w.heap.size w w1 := (Drawn_below w q).trans hb
  have hs1 := hb1.size
  have hg1 : w.heap.size ≤ g' := hg'
  have hg2 : g' < w1.heap.size := hrow.lt g' rfl
  refine ⟨_, pz (w1.heap.size + 1) w1.heap.size (.slice none 0 0) [g'], rfl, ?_, ?_, (hb1.alloc hs1 _).alloc (by simp; omega) _⟩
  · have e : (w1.alloc (.map #[] 0)).heap.size = w1.heap.size + 1 := by simp
    have hbk := Blk.new (w1.alloc (.map #[] 0)) [.slice (some ⟨g', 0, none⟩) S.length c', .int .i64 M, .slice none 0 0, .map (some w1.heap.size)] 76
    rw [e] at hbk
    exact PA.fresh HS.out ((hrow.alloc _).alloc _) (owns_move (World.ownsMap_made w1 _ _ _) (Below.heap_alloc _ _ _ (by simp))) hbk (by omega) (by omega)
  · intro k hk
    rcases mem_pz.1 hk with e | e | e | e
    · omega
    · omega
    · simp [Value.ownBlock] at e
    · simp at e; omega
end
end Go.Proofs.Ytmfdcaalbpikpaa
