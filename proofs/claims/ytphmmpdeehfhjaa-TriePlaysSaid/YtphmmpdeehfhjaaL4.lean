import Derived.Test.YtphmmpdeehfhjaaL3
namespace Go.Proofs.Ytphmmpdeehfhjaa
open Go.RowKit
set_option linter.unusedVariables false
set_option linter.unusedSimpArgs false
set_option maxRecDepth 100000 in
theorem awake_any (w : World) : Calls Try.prog 8 #[] w fun e w' => e = .returned (.bool true) ∧ Below w.heap.size w w' := by
  go_enter Try.func8, Try.ntmps8
  go_wp2_with (first
    | (go_at_call 9; (with_reducible refine (new_no (n := -1) (by decide) _).mono ?_); rintro e w' ⟨rfl, rfl⟩)
    | (go_at_call 9; (with_reducible refine (new_yes (n := 0) (by decide) (by decide) _).mono ?_); rintro e w1 ⟨a, f1, rfl, ht1, hf1, hb1⟩)
    | (go_at_call 18; (with_reducible refine (aw_put ht1).mono ?_); rintro e w2 ⟨f2, rfl, ht2, hf2, hm2⟩; have hb2 := hb1.trans (hm2.below hb1.size (fun k _ hk => hf1 k hk)); have hg2 : (∀ k ∈ f2, w.heap.size ≤ k) := (fun k hk => (hf2 k hk).elim (hf1 k) (fun h => Nat.le_trans hb1.size h)))
    | (go_at_call 16; (with_reducible refine (rows_seen (n := 1) ht6 (by decide) all_T2 rfl).mono ?_); rintro e w7 ⟨g7, rfl, hs7, hb7⟩; have hx7 := hs6.below hb7; have hz7 := hb6.trans (hb7.mono hb6.size))
    | (go_at_call 16; (with_reducible refine (rows_seen (n := 2) ht2 (by decide) all_T1 rfl).mono ?_); rintro e w3 ⟨g, rfl, hs3, hb3⟩; have ht3 := ht2.new hb3; have hz3 := hb2.trans (hb3.mono hb2.size))
    | (go_at_call 20; (with_reducible refine (aw_find ht3).mono ?_); rintro e w4 ⟨rfl, hb4, hm4⟩; have ht4 := ht3.new hb4; have hs4 := hs3.below hb4; have hz4 := hz3.trans (hb4.mono hz3.size))
    | (go_at_call 23; (with_reducible refine (aw_map0 ht4 _).mono ?_); rintro e w5 ⟨rfl, hb5⟩; have ht5 := ht4.new hb5; have hs5 := hs4.below hb5; have hz5 := hz4.trans (hb5.mono hz4.size))
    | (go_at_call 23; (with_reducible refine (aw_map1 ht5 _).mono ?_); rintro e w6 ⟨f6, rfl, ht6, hf6, hm6⟩; have hs6 := hs5.mods hm6 hf6; have hb6 := hz5.trans (hm6.below hz5.size (fun k _ hk => hg2 k hk)))
    | (go_at_call 22; (with_reducible refine (aw_make hx7).mono ?_); rintro e w8 ⟨b, rfl, hb8⟩; have hx8 := hx7.below hb8; have hs8 := hs7.below hb8; have hz8 := hz7.trans (hb8.mono hz7.size))
    | (go_at_call 22; (with_reducible refine (aw_make0 _).mono ?_); rintro e w9 ⟨rfl, hb9⟩; have hx9 := hx8.below hb9; have hs9 := hs8.below hb9; have hz9 := hz8.trans (hb9.mono hz8.size); obtain ⟨s0, s1, s2⟩ := aw_cells1 hx9; obtain ⟨r0, r1, r2⟩ := aw_cells2 hs9))
  go_ret
  exact ⟨rfl, hz9⟩
end Go.Proofs.Ytphmmpdeehfhjaa
