import Derived.Test.YtphmmpdeehfhjaaA6
namespace Go.Proofs.Ytphmmpdeehfhjaa
open Go.RowKit
set_option linter.unusedVariables false
set_option linter.unusedSimpArgs false
theorem tidies_any : ∀ (t : Tr) (b : Nat) (fp : List Nat) (w : World), At w t b fp → Calls Try.prog 41 #[.pointer (some ⟨b, 0, none⟩)] w (JoinsPost w t.tidy b fp)
  | .leaf v, b, fp, w, h => by
    have h' := h
    obtain ⟨rfl, hb⟩ := h'
    have c1 : w.cell? ⟨b, 1, none⟩ = some (.pointer none) := hb.cell 1
    go_enter Try.func41, Try.ntmps41
    go_wp2_with fail
    go_end0
    exact ⟨rfl, [b], h, fun _ hk => hk, Mods.refl _ _⟩
  | .node l r, b, fp, w, h => by
    obtain ⟨x, bl, br, fl, fr, rfl, hb, hl, hr, hn⟩ := h
    have c1 : w.cell? ⟨b, 1, none⟩ = some (.pointer (some ⟨bl, 0, none⟩)) := hb.cell 1
    have ihl := Hid.mk_ (tidies_any l bl fl w hl)
    have ihr := Hid.mk_ (fun w1 => tidies_any r br fr w1)
    have hd := hn
    simp only [List.nodup_cons, List.mem_append, List.nodup_append, not_or] at hd
    obtain ⟨⟨hbl, hbr⟩, nl, nr, nlr⟩ := hd
    go_enter Try.func41, Try.ntmps41
    go_wp2_with fail
    refine ihl.out.mono ?_
    rintro e w1 ⟨rfl, fl1, hl1, hsl, hml⟩
    have hb1 := hb.mods hml hbl
    have hr1 := hr.mods hml (fun k hk hk2 => nlr k hk2 k hk rfl)
    have c2 : w1.cell? ⟨b, 2, none⟩ = some (.pointer (some ⟨br, 0, none⟩)) := hb1.cell 2
    go_wp2_with fail
    refine (ihr.out w1 hr1).mono ?_
    rintro e w2 ⟨rfl, fr1, hr2, hsr, hmr⟩
    have hA1 : At w1 (.node l.tidy r) b (b :: (fl1 ++ fr)) := (At.put_left hb hl hr hn hl1 (fun k hk => .inl (hsl k hk)) hml).2
    have hA2 : At w2 (.node l.tidy r.tidy) b (b :: (fl1 ++ fr1)) := (At.put_right hb1 hl1 hr1 hA1.nodup hr2 (fun k hk => .inl (hsr k hk)) hmr).2
    go_wp2_with (go_at_call 52; refine (joins_any _ _ _ _ _ hA2).mono ?_; rintro e w3 ⟨rfl, fp3, h3, hs3, hm3⟩)
    go_end0
    have hsub : ∀ k ∈ b :: (fl1 ++ fr1), k ∈ b :: (fl ++ fr) := by
      intro k hk
      simp only [List.mem_cons, List.mem_append] at hk ⊢
      rcases hk with hk | hk | hk
      · exact .inl hk
      · exact .inr (.inl (hsl k hk))
      · exact .inr (.inr (hsr k hk))
    refine ⟨rfl, fp3, h3, fun k hk => hsub k (hs3 k hk), ?_⟩
    exact ((hml.mono (fun k _ hk => by simp [hk])).trans hmr (fun k _ hk => by simp [hk])).trans hm3 (fun k _ hk => hsub k hk)
#print axioms tidies_any
end Go.Proofs.Ytphmmpdeehfhjaa
