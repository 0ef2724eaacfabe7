/- TrieMakes: the walk. -/
import Derived.Test.YtphmmpdeehfhjaaK8
import Derived.Test.YtphmmpdeehfhjaaS3
namespace Go.Proofs.Ytphmmpdeehfhjaa
open Go.RowKit
set_option linter.unusedVariables false
set_option linter.unusedSimpArgs false
theorem make_facts {L : List Row} {t : Tr} (h : MakeOf L = some t) : t.all 0 0 = L ∧ t.ht ≤ 32 := by
  unfold MakeOf at h
  cases hm : mk (.leaf 0) L with
  | none => rw [hm] at h; simp at h
  | some u =>
    rw [hm, Option.bind_some] at h
    by_cases he : u.all 0 0 = L
    · rw [if_pos he] at h
      cases h
      have hok : ∀ (M : List Row) (x y : Tr), mk x M = some y → (∀ r ∈ M, rowOk r = true) ∧ y = M.foldl putRow x := by
        intro M
        induction M with
        | nil => intro x y h; simp [mk] at h; exact ⟨by simp, h.symm⟩
        | cons r M ih =>
          intro x y h
          rw [mk] at h
          by_cases hr : rowOk r = true
          · rw [if_pos hr] at h
            obtain ⟨h1, h2⟩ := ih _ _ h
            exact ⟨fun q hq => by rcases List.mem_cons.1 hq with rfl | hq; exact hr; exact h1 q hq, h2⟩
          · rw [if_neg hr] at h; simp at h
      obtain ⟨h1, h2⟩ := hok L _ _ hm
      exact ⟨he, by rw [h2]; exact ht_puts _ _ (fun r hr => (ok_right (h1 r hr)).1) (by simp [Tr.ht])⟩
    · rw [if_neg he] at h; simp at h
section
variable {A : Option Addr} {c : Nat} {rows : List Row} {w : World} {sb : Nat} {p q : Value}
theorem made_none (hR : RowsIn w A rows) (hlen : rows.length ≤ 2147483647) (hS : Blk w sb [p, q] 39) (hm : MakeOf rows = none) :
    Calls Try.prog 14 #[.pointer (some ⟨sb, 0, none⟩), .slice A rows.length c] w fun e w' => e = .returned (.bool true) ∧ Blk w' sb [p, q] 39 ∧ Below w.heap.size w w' := by
  refine (made_any A c rows w sb p q hR hlen hS).mono ?_
  rintro e w' ⟨he, h⟩
  rcases h with ⟨_, h⟩ | ⟨t, a, fp, b, fr, h, _⟩
  · exact ⟨he, hS.below h hS.lt, h⟩
  · rw [hm] at h; cases h
theorem made_some {t : Tr} (hR : RowsIn w A rows) (hlen : rows.length ≤ 2147483647) (hS : Blk w sb [p, q] 39) (hm : MakeOf rows = some t) :
    Calls Try.prog 14 #[.pointer (some ⟨sb, 0, none⟩), .slice A rows.length c] w fun e w' => e = .returned (.bool true) ∧ ∃ a fp b, Blk w' sb [.pointer (some ⟨a, 0, none⟩), .pointer (some ⟨b, 0, none⟩)] 39 ∧ TrieAt w' t a fp ∧ Mods (· = sb) w w' := by
  refine (made_any A c rows w sb p q hR hlen hS).mono ?_
  rintro e w' ⟨he, h⟩
  rcases h with ⟨h, _⟩ | ⟨t2, a, fp, b, fr, h, h1, h2, _, _, _, h3⟩
  · rw [hm] at h; cases h
  · rw [hm] at h; cases h
    exact ⟨he, a, fp, b, h1, h2, h3⟩
end
set_option maxHeartbeats 8000000 in
set_option maxRecDepth 100000 in
theorem triemakes_any (A : Option Addr) (c : Nat) (l : List Row) (w : World) (hl : RowsIn w A l) :
    Calls Try.prog 4 #[.slice A l.length c] w fun e w' => e = .returned (.bool true) ∧ Below w.heap.size w w' := by
  have HL := Hid.mk_ hl
  clear hl
  by_cases hlen : l.length ≤ 2147483647
  · have hle : ¬ ((2147483647 : Int) < l.length) := by omega
    cases hm : MakeOf l with
    | none =>
      have HM := Hid.mk_ hm
      clear hm
      go_enter Try.func4, Try.ntmps4
      go_wp2_with (first
        | (go_at_call 8; (with_reducible refine (awake_any _).mono ?_); rintro e w1 ⟨rfl, hb1⟩; have HB1 := Hid.mk_ hb1; clear hb1)
        | (go_at_call 14; (with_reducible refine (made_none (HL.out.new (HB1.out.alloc HB1.out.size _)) hlen (Blk.new w1 [.pointer none, .pointer none] 39) HM.out).mono ?_); rintro e w2 ⟨rfl, hs2, hb2⟩; have s0 := hs2.cell 0; simp at s0; have HB2 := Hid.mk_ hb2; clear hs2 hb2))
      go_ret
      exact ⟨rfl, (HB1.out.alloc HB1.out.size _).trans (HB2.out.mono (by have := HB1.out.size; simp; omega))⟩
    | some t =>
      obtain ⟨f1, f2⟩ := make_facts hm
      have HM := Hid.mk_ hm
      have HF1 := Hid.mk_ f1
      have HF2 := Hid.mk_ f2
      clear hm f1 f2
      go_enter Try.func4, Try.ntmps4
      go_wp2_with (first
        | (go_at_call 8; (with_reducible refine (awake_any _).mono ?_); rintro e w1 ⟨rfl, hb1⟩; have HB1 := Hid.mk_ hb1; clear hb1)
        | (go_at_call 14; (with_reducible refine (made_some (HL.out.new (HB1.out.alloc HB1.out.size _)) hlen (Blk.new w1 [.pointer none, .pointer none] 39) HM.out).mono ?_); rintro e w2 ⟨rfl, a, fp, b, hs2, ht2, hm2⟩; have s0 := hs2.cell 0; simp at s0; have HT2 := Hid.mk_ ht2; have HM2 := Hid.mk_ (Mods.below hm2 (B := w.heap.size) (by have := HB1.out.size; simp; omega) (fun q _ e => by have := HB1.out.size; omega)); clear hs2 ht2 hm2)
        | (go_at_call 16; (with_reducible refine (rows_told HT2.out HF2.out HF1.out).mono ?_); rintro e w3 ⟨g, rfl, hr3, hg3, hg3', hb3⟩; have HR3 := Hid.mk_ hr3; have HB3 := Hid.mk_ ((HB1.out.alloc HB1.out.size _).trans (HM2.out.trans (hb3.mono (by have h1 := HM2.out.size; have h2 := HB1.out.size; rw [World.size_alloc] at h1; omega)))); clear hr3 hb3)
        | (go_at_call 15; (with_reducible refine (lawrows_any _ _ _ _ l l _ HR3.out (HL.out.new HB3.out)).mono ?_); rintro e w4 ⟨rfl, n4, rfl⟩))
      go_ret
      exact ⟨rfl, HB3.out.trans (Drawn_below _ _)⟩
  · have hle : (2147483647 : Int) < l.length := by omega
    go_enter Try.func4, Try.ntmps4
    go_wp2_with fail
    go_ret
    exact ⟨rfl, Below.refl _ _⟩
end Go.Proofs.Ytphmmpdeehfhjaa
