/- And, Or, Xor, Not. -/
import Derived.Test.YtmfdcaalbpikpaaW3
namespace Go.Proofs.Ytmfdcaalbpikpaa
open Go.RowKit Go.Maps
set_option linter.unusedVariables false
set_option linter.unusedSimpArgs false
/-- what an operation on two refs answers -/
def binA (op : Int) (S : List Int) (M : Int) (N : List Nd) (f g : Int) : Out := if hasA N f = true ∧ hasA N g = true then outA N (runT op S M N f g) else (N, 0, 1)
def OpPost (w : World) (ab : Nat) (S : List Int) (M : Int) (z : List Nat) (R : Out) (e : Ending) (w' : World) : Prop :=
  e = .returned (.tuple #[.int .i64 R.2.1, .int .i64 R.2.2]) ∧ Grew w w' ab S M R.1 z
theorem Grew.same {w w' : World} {ab : Nat} {S : List Int} {M : Int} {N : List Nd} {z : List Nat} (h : PAt w ab S M N z) (hb : Below w.heap.size w w') : Grew w w' ab S M N z := ⟨z, h.new hb, Mods.of_new hb, fun k hk => .inl hk⟩
theorem Grew.begun {w w1 w2 w3 : World} {b ab mk : Nat} {S : List Int} {M : Int} {N3 : List Nd} {z z2 : List Nat} (hz : ∀ k ∈ z, k < w.heap.size) (hb1 : Below w.heap.size w w1) (hb : w.heap.size ≤ b) (hmk : w.heap.size ≤ mk)
    (hm : Mods (· ∈ mzs b mk z) w1 w2) (h2 : ∀ k ∈ z2, k ∈ z ∨ w1.heap.size ≤ k) (hg : Grew w2 w3 ab S M N3 z2) : Grew w w3 ab S M N3 z := by
  obtain ⟨z3, hp, hm3, h3⟩ := hg
  have hs1 := hb1.size
  have m1 : Mods (· ∈ z) w w2 := (Mods.of_new (S := (· ∈ z)) hb1).trans hm (fun k hk hkz => by
    simp only [mzs, List.mem_cons] at hkz
    rcases hkz with e | e | e
    · omega
    · omega
    · exact e)
  refine ⟨z3, hp, m1.trans hm3 (fun k hk hkz => ?_), fun k hk => ?_⟩
  · rcases h2 k hkz with e | e
    · exact e
    · omega
  · rcases h3 k hk with e | e
    · rcases h2 k e with e2 | e2
      · exact .inl e2
      · exact .inr (by omega)
    · exact .inr (by have := m1.size; omega)
section
variable {w w' : World} {b ab mk : Nat} {op : Int} {S : List Int} {M : Int} {N : List Nd} {z : List Nat} {f g : Int}
set_option maxRecDepth 100000 in
set_option maxHeartbeats 4000000 in
theorem both_any (hop : 0 ≤ op ∧ op ≤ 2) (h : PAt w ab S M N z) : Calls Try.prog 59 #[.pointer (some ⟨ab, 0, none⟩), .int .i64 op, .int .i64 f, .int .i64 g] w (OpPost w ab S M z (binA op S M N f g)) := by
  have HF := Hid.mk_ (has_at h f)
  have HG := Hid.mk_ (has_at h g)
  have HH := Hid.mk_ h
  cases hf : hasA N f with
  | false =>
    rw [hf] at HF
    have e : binA op S M N f g = (N, 0, 1) := by unfold binA; rw [if_neg (by rw [hf]; simp)]
    rw [e]
    clear h hf e
    go_enter Try.func59, Try.ntmps59
    go_wp2_with (first
      | (go_at_call 46; (with_reducible refine HF.out.mono ?_); rintro e w' ⟨rfl, rfl⟩)
      | (go_at_call 46; (with_reducible refine HG.out.mono ?_); rintro e w' ⟨rfl, rfl⟩))
    go_ret2
    exact ⟨rfl, Grew.same HH.out (Below.refl _ _)⟩
  | true =>
    rw [hf] at HF
    cases hg : hasA N g with
    | false =>
      rw [hg] at HG
      have e : binA op S M N f g = (N, 0, 1) := by unfold binA; rw [if_neg (by rw [hg]; simp)]
      rw [e]
      clear h hf hg e
      go_enter Try.func59, Try.ntmps59
      go_wp2_with (first
        | (go_at_call 46; (with_reducible refine HF.out.mono ?_); rintro e w' ⟨rfl, rfl⟩)
        | (go_at_call 46; (with_reducible refine HG.out.mono ?_); rintro e w' ⟨rfl, rfl⟩))
      go_ret2
      exact ⟨rfl, Grew.same HH.out (Below.refl _ _)⟩
    | true =>
      rw [hg] at HG
      have e : binA op S M N f g = outA N (runT op S M N f g) := by unfold binA; rw [if_pos ⟨hf, hg⟩]
      rw [e]
      have HA := Hid.mk_ hf
      have HB := Hid.mk_ hg
      have HBE := Hid.mk_ (begin_any h)
      have HFI := Hid.mk_ (runT_fine (op := op) h.good hf hg)
      have HO := Hid.mk_ hop
      obtain ⟨R, hR⟩ : ∃ R, R = runT op S M N f g := ⟨_, rfl⟩
      rw [← hR] at HFI ⊢
      have HR := Hid.mk_ hR
      clear h hf hg e hR hop
      go_enter Try.func59, Try.ntmps59
      go_upto_region 4 with (first
        | (go_at_call 46; (with_reducible refine HF.out.mono ?_); rintro e w' ⟨rfl, rfl⟩)
        | (go_at_call 46; (with_reducible refine HG.out.mono ?_); rintro e w' ⟨rfl, rfl⟩)
        | (go_at_call 60; (with_reducible refine HBE.out.mono ?_); rintro e w1 ⟨b, mk, rfl, hm1, hb1, hmk1, hbel1⟩))
      have HM1 := Hid.mk_ hm1
      have HBEL := Hid.mk_ hbel1
      have HLEN := Hid.mk_ (len_at hm1.pa)
      have HAP := Hid.mk_ (apply_any HO.out (S.length + 1) w1 N z (.map []) f g hm1 Knows.none HA.out HB.out (deep_lt HH.out.good f g))
      rw [← HR.out] at HAP
      clear hm1 hbel1
      go_wp2_with (first
        | (go_at_call 16; (with_reducible refine HLEN.out.mono ?_); rintro e w' ⟨rfl, rfl⟩)
        | (go_at_call 72; (with_reducible refine HAP.out.mono ?_); rintro e w2 ⟨rfl, D2, ⟨z2, hm2, hmo2, hz2⟩, _⟩; have HE := Hid.mk_ (ends_any (r := R.2.1) hm2 HFI.out.pre (fun e => by rcases HFI.out.err with e2 | e2; exact absurd e2 e; exact e2.2)); clear hm2)
        | (go_at_call 61; (with_reducible refine HE.out.mono ?_); rintro e w3 ⟨rfl, hg3⟩))
      go_ret2
      refine ⟨?_, Grew.begun (fun k hk => HH.out.zlt hk) HBEL.out hb1 hmk1 hmo2 hz2 hg3⟩
      unfold outA
      by_cases e0 : R.2.2 = 0
      · rw [if_pos e0]; rfl
      · rw [if_neg e0]; rfl
theorem and_any (h : PAt w ab S M N z) : Calls Try.prog 24 #[.pointer (some ⟨ab, 0, none⟩), .int .i64 f, .int .i64 g] w (OpPost w ab S M z (binA 0 S M N f g)) := by
  have HB := Hid.mk_ (both_any (op := 0) (f := f) (g := g) (by omega) h)
  obtain ⟨R, hR⟩ : ∃ R, R = binA 0 S M N f g := ⟨_, rfl⟩
  rw [← hR] at HB ⊢
  clear h hR
  go_enter Try.func24, Try.ntmps24
  go_wp2_with (go_at_call 59; (with_reducible refine HB.out.mono ?_); rintro e w' ⟨rfl, hg⟩)
  go_ret2
  exact ⟨rfl, hg⟩
theorem or_any (h : PAt w ab S M N z) : Calls Try.prog 35 #[.pointer (some ⟨ab, 0, none⟩), .int .i64 f, .int .i64 g] w (OpPost w ab S M z (binA 1 S M N f g)) := by
  have HB := Hid.mk_ (both_any (op := 1) (f := f) (g := g) (by omega) h)
  obtain ⟨R, hR⟩ : ∃ R, R = binA 1 S M N f g := ⟨_, rfl⟩
  rw [← hR] at HB ⊢
  clear h hR
  go_enter Try.func35, Try.ntmps35
  go_wp2_with (go_at_call 59; (with_reducible refine HB.out.mono ?_); rintro e w' ⟨rfl, hg⟩)
  go_ret2
  exact ⟨rfl, hg⟩
theorem xor_any (h : PAt w ab S M N z) : Calls Try.prog 36 #[.pointer (some ⟨ab, 0, none⟩), .int .i64 f, .int .i64 g] w (OpPost w ab S M z (binA 2 S M N f g)) := by
  have HB := Hid.mk_ (both_any (op := 2) (f := f) (g := g) (by omega) h)
  obtain ⟨R, hR⟩ : ∃ R, R = binA 2 S M N f g := ⟨_, rfl⟩
  rw [← hR] at HB ⊢
  clear h hR
  go_enter Try.func36, Try.ntmps36
  go_wp2_with (go_at_call 59; (with_reducible refine HB.out.mono ?_); rintro e w' ⟨rfl, hg⟩)
  go_ret2
  exact ⟨rfl, hg⟩
theorem not_any (h : PAt w ab S M N z) : Calls Try.prog 25 #[.pointer (some ⟨ab, 0, none⟩), .int .i64 f] w (OpPost w ab S M z (binA 2 S M N f 1)) := by
  have HB := Hid.mk_ (both_any (op := 2) (f := f) (g := 1) (by omega) h)
  obtain ⟨R, hR⟩ : ∃ R, R = binA 2 S M N f 1 := ⟨_, rfl⟩
  rw [← hR] at HB ⊢
  clear h hR
  go_enter Try.func25, Try.ntmps25
  go_wp2_with (go_at_call 59; (with_reducible refine HB.out.mono ?_); rintro e w' ⟨rfl, hg⟩)
  go_ret2
  exact ⟨rfl, hg⟩
end
end Go.Proofs.Ytmfdcaalbpikpaa
