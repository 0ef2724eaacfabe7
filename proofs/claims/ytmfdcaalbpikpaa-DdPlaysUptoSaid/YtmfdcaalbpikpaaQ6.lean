/- A diagram cut where a level's class is known. No program in sight. -/
import Derived.Test.YtmfdcaalbpikpaaQ4
namespace Go.Proofs.Ytmfdcaalbpikpaa
open Go.RowKit Go.Maps
set_option linter.unusedVariables false
set_option linter.unusedSimpArgs false
section
variable {S : List Int} {M : Int} {N N' N2 : List Nd} {f g l b lv cl : Int} {p : List Int}
/-- a node's own kid -/
theorem kid_own (hl : lvl S.length N f = l) (c : Nat) : kidA S.length N f l c = (ksOf N f).getD c 0 := by unfold kidA; rw [if_pos hl]
theorem cut_kids (h : Good S M N) (hf : hasA N f = true) (hn : lvl S.length N f < S.length) {c : Nat} (hc : c < (S.getD (lvl S.length N f).toNat 0).toNat) (hp : N <+: N') :
    hasA N' ((ksOf N f).getD c 0) = true ∧ lvl S.length N f < lvl S.length N' ((ksOf N f).getD c 0) := by
  have := kid_fine (l := lvl S.length N f) h hf (Int.le_refl _) hn hc
  rw [kid_own rfl] at this
  exact ⟨has_pre hp this.1, by rw [lvl_pre hp this.1]; exact this.2⟩
theorem cut_steps (hL : 0 ≤ lv ∧ lv < S.length) (hC : 0 ≤ cl ∧ cl < S.getD lv.toNat 0) : ∀ k : Nat, (∀ N f, Good S M N → hasA N f = true → (S.length : Int) - lvl S.length N f < k → Fine S M N (lvl S.length N f) (cutA S M lv cl k N f)) ∧
    (∀ N N2 f, Good S M N → hasA N f = true → (S.length : Int) - lvl S.length N f < k → (cutA S M lv cl k N f).2.2 = 0 → (cutA S M lv cl k N f).1 <+: N2 → Good S M N2 → cutA S M lv cl k N2 f = (N2, (cutA S M lv cl k N f).2.1, 0))
  | 0 => ⟨fun N f h hf hk => by have := lvl_le_n h f; omega, fun N N2 f h hf hk => by have := lvl_le_n h f; omega⟩
  | k + 1 => by
    obtain ⟨ih1, ih2⟩ := cut_steps hL hC k
    have hst : ∀ N f, Good S M N → hasA N f = true → (S.length : Int) - lvl S.length N f < (k + 1 : Nat) → lvl S.length N f < S.length →
        Steps S M N (lvl S.length N f) (S.getD (lvl S.length N f).toNat 0).toNat (fun N' c => cutA S M lv cl k N' ((ksOf N f).getD c 0)) := by
      intro N f h hf hk hn
      refine ⟨fun N' c hc hp hgd => ?_, fun N' c N2 hc hp hgd he hp2 hg2 => ?_⟩
      · obtain ⟨k1, k2⟩ := cut_kids h hf hn hc hp
        have := ih1 N' _ hgd k1 (by omega)
        exact ⟨this.good, this.pre, this.err, fun e => ⟨(this.ok e).1, by have := (this.ok e).2; omega⟩⟩
      · obtain ⟨k1, k2⟩ := cut_kids h hf hn hc hp
        exact ih2 N' N2 _ hgd k1 (by omega) he hp2 hg2
    refine ⟨fun N f h hf hk => ?_, fun N N2 f h hf hk he hp hg2 => ?_⟩
    · unfold cutA
      by_cases h1 : lv < lvl S.length N f
      · rw [if_pos h1]
        exact ⟨h, List.prefix_refl _, .inl rfl, fun _ => ⟨hf, Int.le_refl _⟩⟩
      · rw [if_neg h1]
        by_cases h2 : lvl S.length N f = lv
        · rw [if_pos h2]
          obtain ⟨k1, k2⟩ := cut_kids (c := cl.toNat) h hf (by omega) (by rw [h2]; omega) (List.prefix_refl _)
          exact ⟨h, List.prefix_refl _, .inl rfl, fun _ => ⟨k1, Int.le_of_lt k2⟩⟩
        · rw [if_neg h2]
          exact build_fine (hst N f h hf hk (by omega)) h ⟨lvl_nonneg h f, by omega⟩
    · unfold cutA at he hp ⊢
      by_cases h1 : lv < lvl S.length N f
      · rw [if_pos h1] at he hp
        rw [if_pos h1, if_pos (by rw [lvl_pre hp hf]; exact h1)]
      · rw [if_neg h1] at he hp
        rw [if_neg h1]
        by_cases h2 : lvl S.length N f = lv
        · rw [if_pos h2] at he hp
          rw [if_pos h2, if_neg (by rw [lvl_pre hp hf]; exact h1), if_pos (by rw [lvl_pre hp hf]; exact h2), ks_pre hp hf]
        · rw [if_neg h2] at he hp
          have hs := hst N f h hf hk (by omega)
          have hl : 0 ≤ lvl S.length N f ∧ lvl S.length N f < S.length := ⟨lvl_nonneg h f, by omega⟩
          have hpN : N <+: N2 := (build_fine hs h hl).pre.trans hp
          rw [if_neg h2, lvl_pre hpN hf, if_neg h1, if_neg h2, ks_pre hpN hf]
          exact build_again hs h hl he hp hg2
def cutT (S : List Int) (M : Int) (lv cl : Int) (N : List Nd) (f : Int) : Out := cutA S M lv cl (S.length + 1) N f
theorem cut_fuel (hL : 0 ≤ lv ∧ lv < S.length) (hC : 0 ≤ cl ∧ cl < S.getD lv.toNat 0) : ∀ (k j : Nat) (N : List Nd) (f : Int), Good S M N → hasA N f = true → (S.length : Int) - lvl S.length N f < k → k ≤ j → cutA S M lv cl j N f = cutA S M lv cl k N f
  | 0, _, N, f, h, hf, hk, _ => by have := lvl_le_n h f; omega
  | k + 1, 0, N, f, h, hf, hk, hj => by omega
  | k + 1, j + 1, N, f, h, hf, hk, hj => by
    unfold cutA
    by_cases h1 : lv < lvl S.length N f
    · rw [if_pos h1, if_pos h1]
    · rw [if_neg h1, if_neg h1]
      by_cases h2 : lvl S.length N f = lv
      · rw [if_pos h2, if_pos h2]
      · rw [if_neg h2, if_neg h2]
        have hs : Steps S M N (lvl S.length N f) (S.getD (lvl S.length N f).toNat 0).toNat (fun N' c => cutA S M lv cl k N' ((ksOf N f).getD c 0)) := by
          obtain ⟨ih1, ih2⟩ := cut_steps (M := M) hL hC k
          refine ⟨fun N' c hc hp hgd => ?_, fun N' c N2 hc hp hgd he hp2 hg2 => ?_⟩
          · obtain ⟨k1, k2⟩ := cut_kids h hf (by omega) hc hp
            have := ih1 N' _ hgd k1 (by omega)
            exact ⟨this.good, this.pre, this.err, fun e => ⟨(this.ok e).1, by have := (this.ok e).2; omega⟩⟩
          · obtain ⟨k1, k2⟩ := cut_kids h hf (by omega) hc hp
            exact ih2 N' N2 _ hgd k1 (by omega) he hp2 hg2
        refine build_congr (fun N' c hc hp hgd => ?_) hs h
        obtain ⟨k1, k2⟩ := cut_kids h hf (by omega) hc hp
        exact cut_fuel hL hC k j N' _ hgd k1 (by omega) (by omega)
theorem cut_lt (h : Good S M N) (f : Int) : (S.length : Int) - lvl S.length N f < (S.length + 1 : Nat) := by have := lvl_nonneg h f; omega
theorem cutT_fine (hL : 0 ≤ lv ∧ lv < S.length) (hC : 0 ≤ cl ∧ cl < S.getD lv.toNat 0) (h : Good S M N) (hf : hasA N f = true) : Fine S M N (lvl S.length N f) (cutT S M lv cl N f) := (cut_steps hL hC _).1 N f h hf (cut_lt h f)
theorem cutT_again (hL : 0 ≤ lv ∧ lv < S.length) (hC : 0 ≤ cl ∧ cl < S.getD lv.toNat 0) (h : Good S M N) (hf : hasA N f = true) (he : (cutT S M lv cl N f).2.2 = 0) (hp : (cutT S M lv cl N f).1 <+: N2) (h2 : Good S M N2) :
    cutT S M lv cl N2 f = (N2, (cutT S M lv cl N f).2.1, 0) := (cut_steps hL hC _).2 N N2 f h hf (cut_lt h f) he hp h2
theorem cutT_over (h1 : lv < lvl S.length N f) : cutT S M lv cl N f = (N, f, 0) := by unfold cutT cutA; rw [if_pos h1]
theorem cutT_at (h1 : lvl S.length N f = lv) : cutT S M lv cl N f = (N, (ksOf N f).getD cl.toNat 0, 0) := by unfold cutT cutA; rw [if_neg (by omega), if_pos h1]
theorem cutT_steps (hL : 0 ≤ lv ∧ lv < S.length) (hC : 0 ≤ cl ∧ cl < S.getD lv.toNat 0) (h : Good S M N) (hf : hasA N f = true) (hn : lvl S.length N f < S.length) :
    Steps S M N (lvl S.length N f) (S.getD (lvl S.length N f).toNat 0).toNat (fun N' c => cutT S M lv cl N' ((ksOf N f).getD c 0)) := by
  refine ⟨fun N' c hc hp hgd => ?_, fun N' c N2 hc hp hgd he hp2 hg2 => ?_⟩
  · obtain ⟨k1, k2⟩ := cut_kids h hf hn hc hp
    have := cutT_fine hL hC hgd k1
    exact ⟨this.good, this.pre, this.err, fun e => ⟨(this.ok e).1, by have := (this.ok e).2; omega⟩⟩
  · obtain ⟨k1, k2⟩ := cut_kids h hf hn hc hp
    exact cutT_again hL hC hgd k1 he hp2 hg2
theorem cutT_build (hL : 0 ≤ lv ∧ lv < S.length) (hC : 0 ≤ cl ∧ cl < S.getD lv.toNat 0) (h : Good S M N) (hf : hasA N f = true) (h1 : lvl S.length N f < lv) :
    cutT S M lv cl N f = build S M (fun N' c => cutT S M lv cl N' ((ksOf N f).getD c 0)) N (lvl S.length N f) := by
  conv => lhs; unfold cutT cutA
  rw [if_neg (by omega), if_neg (by omega)]
  refine build_congr (fun N' c hc hp hgd => ?_) (cutT_steps hL hC h hf (by omega)) h
  obtain ⟨k1, k2⟩ := cut_kids h hf (by omega) hc hp
  unfold cutT
  exact (cut_fuel hL hC S.length (S.length + 1) N' _ hgd k1 (by have := lvl_nonneg h f; omega) (by omega)).symm
/-- one cut says of each point what it says where the level's class is the known one -/
theorem cutT_den (hL : 0 ≤ lv ∧ lv < S.length) (hC : 0 ≤ cl ∧ cl < S.getD lv.toNat 0) (hp : Pt S p) : ∀ (n : Nat) (N : List Nd) (f : Int), Good S M N → hasA N f = true → (S.length : Int) - lvl S.length N f < n → (cutT S M lv cl N f).2.2 = 0 →
    den (cutT S M lv cl N f).1 p (cutT S M lv cl N f).2.1 = den N (p.set lv.toNat cl) f
  | 0, N, f, h, hf, hk, _ => by have := lvl_le_n h f; omega
  | n + 1, N, f, h, hf, hk, he => by
    by_cases h1 : lv < lvl S.length N f
    · rw [cutT_over h1]
      exact (den_over h hp hL.1 hC hf h1).symm
    · by_cases h2 : lvl S.length N f = lv
      · rw [cutT_at h2]
        have := den_at h hp hf hL (by omega) (c := cl.toNat) (by omega)
        rw [show ((cl.toNat : Nat) : Int) = cl by omega, kid_own h2] at this
        exact this.symm
      · have hlt : lvl S.length N f < lv := by omega
        have hl0 : 0 ≤ lvl S.length N f ∧ lvl S.length N f < S.length := ⟨lvl_nonneg h f, by omega⟩
        have hb := cutT_build hL hC h hf hlt
        have hs := cutT_steps (M := M) hL hC h hf (by omega)
        rw [hb] at he ⊢
        obtain ⟨N', hpN, hgd, hc, e1, hp2, e2⟩ := build_den hs h hl0 he hp
        rw [e2]
        obtain ⟨k1, k2⟩ := cut_kids h hf (by omega) hc hpN
        have hfin := cutT_fine (M := M) hL hC hgd k1
        obtain ⟨k3, k4⟩ := cut_kids h hf (by omega) hc (List.prefix_refl _)
        rw [den_ext hfin.good hp hp2 (hfin.ok e1).1, cutT_den hL hC hp n N' _ hgd k1 (by omega) e1, den_ext h (hp.set hC) hpN k3]
        have hps := hp.set (i := lv.toNat) hC
        rw [den_kid h hps hf hl0.2, kid_own rfl]
        have : (p.set lv.toNat cl).getD (lvl S.length N f).toNat 0 = p.getD (lvl S.length N f).toNat 0 := by
          have : lv.toNat ≠ (lvl S.length N f).toNat := by omega
          simp [List.getD, this]
        rw [this]
end
end Go.Proofs.Ytmfdcaalbpikpaa
