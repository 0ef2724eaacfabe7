/- The document's own right prefixes and labels: walks. -/
import Derived.Test.YtphmmpdeehfhjaaK1
namespace Go.Proofs.Ytphmmpdeehfhjaa
open Go.RowKit
set_option linter.unusedVariables false
set_option linter.unusedSimpArgs false
theorem rsize_any (b : Int) (h0 : 0 ≤ b) (h1 : b ≤ 32) (w : World) :
    Calls Try.prog 43 #[.int .i64 b] w fun e w' => e = .returned (.int .i64 (2 ^ (32 - b).toNat)) ∧ w = w' := by
  have hp : wrap64 (2 ^ (32 - b).toNat) = 2 ^ (32 - b).toNat := by
    obtain ⟨h2, h3⟩ := pow_bits b h0 h1
    unfold wrap64
    omega
  go_enter Try.func43, Try.ntmps43
  go_wp2
  go_ret
  rw [hp]
  exact ⟨rfl, rfl⟩
theorem rsize_at {b s : Int} (hs : s = 2 ^ (32 - b).toNat) (h0 : 0 ≤ b) (h1 : b ≤ 32) (w : World) :
    Calls Try.prog 43 #[.int .i64 b] w fun e w' => e = .returned (.int .i64 s) ∧ w = w' := hs ▸ rsize_any b h0 h1 w
theorem rsize_quiet {b s : Int} (hs : s = 2 ^ (32 - b).toNat) (h0 : 0 ≤ b) (h1 : b ≤ 32) (w : World) (n : Nat) :
    Calls Try.prog 43 #[.int .i64 b] (w.drewN n) fun e w'' => e = .returned (.int .i64 s) ∧ ∃ m, w'' = w.drewN m := (rsize_at hs h0 h1 _).mono fun _ _ ⟨he, hm⟩ => ⟨he, n, hm.symm⟩
theorem rlabel_any (n : Int) (w : World) :
    Calls Try.prog 27 #[.int .i64 n] w fun e w' => e = .returned (.bool (decide (0 ≤ n ∧ n ≤ 65535))) ∧ w = w' := by
  by_cases h : 0 ≤ n
  · by_cases h2 : n ≤ 65535
    · go_enter Try.func27, Try.ntmps27
      go_wp2
      go_ret
      exact ⟨by simp [h, h2], rfl⟩
    · go_enter Try.func27, Try.ntmps27
      go_wp2
      go_ret
      exact ⟨by simp [h2], rfl⟩
  · go_enter Try.func27, Try.ntmps27
    go_wp2
    go_ret
    exact ⟨by congr 2; simp; omega, rfl⟩
theorem rright_no (a b : Int) (w : World) (h : ¬ (0 ≤ b ∧ b ≤ 32 ∧ 0 ≤ a ∧ a ≤ 4294967295)) :
    Calls Try.prog 42 #[.agg #[.int .i64 a, .int .i64 b]] w fun e w' => e = .returned (.bool false) ∧ Below w.heap.size w w' := by
  by_cases c1 : 0 ≤ b
  · by_cases c2 : b ≤ 32
    · by_cases c3 : 0 ≤ a
      · have c4 : ¬ (a ≤ 4294967295) := by omega
        have t4 := decide_eq_false c4
        have t1 := decide_eq_true c1
        have t2 := decide_eq_true c2
        have t3 := decide_eq_true c3
        clear h
        go_enter Try.func42, Try.ntmps42
        go_wp2_with fail
        go_big_quiet (fail)
        go_wp2_with fail
        go_ret
        exact ⟨rfl, ((Below.refl _ _).alloc (Nat.le_refl _) _).trans (Drawn_below _ _)⟩
      · have t1 := decide_eq_true c1
        have t2 := decide_eq_true c2
        have t3 := decide_eq_false c3
        clear h
        go_enter Try.func42, Try.ntmps42
        go_wp2_with fail
        go_big_quiet (fail)
        go_wp2_with fail
        go_ret
        exact ⟨rfl, ((Below.refl _ _).alloc (Nat.le_refl _) _).trans (Drawn_below _ _)⟩
    · have t1 := decide_eq_true c1
      have t2 := decide_eq_false c2
      clear h
      go_enter Try.func42, Try.ntmps42
      go_wp2_with fail
      go_big_quiet (fail)
      go_wp2_with fail
      go_ret
      exact ⟨rfl, ((Below.refl _ _).alloc (Nat.le_refl _) _).trans (Drawn_below _ _)⟩
  · have t1 := decide_eq_false c1
    clear h
    go_enter Try.func42, Try.ntmps42
    go_wp2_with fail
    go_big_quiet (fail)
    go_wp2_with fail
    go_ret
    exact ⟨rfl, ((Below.refl _ _).alloc (Nat.le_refl _) _).trans (Drawn_below _ _)⟩
theorem rright_yes (a b : Int) (w : World) (h0 : 0 ≤ b) (h1 : b ≤ 32) (h2 : 0 ≤ a) (h3 : a ≤ 4294967295) :
    Calls Try.prog 42 #[.agg #[.int .i64 a, .int .i64 b]] w fun e w' => e = .returned (.bool (decide (a % 2 ^ (32 - b).toNat = 0))) ∧ Below w.heap.size w w' := by
  obtain ⟨s, hs⟩ : ∃ s : Int, s = 2 ^ (32 - b).toNat := ⟨_, rfl⟩
  obtain ⟨s1, s2⟩ : 1 ≤ s ∧ s ≤ 4294967296 := by rw [hs]; exact pow_bits b h0 h1
  obtain ⟨m, hm⟩ : ∃ m, m = a % s := ⟨_, rfl⟩
  have em : a.tmod s = m := by rw [hm, Int.tmod_eq_emod_of_nonneg h2]
  have s0 : ¬ s = 0 := by omega
  have t1 := decide_eq_true h0
  have t2 := decide_eq_true h1
  have t3 := decide_eq_true h2
  have t4 := decide_eq_true h3
  have hsz := fun W n => rsize_quiet hs h0 h1 W n
  have HSZ := Hid.mk_ hsz
  rw [← hs, ← hm]
  have m0 : 0 ≤ m := by rw [hm]; exact Int.emod_nonneg _ s0
  have m1 : m < s := by rw [hm]; exact Int.emod_lt_of_pos _ (by omega)
  have hw : IntKind.i64.wrap m = m := by rw [IntKind.wrap_i64]; omega
  clear hs hsz hm
  by_cases hz : m = 0
  · subst hz
    go_enter Try.func42, Try.ntmps42
    go_wp2_with fail
    go_big_quiet (first | (go_at_call 43; with_reducible exact HSZ.out _ _))
    go_wp2_with fail
    go_ret
    exact ⟨rfl, ((Below.refl _ _).alloc (Nat.le_refl _) _).trans (Drawn_below _ _)⟩
  · have t5 := decide_eq_false hz
    have t6 : (m == 0) = false := by simpa using hz
    go_enter Try.func42, Try.ntmps42
    go_wp2_with fail
    go_big_quiet (first | (go_at_call 43; with_reducible exact HSZ.out _ _))
    go_wp2_with fail
    go_ret
    exact ⟨by rw [t5]; rfl, ((Below.refl _ _).alloc (Nat.le_refl _) _).trans (Drawn_below _ _)⟩
theorem rright_any (a b : Int) (w : World) :
    Calls Try.prog 42 #[.agg #[.int .i64 a, .int .i64 b]] w fun e w' => e = .returned (.bool (rightB a b)) ∧ Below w.heap.size w w' := by
  by_cases h : 0 ≤ b ∧ b ≤ 32 ∧ 0 ≤ a ∧ a ≤ 4294967295
  · have e : rightB a b = decide (a % 2 ^ (32 - b).toNat = 0) := by
      unfold rightB; rw [decide_eq_decide]; exact ⟨fun x => x.2.2.2.2, fun x => ⟨h.1, h.2.1, h.2.2.1, h.2.2.2, x⟩⟩
    rw [e]
    exact rright_yes a b w h.1 h.2.1 h.2.2.1 h.2.2.2
  · have e : rightB a b = false := by
      unfold rightB; rw [decide_eq_false_iff_not]; exact fun x => h ⟨x.1, x.2.1, x.2.2.1, x.2.2.2.1⟩
    rw [e]
    exact rright_no a b w h
theorem rright_at {a b : Int} {r : Bool} (h : rightB a b = r) (w : World) :
    Calls Try.prog 42 #[.agg #[.int .i64 a, .int .i64 b]] w fun e w' => e = .returned (.bool r) ∧ Below w.heap.size w w' := h ▸ rright_any a b w
theorem rlabel_at {n : Int} {r : Bool} (h : decide (0 ≤ n ∧ n ≤ 65535) = r) (w : World) :
    Calls Try.prog 27 #[.int .i64 n] w fun e w' => e = .returned (.bool r) ∧ w = w' := h ▸ rlabel_any n w
end Go.Proofs.Ytphmmpdeehfhjaa
