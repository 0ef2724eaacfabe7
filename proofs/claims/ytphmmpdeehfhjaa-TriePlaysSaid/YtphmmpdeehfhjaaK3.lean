/- The document's own right prefixes and labels: walks. -/
import Derived.Test.YtphmmpdeehfhjaaK1
namespace Go.Proofs.Ytphmmpdeehfhjaa
open Go.RowKit
set_option linter.unusedVariables false
set_option linter.unusedSimpArgs false
theorem rsize_any (b : Int) (h0 : 0 ≤ b) (h1 : b ≤ 32) (w : World) :
    Calls Try.prog 43 #[.int .i64 b] w fun e w' => e = .returned (.int .i64 (2 ^ (32 - b).toNat)) ∧ w = w' := by
  have hp : wrap64 (2 ^ (32 - b).toNat) = 2 ^ (32 - b).toNat := by
    obtain ⟨h2, h3⟩ := pow_bits b h0 h1
    unfold wrap64
    omega
  go_enter Try.func43, Try.ntmps43
  go_wp2
  go_ret
  rw [hp]
  exact ⟨rfl, rfl⟩
theorem rsize_at {b s : Int} (hs : s = 2 ^ (32 - b).toNat) (h0 : 0 ≤ b) (h1 : b ≤ 32) (w : World) :
    Calls Try.prog 43 #[.int .i64 b] w fun e w' => e = .returned (.int .i64 s) ∧ w = w' := hs ▸ rsize_any b h0 h1 w
theorem rsize_quiet {b s : Int} (hs : s = 2 ^ (32 - b).toNat) (h0 : 0 ≤ b) (h1 : b ≤ 32) (w : World) (n : Nat) :
    Calls Try.prog 43 #[.int .i64 b] (w.drewN n) fun e w'' => e = .returned (.int .i64 s) ∧ ∃ m, w'' = w.drewN m := (rsize_at hs h0 h1 _).mono fun _ _ ⟨he, hm⟩ => ⟨he, n, hm.symm⟩
theorem rlabel_any (n : Int) (w : World) :
    Calls Try.prog 27 #[.int .i64 n] w fun e w' => e = .returned (.bool (decide (0 ≤ n ∧ n ≤ 65535))) ∧ w = w' := by
  by_cases h : 0 ≤ n
  · by_cases h2 : n ≤ 65535
    · go_enter Try.func27, Try.ntmps27
      go_wp2
      go_ret
      exact ⟨by simp [h, h2], rfl⟩
    · go_enter Try.func27, Try.ntmps27
      go_wp2
      go_ret
      exact ⟨by simp [h2], rfl⟩
  · go_enter Try.func27, Try.ntmps27
    go_wp2
    go_ret
    exact ⟨by congr 2; simp; omega, rfl⟩
theorem rright_no (a b : Int) (w : World) (h : ¬ (0 ≤ b ∧ b ≤ 32 ∧ 0 ≤ a ∧ a ≤ 4294967295)) :
    Calls Try.prog 42 #[.agg #[.int .i64 a, .int .i64 b]] w fun e w' => e = .returned (.bool false) ∧ Below w.heap.size w w' := by
  by_cases c1 : 0 ≤ b
  · by_cases c2 : b ≤ 32
    · by_cases c3 : 0 ≤ a
      · have c4 : ¬ (a ≤ 4294967295) := by omega
        have t4 := decide_eq_false c4
        have t1 := decide_eq_true c1
        have t2 := decide_eq_true c2
        have t3 := decide_eq_true c3
        clear h
        go_enter Try.func42, Try.ntmps42
        go_wp2_with fail
        go_big_quiet (fail)
        go_wp2_with fail
        go_ret
        exact ⟨rfl, ((Below.refl _ _).alloc (Nat.le_refl _) _).trans (Drawn_below _ _)⟩
      · have t1 := decide_eq_true c1
        have t2 := decide_eq_true c2
        have t3 := decide_eq_false c3
        clear h
        go_enter Try.func42, Try.ntmps42
        go_wp2_with fail
        go_big_quiet (fail)
        go_wp2_with fail
        go_ret
        exact ⟨rfl, ((Below.refl _ _).alloc (Nat.le_refl _) _).trans (Drawn_below _ _)⟩
    · have t1 := decide_eq_true c1
      have t2 := decide_eq_false c2
      clear h
      go_enter Try.func42, Try.ntmps42
      go_wp2_with fail
      go_big_quiet (fail)
      go_wp2_with fail
      go_ret
      exact ⟨rfl, ((Below.refl _ _).alloc (Nat.le_refl _) _).trans (Drawn_below _ _)⟩
  · have t1 := decide_eq_false c1
    clear h
    go_enter Try.func42, Try.ntmps42
    go_wp2_with fail
    go_big_quiet (fail)
    go_wp2_with fail
    go_ret
    exact ⟨rfl, ((Below.refl _ _).alloc (Nat.le_refl _) _).trans (Drawn_below _ _)⟩
theorem rright_yes (a b : Int) (w : World) (h0 : 0 ≤ b) (h1 : b ≤ 32) (h2 : 0 ≤ a) (h3 : a ≤ 4294967295) :
    Calls Try.prog 42 #[.agg #[.int .i64 a, .int .i64 b]] w fun e w' => e = .returned (.bool (decide (a % 2 ^ (32 - b).toNat = 0))) ∧ Below w.heap.size w w' := by
  obtain ⟨s, hs⟩ : ∃ s : Int, s = 2 ^ (32 - b).toNat := ⟨_, rfl⟩
  obtain ⟨s1, s2⟩ : 1 ≤ s ∧ s ≤ 4294967296 := by rw [hs]; exact pow_bits b h0 h1
  obtain ⟨m, hm⟩ : ∃ m, m = a % s := ⟨_, rfl⟩
  have em : a.tmod s = m := by rw [hm, Int.tmod_eq_emod_of_nonneg h2]
  have s0 : ¬ s = 0 := by omega
  have t1 := decide_eq_true h0
  have t2 := decide_eq_true h1
  have t3 := decide_eq_true h2
  have t4 := decide_eq_true h3
  have hsz := fun W n => rsize_quiet hs h0 h1 W n
  have HSZ := Hid.mk_ hsz
  rw [← hs, ← hm]
  have m0 : 0 ≤ m := by rw [hm]; exact Int.emod_nonneg _ s0
  have m1 : m < s := by rw [hm]; exact Int.emod_lt_of_pos _ (by omega)
  have hw : IntKind.i64.wrap m = m := by rw [IntKind.wrap_i64]; omega
  clear hs hsz hm
  by_cases hz : m = 0
  · subst hz
    go_enter Try.func42, Try.ntmps42
    go_wp2_with fail
    go_big_quiet (first | (go_at_call 43; with_reducible exact HSZ.out _ _))
    go_wp2_with fail
    go_ret
    exact ⟨rfl, ((Below.refl _ _).alloc (Nat.le_refl _) _).trans (Drawn_below _ _)⟩
  · have t5 := decide_eq_false hz
    have t6 : (m == 0) = false := by simpa using hz
    go_enter Try.func42, Try.ntmps42
    go_wp2_with fail
    go_big_quiet (first | (go_at_call 43; with_reducible exact HSZ.out _ _))
    go_wp2_with fail
    go_ret
    exact ⟨by rw [t5]; rfl, ((Below.refl _ _).alloc (Nat.le_refl _) _).trans (Drawn_below _ _)⟩
theorem rright_any (a b : Int) (w : World) :
    Calls Try.prog 42 #[.agg #[.int .i64 a, .int .i64 b]] w fun e w' => e = .returned (.bool (rightB a b)) ∧ Below w.heap.size w w' := by
  by_cases h : 0 ≤ b ∧ b ≤ 32 ∧ 0 ≤ a ∧ a ≤ 4294967295
  · have e : rightB a b = decide (a % 2 ^ (32 - b).toNat = 0) := by
      unfold rightB; rw [decide_eq_decide]; exact ⟨fun x => x.2.2.2.2, fun x => ⟨h.1, h.2.1, h.2.2.1, h.2.2.2, x⟩⟩
    rw [e]
    exact rright_yes a b w h.1 h.2.1 h.2.2.1 h.2.2.2
  · have e : rightB a b = false := by
      unfold rightB; rw [decide_eq_false_iff_not]; exact fun x => h ⟨x.1, x.2.1, x.2.2.1, x.2.2.2.1⟩
    rw [e]
    exact rright_no a b w h
theorem rright_at {a b : Int} {r : Bool} (h : rightB a b = r) (w : World) :
    Calls Try.prog 42 #[.agg #[.int .i64 a, .int .i64 b]] w fun e w' => e = .returned (.bool r) ∧ Below w.heap.size w w' := h ▸ rright_any a b w
theorem rlabel_at {n : Int} {r : Bool} (h : decide (0 ≤ n ∧ n ≤ 65535) = r) (w : World) :
    Calls Try.prog 27 #[.int .i64 n] w fun e w' => e = .returned (.bool r) ∧ w = w' := h ▸ rlabel_any n w
end Go.Proofs.Ytphmmpdeehfhjaa
namespace Go.Proofs.Ytphmmpdeehfhjaa
open Go.RowKit
set_option linter.unusedVariables false
set_option linter.unusedSimpArgs false
/-- the row r is the second half of the one before it -/
def halfOf (p r : Row) : Bool := decide (0 < r.b) && (decide (p.b = r.b) && (decide (p.l = r.l) && decide (r.a / 2 ^ (32 - r.b).toNat % 2 = 1)))
def half? : Option Row → Row → Bool
  | none, _ => false
  | some p, r => halfOf p r
/-- rows are right from an address on, behind a row -/
def refRight : Option Row → Int → List Row → Bool
  | _, next, [] => decide (next = 4294967296)
  | p, next, r :: rs => if rowOk r = true then if r.a = next then if half? p r = true then false else refRight (some r) (r.a + 2 ^ (32 - r.b).toNat) rs else false else false
theorem half_bad {p r : Row} (hp : rowOk p = true) (hr : rowOk r = true) (h : r.a = p.a + 2 ^ (32 - p.b).toNat) : halfOf p r = true ↔ Bad p r := by
  obtain ⟨p1, p2⟩ := ok_right hp
  obtain ⟨r1, r2⟩ := ok_right hr
  have hp' : 0 ≤ p.b ∧ p.b ≤ 32 ∧ 0 ≤ p.a ∧ p.a ≤ 4294967295 ∧ p.a % 2 ^ (32 - p.b).toNat = 0 := of_decide_eq_true p1
  have hr' : 0 ≤ r.b ∧ r.b ≤ 32 ∧ 0 ≤ r.a ∧ r.a ≤ 4294967295 ∧ r.a % 2 ^ (32 - r.b).toNat = 0 := of_decide_eq_true r1
  unfold halfOf Bad
  simp only [Bool.and_eq_true, decide_eq_true_eq]
  have key : 0 < r.b → p.b = r.b → (r.a / 2 ^ (32 - r.b).toNat % 2 = 1 ↔ rightB p.a (r.b - 1) = true) := by
    intro h0 hb
    have e : (32 - (r.b - 1)).toNat = (32 - r.b).toNat + 1 := by omega
    unfold rightB
    rw [decide_eq_true_eq, e, Int.pow_succ]
    rw [hb] at h hp'
    obtain ⟨S, hS⟩ : ∃ S : Int, S = 2 ^ (32 - r.b).toNat := ⟨_, rfl⟩
    have hSp : 0 < S := hS ▸ pw_pos _
    rw [← hS] at h hp' hr' ⊢
    obtain ⟨q, hq⟩ := Int.dvd_of_emod_eq_zero hp'.2.2.2.2
    have e1 : r.a = S * (q + 1) := by rw [h, hq, Int.mul_add, Int.mul_one]
    have e2 : r.a / S = q + 1 := by rw [e1, Int.mul_ediv_cancel_left _ (by omega)]
    rw [e2]
    constructor
    · intro h1
      refine ⟨by omega, by omega, hp'.2.2.1, hp'.2.2.2.1, Int.emod_eq_zero_of_dvd ⟨q / 2, ?_⟩⟩
      have : q = 2 * (q / 2) := by omega
      rw [hq, Int.mul_assoc, ← this]
    · rintro ⟨_, _, _, _, h1⟩
      obtain ⟨z, hz⟩ := Int.dvd_of_emod_eq_zero h1
      rw [hq, Int.mul_assoc] at hz
      have := Int.eq_of_mul_eq_mul_left (by omega) hz
      omega
  constructor
  · rintro ⟨h0, h1, h2, h3⟩
    exact ⟨h2.symm, h1.symm, h0, (key h0 h1).1 h3⟩
  · rintro ⟨h0, h1, h2, h3⟩
    exact ⟨h2, h1.symm, h0.symm, (key h2 h1.symm).2 h3⟩
theorem refRight_iff : ∀ (L : List Row) (p : Option Row) (next : Int), (∀ q, p = some q → rowOk q = true ∧ next = q.a + 2 ^ (32 - q.b).toNat) →
    (refRight p next L = true ↔ Chain next L 4294967296 ∧ (∀ r ∈ L, rowOk r = true) ∧ NoHalf (p.toList ++ L))
  | [], p, next, hp => by
    cases p with
    | none => simp [refRight, Chain, NoHalf]
    | some q => simp [refRight, Chain, NoHalf]
  | r :: L, p, next, hp => by
    unfold refRight
    have hh : r.hi + 1 = r.a + 2 ^ (32 - r.b).toNat := by unfold Row.hi; omega
    by_cases hr : rowOk r = true
    · rw [if_pos hr]
      by_cases ha : r.a = next
      · rw [if_pos ha]
        have ih := refRight_iff L (some r) (r.a + 2 ^ (32 - r.b).toNat) (fun q e => by cases e; exact ⟨hr, rfl⟩)
        have hn : half? p r = true ↔ ∃ q, p = some q ∧ Bad q r := by
          cases p with
          | none => simp [half?]
          | some q =>
            obtain ⟨h1, h2⟩ := hp q rfl
            show halfOf q r = true ↔ _
            rw [half_bad h1 hr (by rw [ha, h2])]
            exact ⟨fun h => ⟨q, rfl, h⟩, fun ⟨_, e, h⟩ => by cases e; exact h⟩
        by_cases hb : half? p r = true
        · rw [if_pos hb]
          obtain ⟨q, rfl, hq⟩ := hn.1 hb
          constructor
          · intro h; simp at h
          · rintro ⟨_, _, h⟩; exact absurd hq h.1
        · rw [if_neg hb, ih]
          have hL : NoHalf (p.toList ++ r :: L) ↔ NoHalf (r :: L) := by
            cases p with
            | none => exact Iff.rfl
            | some q => exact ⟨fun h => h.2, fun h => ⟨fun hq => hb (hn.2 ⟨q, rfl, hq⟩), h⟩⟩
          rw [hL]
          constructor
          · rintro ⟨h1, h2, h3⟩
            exact ⟨⟨ha, by rw [hh]; exact h1⟩, fun x hx => by rcases List.mem_cons.1 hx with rfl | hx; exact hr; exact h2 x hx, h3⟩
          · rintro ⟨⟨_, h1⟩, h2, h3⟩
            exact ⟨by rw [← hh]; exact h1, fun x hx => h2 x (List.mem_cons_of_mem _ hx), h3⟩
      · rw [if_neg ha]
        exact ⟨fun h => by simp at h, fun h => absurd h.1.1 ha⟩
    · rw [if_neg hr]
      exact ⟨fun h => by simp at h, fun h => absurd (h.2.1 r (List.mem_cons_self ..)) hr⟩
theorem refRight_make (L : List Row) : refRight none 0 L = (MakeOf L).isSome := by
  have h1 := refRight_iff L none 0 (by simp)
  have h2 := make_iff L
  have h3 : (MakeOf L).isSome = true ↔ ∃ t, MakeOf L = some t := by
    cases MakeOf L with
    | none => simp
    | some t => simp
  have h4 : refRight none 0 L = true ↔ (MakeOf L).isSome = true := by
    rw [h1, h3, h2]
    exact Iff.rfl
  cases h5 : refRight none 0 L <;> cases h6 : (MakeOf L).isSome <;> simp [h5, h6] at h4 <;> rfl
end Go.Proofs.Ytphmmpdeehfhjaa
