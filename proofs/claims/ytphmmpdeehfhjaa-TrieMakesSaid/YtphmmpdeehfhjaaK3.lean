/- The document's own right rows: the plain law and the walk. -/
import Derived.Test.YtphmmpdeehfhjaaK2
namespace Go.Proofs.Ytphmmpdeehfhjaa
open Go.RowKit
set_option linter.unusedVariables false
set_option linter.unusedSimpArgs false
/-- the row r is the second half of the one before it -/
def halfOf (p r : Row) : Bool := decide (0 < r.b) && (decide (p.b = r.b) && (decide (p.l = r.l) && decide (r.a / 2 ^ (32 - r.b).toNat % 2 = 1)))
def half? : Option Row → Row → Bool
  | none, _ => false
  | some p, r => halfOf p r
/-- rows are right from an address on, behind a row -/
def refRight : Option Row → Int → List Row → Bool
  | _, next, [] => decide (next = 4294967296)
  | p, next, r :: rs => if rowOk r = true then if r.a = next then if half? p r = true then false else refRight (some r) (r.a + 2 ^ (32 - r.b).toNat) rs else false else false
theorem half_bad {p r : Row} (hp : rowOk p = true) (hr : rowOk r = true) (h : r.a = p.a + 2 ^ (32 - p.b).toNat) : halfOf p r = true ↔ Bad p r := by
  obtain ⟨p1, p2⟩ := ok_right hp
  obtain ⟨r1, r2⟩ := ok_right hr
  have hp' : 0 ≤ p.b ∧ p.b ≤ 32 ∧ 0 ≤ p.a ∧ p.a ≤ 4294967295 ∧ p.a % 2 ^ (32 - p.b).toNat = 0 := of_decide_eq_true p1
  have hr' : 0 ≤ r.b ∧ r.b ≤ 32 ∧ 0 ≤ r.a ∧ r.a ≤ 4294967295 ∧ r.a % 2 ^ (32 - r.b).toNat = 0 := of_decide_eq_true r1
  unfold halfOf Bad
  simp only [Bool.and_eq_true, decide_eq_true_eq]
  have key : 0 < r.b → p.b = r.b → (r.a / 2 ^ (32 - r.b).toNat % 2 = 1 ↔ rightB p.a (r.b - 1) = true) := by
    intro h0 hb
    have e : (32 - (r.b - 1)).toNat = (32 - r.b).toNat + 1 := by omega
    unfold rightB
    rw [decide_eq_true_eq, e, Int.pow_succ]
    rw [hb] at h hp'
    obtain ⟨S, hS⟩ : ∃ S : Int, S = 2 ^ (32 - r.b).toNat := ⟨_, rfl⟩
    have hSp : 0 < S := hS ▸ pw_pos _
    rw [← hS] at h hp' hr' ⊢
    obtain ⟨q, hq⟩ := Int.dvd_of_emod_eq_zero hp'.2.2.2.2
    have e1 : r.a = S * (q + 1) := by rw [h, hq, Int.mul_add, Int.mul_one]
    have e2 : r.a / S = q + 1 := by rw [e1, Int.mul_ediv_cancel_left _ (by omega)]
    rw [e2]
    constructor
    · intro h1
      refine ⟨by omega, by omega, hp'.2.2.1, hp'.2.2.2.1, Int.emod_eq_zero_of_dvd ⟨q / 2, ?_⟩⟩
      have : q = 2 * (q / 2) := by omega
      rw [hq, Int.mul_assoc, ← this]
    · rintro ⟨_, _, _, _, h1⟩
      obtain ⟨z, hz⟩ := Int.dvd_of_emod_eq_zero h1
      rw [hq, Int.mul_assoc] at hz
      have := Int.eq_of_mul_eq_mul_left (by omega) hz
      omega
  constructor
  · rintro ⟨h0, h1, h2, h3⟩
    exact ⟨h2.symm, h1.symm, h0, (key h0 h1).1 h3⟩
  · rintro ⟨h0, h1, h2, h3⟩
    exact ⟨h2, h1.symm, h0.symm, (key h2 h1.symm).2 h3⟩
theorem refRight_iff : ∀ (L : List Row) (p : Option Row) (next : Int), (∀ q, p = some q → rowOk q = true ∧ next = q.a + 2 ^ (32 - q.b).toNat) →
    (refRight p next L = true ↔ Chain next L 4294967296 ∧ (∀ r ∈ L, rowOk r = true) ∧ NoHalf (p.toList ++ L))
  | [], p, next, hp => by
    cases p with
    | none => simp [refRight, Chain, NoHalf]
    | some q => simp [refRight, Chain, NoHalf]
  | r :: L, p, next, hp => by
    unfold refRight
    have hh : r.hi + 1 = r.a + 2 ^ (32 - r.b).toNat := by unfold Row.hi; omega
    by_cases hr : rowOk r = true
    · rw [if_pos hr]
      by_cases ha : r.a = next
      · rw [if_pos ha]
        have ih := refRight_iff L (some r) (r.a + 2 ^ (32 - r.b).toNat) (fun q e => by cases e; exact ⟨hr, rfl⟩)
        have hn : half? p r = true ↔ ∃ q, p = some q ∧ Bad q r := by
          cases p with
          | none => simp [half?]
          | some q =>
            obtain ⟨h1, h2⟩ := hp q rfl
            show halfOf q r = true ↔ _
            rw [half_bad h1 hr (by rw [ha, h2])]
            exact ⟨fun h => ⟨q, rfl, h⟩, fun ⟨_, e, h⟩ => by cases e; exact h⟩
        by_cases hb : half? p r = true
        · rw [if_pos hb]
          obtain ⟨q, rfl, hq⟩ := hn.1 hb
          constructor
          · intro h; simp at h
          · rintro ⟨_, _, h⟩; exact absurd hq h.1
        · rw [if_neg hb, ih]
          have hL : NoHalf (p.toList ++ r :: L) ↔ NoHalf (r :: L) := by
            cases p with
            | none => exact Iff.rfl
            | some q => exact ⟨fun h => h.2, fun h => ⟨fun hq => hb (hn.2 ⟨q, rfl, hq⟩), h⟩⟩
          rw [hL]
          constructor
          · rintro ⟨h1, h2, h3⟩
            exact ⟨⟨ha, by rw [hh]; exact h1⟩, fun x hx => by rcases List.mem_cons.1 hx with rfl | hx; exact hr; exact h2 x hx, h3⟩
          · rintro ⟨⟨_, h1⟩, h2, h3⟩
            exact ⟨by rw [← hh]; exact h1, fun x hx => h2 x (List.mem_cons_of_mem _ hx), h3⟩
      · rw [if_neg ha]
        exact ⟨fun h => by simp at h, fun h => absurd h.1.1 ha⟩
    · rw [if_neg hr]
      exact ⟨fun h => by simp at h, fun h => absurd (h.2.1 r (List.mem_cons_self ..)) hr⟩
theorem refRight_make (L : List Row) : refRight none 0 L = (MakeOf L).isSome := by
  have h1 := refRight_iff L none 0 (by simp)
  have h2 := make_iff L
  have h3 : (MakeOf L).isSome = true ↔ ∃ t, MakeOf L = some t := by
    cases MakeOf L with
    | none => simp
    | some t => simp
  have h4 : refRight none 0 L = true ↔ (MakeOf L).isSome = true := by
    rw [h1, h3, h2]
    exact Iff.rfl
  cases h5 : refRight none 0 L <;> cases h6 : (MakeOf L).isSome <;> simp [h5, h6] at h4 <;> rfl
end Go.Proofs.Ytphmmpdeehfhjaa
