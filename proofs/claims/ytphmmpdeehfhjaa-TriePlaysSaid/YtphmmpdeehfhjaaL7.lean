/- The plain law of the trie: no two rows of one label are halves of one; one trie alone has what is found. No program in sight. -/
import Derived.Test.YtphmmpdeehfhjaaL6
namespace Go.Proofs.Ytphmmpdeehfhjaa
open Tr
set_option linter.unusedVariables false
set_option linter.unusedSimpArgs false
theorem canon_join {l r : Tr} (hl : l.canon) (hr : r.canon) : (join l r).canon := by
  cases l <;> cases r <;> simp only [join]
  · rename_i a b
    by_cases h : a = b
    · rw [if_pos h]; trivial
    · rw [if_neg h]; exact ⟨trivial, trivial, fun v ⟨h1, h2⟩ => h (by cases h1; cases h2; rfl)⟩
  · exact ⟨hl, hr, fun v ⟨_, h2⟩ => by cases h2⟩
  · exact ⟨hl, hr, fun v ⟨h1, _⟩ => by cases h1⟩
  · exact ⟨hl, hr, fun v ⟨h1, _⟩ => by cases h1⟩
theorem canon_left {t : Tr} (h : t.canon) : t.left.canon := by cases t; exact h; exact h.1
theorem canon_right {t : Tr} (h : t.canon) : t.right.canon := by cases t; exact h; exact h.2.1
theorem canon_put (x v : Int) : ∀ (k d : Nat) (t : Tr), t.canon → (put x v k d t).canon
  | 0, _, _, _ => trivial
  | k + 1, d, t, h => by
    unfold put
    split
    · exact canon_join (canon_put x v k (d + 1) _ (canon_left h)) (canon_right h)
    · exact canon_join (canon_left h) (canon_put x v k (d + 1) _ (canon_right h))
theorem canon_puts : ∀ (L : List Row) (t : Tr), t.canon → (L.foldl putRow t).canon
  | [], _, h => h
  | r :: L, t, h => canon_puts L _ (canon_put _ _ _ _ _ h)
/-! the halves -/
def Bad (p r : Row) : Prop := r.l = p.l ∧ r.b = p.b ∧ 0 < r.b ∧ rightB p.a (r.b - 1) = true
def NoHalf : List Row → Prop
  | [] => True
  | [_] => True
  | p :: r :: rs => ¬ Bad p r ∧ NoHalf (r :: rs)
theorem NoHalf.append : ∀ {l m : List Row}, NoHalf l → NoHalf m → (∀ p r, l.getLast? = some p → m.head? = some r → ¬ Bad p r) → NoHalf (l ++ m)
  | [], m, _, hm, _ => hm
  | [p], [], _, _, _ => trivial
  | [p], r :: m, _, hm, h => ⟨h p r rfl rfl, hm⟩
  | p :: q :: l, m, hl, hm, h => ⟨hl.1, NoHalf.append (l := q :: l) hl.2 hm (fun a b ha hb => h a b (by simpa using ha) hb)⟩
theorem NoHalf.at : ∀ {L : List Row}, NoHalf L → ∀ (i : Nat) (h : i + 1 < L.length), ¬ Bad (L[i]'(by omega)) (L[i + 1]'h)
  | [], _, i, h => by simp at h
  | [_], _, i, h => by simp at h
  | p :: r :: rs, hn, 0, h => hn.1
  | p :: r :: rs, hn, i + 1, h => NoHalf.at (L := r :: rs) hn.2 i (by simpa using h)
theorem Chain.last : ∀ {a e : Int} {l : List Row} {p : Row}, Chain a l e → l.getLast? = some p → p.hi + 1 = e
  | _, _, [], _, _, h => by simp at h
  | _, _, [r], p, ⟨_, h⟩, h2 => by simp at h2; subst h2; exact h
  | _, _, r :: q :: l, p, ⟨_, h⟩, h2 => Chain.last (l := q :: l) h (by simpa using h2)
theorem Chain.head : ∀ {a e : Int} {l : List Row} {p : Row}, Chain a l e → l.head? = some p → p.a = a
  | _, _, [], _, _, h => by simp at h
  | _, _, r :: l, p, ⟨h, _⟩, h2 => by simp at h2; subst h2; exact h
theorem no_half : ∀ (t : Tr) (a : Int) (d : Nat), Spot a d → t.ht + d ≤ 32 → t.canon → NoHalf (t.all a d)
  | .leaf v, a, d, h, ht, hc => trivial
  | .node l r, a, d, h, ht, hc => by
    have hd : d ≤ 31 := by simp [Tr.ht] at ht; omega
    have hl : l.ht + (d + 1) ≤ 32 := by simp [Tr.ht] at ht; omega
    have hr : r.ht + (d + 1) ≤ 32 := by simp [Tr.ht] at ht; omega
    have e3 : 32 - (d + 1) = 31 - d := by omega
    obtain ⟨s1, s2, q, hq⟩ := h.halves hd
    obtain ⟨c1, i1⟩ := all_rows l a (d + 1) s1 hl
    obtain ⟨c2, i2⟩ := all_rows r (a + 2 ^ (31 - d)) (d + 1) s2 hr
    refine NoHalf.append (no_half l a (d + 1) s1 hl hc.1) (no_half r _ (d + 1) s2 hr hc.2.1) ?_
    rintro p x hp hx ⟨hb1, hb2, hb3, hb4⟩
    obtain ⟨k0, k1, k2, k3, k4, k5, k6, k7⟩ := i1 p (List.mem_of_getLast? hp)
    obtain ⟨j0, j1, j2, j3, j4, j5, j6, j7⟩ := i2 x (List.mem_of_head? hx)
    by_cases he : p.b = ((d + 1 : Nat) : Int)
    · exact hc.2.2 p.l ⟨k6 he, by rw [← hb1]; exact j6 (by rw [hb2]; exact he)⟩
    · have el := c1.last hp
      rw [e3] at el
      have hh : 0 ≤ x.b - 1 ∧ x.b - 1 ≤ 32 ∧ 0 ≤ p.a ∧ p.a ≤ 4294967295 ∧ p.a % 2 ^ (32 - (x.b - 1)).toNat = 0 := of_decide_eq_true hb4
      have hh2 : 0 ≤ p.b ∧ p.b ≤ 32 ∧ _ := of_decide_eq_true k0
      obtain ⟨_, g1, _, _, g⟩ := hh
      have es : (32 - (x.b - 1)).toNat = (32 - p.b).toNat + 1 := by omega
      rw [es, Int.pow_succ] at g
      unfold Row.hi at el
      obtain ⟨S, hS⟩ : ∃ S : Int, S = 2 ^ (32 - p.b).toNat := ⟨_, rfl⟩
      have hSp : 0 < S := hS ▸ pw_pos _
      have eP : 31 - d = (32 - p.b).toNat + 1 + (p.b.toNat - (d + 2)) := by omega
      have hP : (2 : Int) ^ (31 - d) = S * 2 * 2 ^ (p.b.toNat - (d + 2)) := by rw [eP, pw_split, Int.pow_succ, hS]
      rw [← hS] at g el
      rw [hP] at el hq
      obtain ⟨N, hN⟩ := Int.dvd_of_emod_eq_zero g
      obtain ⟨z, hz⟩ : ∃ z : Int, z = 2 ^ (p.b.toNat - (d + 2)) := ⟨_, rfl⟩
      rw [← hz] at el hq
      have hK : S * 2 * (q * 2 * z + z - N) = S := by
        have e1 : q * (2 * (S * 2 * z)) = S * 2 * (q * 2 * z) := by ac_rfl
        rw [e1] at hq
        rw [Int.mul_sub, Int.mul_add, ← hq, ← hN]
        omega
      obtain ⟨K, hKK⟩ : ∃ K : Int, K = q * 2 * z + z - N := ⟨_, rfl⟩
      rw [← hKK] at hK
      by_cases h0 : K ≤ 0
      · have := Int.mul_nonpos_of_nonneg_of_nonpos (show 0 ≤ S * 2 by omega) h0
        omega
      · have := Int.mul_le_mul_of_nonneg_left (show 1 ≤ K by omega) (show 0 ≤ S * 2 by omega)
        omega
/-! one trie alone -/
theorem const_canon : ∀ (t : Tr) (a : Int) (d : Nat) (v : Int), Spot a d → t.ht + d ≤ 32 → t.canon → (∀ n, a ≤ n → n < a + 2 ^ (32 - d) → find n t d = v) → t = .leaf v
  | .leaf w, a, d, v, h, ht, hc, hf => by
    have := hf a (Int.le_refl _) (by have := pw_pos (32 - d); omega)
    rw [← this]; rfl
  | .node l r, a, d, v, h, ht, hc, hf => by
    have hd : d ≤ 31 := by simp [Tr.ht] at ht; omega
    have hl : l.ht + (d + 1) ≤ 32 := by simp [Tr.ht] at ht; omega
    have hr : r.ht + (d + 1) ≤ 32 := by simp [Tr.ht] at ht; omega
    have e3 : 32 - (d + 1) = 31 - d := by omega
    have p0 := pw_pos (31 - d)
    have p1 := pw_half hd
    obtain ⟨s1, s2, _⟩ := h.halves hd
    have h1 := const_canon l a (d + 1) v s1 hl hc.1 (fun n n0 n1 => by
      rw [e3] at n1
      rw [← hf n n0 (by omega), find, if_pos (h.bit_l hd n0 n1)])
    have h2 := const_canon r _ (d + 1) v s2 hr hc.2.1 (fun n n0 n1 => by
      rw [e3] at n1
      rw [← hf n (by omega) (by omega), find, if_neg (by rw [h.bit_r hd n0 (by omega)]; decide)])
    exact absurd ⟨h1, h2⟩ (hc.2.2 v)
theorem uniq_canon : ∀ (t u : Tr) (a : Int) (d : Nat), Spot a d → t.ht + d ≤ 32 → u.ht + d ≤ 32 → t.canon → u.canon → (∀ n, a ≤ n → n < a + 2 ^ (32 - d) → find n t d = find n u d) → t = u
  | .leaf v, u, a, d, h, ht, hu, hc, hd, hf => (const_canon u a d v h hu hd (fun n n0 n1 => (hf n n0 n1).symm)).symm
  | t, .leaf v, a, d, h, ht, hu, hc, hd, hf => const_canon t a d v h ht hc (fun n n0 n1 => hf n n0 n1)
  | .node l r, .node l' r', a, d, h, ht, hu, hc, hcu, hf => by
    have hd : d ≤ 31 := by simp [Tr.ht] at ht; omega
    have hl : l.ht + (d + 1) ≤ 32 := by simp [Tr.ht] at ht; omega
    have hr : r.ht + (d + 1) ≤ 32 := by simp [Tr.ht] at ht; omega
    have hl' : l'.ht + (d + 1) ≤ 32 := by simp [Tr.ht] at hu; omega
    have hr' : r'.ht + (d + 1) ≤ 32 := by simp [Tr.ht] at hu; omega
    have e3 : 32 - (d + 1) = 31 - d := by omega
    have p0 := pw_pos (31 - d)
    have p1 := pw_half hd
    obtain ⟨s1, s2, _⟩ := h.halves hd
    have h1 := uniq_canon l l' a (d + 1) s1 hl hl' hc.1 hcu.1 (fun n n0 n1 => by
      rw [e3] at n1
      have := hf n n0 (by omega)
      rwa [find, if_pos (h.bit_l hd n0 n1), find, if_pos (h.bit_l hd n0 n1)] at this)
    have h2 := uniq_canon r r' _ (d + 1) s2 hr hr' hc.2.1 hcu.2.1 (fun n n0 n1 => by
      rw [e3] at n1
      have hb : ¬ bit n d = 0 := by rw [h.bit_r hd n0 (by omega)]; decide
      have := hf n (by omega) (by omega)
      rwa [find, if_neg hb, find, if_neg hb] at this)
    rw [h1, h2]
end Go.Proofs.Ytphmmpdeehfhjaa
