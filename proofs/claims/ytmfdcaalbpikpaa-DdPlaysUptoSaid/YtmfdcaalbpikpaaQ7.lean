/- Points by their numbers; tables of what diagrams say. No program in sight. -/
import Derived.Test.YtmfdcaalbpikpaaQ6
namespace Go.Proofs.Ytmfdcaalbpikpaa
open Go.RowKit Go.Maps
set_option linter.unusedVariables false
set_option linter.unusedSimpArgs false
def pt : List Int → Int → List Int
  | [], _ => []
  | s :: S, n => n % s :: pt S (n / s)
def idx : List Int → List Int → Int
  | s :: S, c :: p => idx S p * s + c
  | _, _ => 0
def prodI : List Int → Int
  | [] => 1
  | s :: S => s * prodI S
section
variable {S : List Int} {M : Int} {N N' : List Nd} {f g : Int} {p : List Int}
theorem pt_length : ∀ (S : List Int) (n : Int), (pt S n).length = S.length
  | [], _ => rfl
  | s :: S, n => by simp [pt, pt_length S]
theorem pt_drop : ∀ (S : List Int) (n : Int) (k : Nat), k < S.length → ∃ m, (0 ≤ n → (∀ s ∈ S, 1 ≤ s) → 0 ≤ m) ∧ (pt S n).drop k = pt (S.drop k) m
  | [], _, _, h => by simp at h
  | s :: S, n, 0, _ => ⟨n, fun h _ => h, rfl⟩
  | s :: S, n, k + 1, h => by
    obtain ⟨m, h1, h2⟩ := pt_drop S (n / s) k (by simpa using h)
    refine ⟨m, fun hn hs => h1 (Int.ediv_nonneg hn (by have := hs s (by simp); omega)) (fun x hx => hs x (by simp [hx])), h2⟩
theorem pt_Pt : ∀ (S : List Int) (n : Int), (∀ s ∈ S, 1 ≤ s) → Pt S (pt S n)
  | [], _, _ => ⟨rfl, fun i hi => by simp at hi⟩
  | s :: S, n, h => by
    have ih := pt_Pt S (n / s) (fun x hx => h x (by simp [hx]))
    have hs := h s (by simp)
    refine ⟨by simp [pt, ih.len], fun i hi => ?_⟩
    cases i with
    | zero =>
      show 0 ≤ n % s ∧ n % s < s
      exact ⟨Int.emod_nonneg _ (by omega), Int.emod_lt_of_pos _ (by omega)⟩
    | succ i =>
      have := ih.each i (by simpa using hi)
      simpa [pt, List.getD] using this
theorem Pt.cons {s c : Int} (h : Pt (s :: S) (c :: p)) : (0 ≤ c ∧ c < s) ∧ Pt S p := by
  refine ⟨?_, ⟨by have := h.len; simpa using this, fun i hi => ?_⟩⟩
  · have := h.each 0 (by simp)
    simpa [List.getD] using this
  · have := h.each (i + 1) (by simpa using hi)
    simpa [List.getD] using this
theorem idx_range : ∀ (S p : List Int), (∀ s ∈ S, 1 ≤ s) → Pt S p → 0 ≤ idx S p ∧ idx S p < prodI S
  | [], [], _, _ => by simp [idx, prodI]
  | [], c :: p, _, h => by have := h.len; simp at this
  | s :: S, [], _, h => by have := h.len; simp at this
  | s :: S, c :: p, hs, h => by
    obtain ⟨h1, h2⟩ := h.cons
    obtain ⟨i1, i2⟩ := idx_range S p (fun x hx => hs x (by simp [hx])) h2
    have hs1 := hs s (by simp)
    unfold idx prodI
    have m1 := Int.mul_nonneg i1 (by omega : 0 ≤ s)
    have m2 : (idx S p + 1) * s ≤ prodI S * s := Int.mul_le_mul_of_nonneg_right (by omega) (by omega)
    rw [Int.add_mul, Int.one_mul] at m2
    rw [Int.mul_comm s]
    omega
theorem pt_idx : ∀ (S p : List Int), (∀ s ∈ S, 1 ≤ s) → Pt S p → pt S (idx S p) = p
  | [], [], _, _ => rfl
  | [], c :: p, _, h => by have := h.len; simp at this
  | s :: S, [], _, h => by have := h.len; simp at this
  | s :: S, c :: p, hs, h => by
    obtain ⟨h1, h2⟩ := h.cons
    have hs1 := hs s (by simp)
    have ih := pt_idx S p (fun x hx => hs x (by simp [hx])) h2
    unfold idx pt
    have e1 : (idx S p * s + c) % s = c := by
      rw [Int.add_comm, Int.add_mul_emod_self_right, Int.emod_eq_of_lt h1.1 h1.2]
    have e2 : (idx S p * s + c) / s = idx S p := by
      rw [Int.add_comm, Int.add_mul_ediv_right _ _ (by omega), Int.ediv_eq_zero_of_lt h1.1 h1.2, Int.zero_add]
    rw [e1, e2, ih]
/-- what a diagram says of all points -/
def tab (S : List Int) (N : List Nd) (f : Int) : List Bool := (List.range (prodI S).toNat).map fun n : Nat => den N (pt S (n : Int)) f
theorem tab_length : (tab S N f).length = (prodI S).toNat := by simp [tab]
theorem tab_get {n : Nat} (h : n < (prodI S).toNat) : (tab S N f)[n]'(by rw [tab_length]; exact h) = den N (pt S (n : Int)) f := by simp [tab]
theorem tab_ext (h : Good S M N) (hN : N <+: N') (hf : hasA N f = true) : tab S N' f = tab S N f := by
  unfold tab
  refine List.map_congr_left fun n _ => ?_
  exact den_ext h (pt_Pt S _ (fun s hs => (h.sz s hs).1)) hN hf
theorem tab_one (h : Good S M N) (hf : hasA N f = true) (hg : hasA N g = true) : tab S N f = tab S N g ↔ f = g := by
  constructor
  · intro e
    refine (one_if h hf hg).1 fun p hp => ?_
    have hs : ∀ s ∈ S, 1 ≤ s := fun s hs => (h.sz s hs).1
    have hr := idx_range S p hs hp
    have e1 := tab_get (S := S) (N := N) (f := f) (n := (idx S p).toNat) (by omega)
    have e2 := tab_get (S := S) (N := N) (f := g) (n := (idx S p).toNat) (by omega)
    rw [show (((idx S p).toNat : Nat) : Int) = idx S p by omega, pt_idx S p hs hp] at e1 e2
    rw [← e1, ← e2]
    congr 1
  · intro e; rw [e]
end
end Go.Proofs.Ytmfdcaalbpikpaa
