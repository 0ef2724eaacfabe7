/- Tries: plain laws. No program in sight. -/
import Derived.Test.YtphmmpdeehfhjaaTr
namespace Go.Proofs.Ytphmmpdeehfhjaa
set_option linter.unusedVariables false
set_option linter.unusedSimpArgs false
namespace Tr
theorem ht_join (l r : Tr) : (join l r).ht ≤ max l.ht r.ht + 1 := by
  cases l <;> cases r <;> simp only [join] <;> (try split) <;> simp [ht]
theorem ht_left (t : Tr) : t.left.ht ≤ t.ht - 1 := by cases t <;> simp [left, ht]; omega
theorem ht_right (t : Tr) : t.right.ht ≤ t.ht - 1 := by cases t <;> simp [right, ht]; omega
theorem ht_put (x v : Int) : ∀ (n d : Nat) (t : Tr) (m : Nat), t.ht ≤ m → n ≤ m → (put x v n d t).ht ≤ m
  | 0, d, t, m, _, _ => by simp [put, ht]
  | n + 1, d, t, m, h, hn => by
    obtain ⟨m, rfl⟩ : ∃ q, m = q + 1 := ⟨m - 1, by omega⟩
    have h1 := ht_left t
    have h2 := ht_right t
    rw [put]
    split
    · have h3 := ht_put x v n (d + 1) t.left m (by omega) (by omega)
      have := ht_join (put x v n (d + 1) t.left) t.right
      omega
    · have h3 := ht_put x v n (d + 1) t.right m (by omega) (by omega)
      have := ht_join t.left (put x v n (d + 1) t.right)
      omega
theorem labels_join (l r : Tr) : ∀ v, v ∈ (join l r).labels → v ∈ l.labels ∨ v ∈ r.labels := by
  intro v hv
  have h : v ∈ (node l r).labels ∨ v ∈ l.labels := by
    cases l <;> cases r <;> simp only [join] at hv <;> first | exact .inl hv | (split at hv; exact .inr hv; exact .inl hv)
  rcases h with h | h
  · simpa [labels] using h
  · exact .inl h
theorem labels_left (t : Tr) : ∀ v, v ∈ t.left.labels → v ∈ t.labels := by intro v; cases t <;> simp [left, labels]; exact fun h => .inl h
theorem labels_right (t : Tr) : ∀ v, v ∈ t.right.labels → v ∈ t.labels := by intro v; cases t <;> simp [right, labels]; exact fun h => .inr h
theorem labels_put (x v : Int) : ∀ (n d : Nat) (t : Tr) (y : Int), y ∈ (put x v n d t).labels → y = v ∨ y ∈ t.labels
  | 0, d, t, y, h => .inl (by simpa [put, labels] using h)
  | n + 1, d, t, y, h => by
    rw [put] at h
    split at h
    · rcases labels_join _ _ _ h with h | h
      · rcases labels_put x v n (d + 1) t.left y h with h | h
        · exact .inl h
        · exact .inr (labels_left t y h)
      · exact .inr (labels_right t y h)
    · rcases labels_join _ _ _ h with h | h
      · exact .inr (labels_left t y h)
      · rcases labels_put x v n (d + 1) t.right y h with h | h
        · exact .inl h
        · exact .inr (labels_right t y h)
theorem ht_map (m : Int → Int) (t : Tr) : (t.map m).ht = t.ht := by induction t <;> simp_all [map, ht]
theorem ht_tidy (t : Tr) : t.tidy.ht ≤ t.ht := by
  induction t with
  | leaf v => simp [tidy]
  | node l r ihl ihr => have := ht_join l.tidy r.tidy; simp only [tidy, ht]; omega
theorem labels_map (m : Int → Int) (t : Tr) : (t.map m).labels = t.labels.map m := by induction t <;> simp_all [map, labels]
theorem labels_tidy (t : Tr) : ∀ v, v ∈ t.tidy.labels → v ∈ t.labels := by
  induction t with
  | leaf v => simp [tidy]
  | node l r ihl ihr =>
    intro v hv
    simp only [tidy] at hv
    simp only [labels, List.mem_append]
    rcases labels_join _ _ _ hv with h | h
    · exact .inl (ihl v h)
    · exact .inr (ihr v h)
end Tr
end Go.Proofs.Ytphmmpdeehfhjaa
