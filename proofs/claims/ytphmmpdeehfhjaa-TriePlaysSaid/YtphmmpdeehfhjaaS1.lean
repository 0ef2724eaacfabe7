/- The plain law of the trie: what TrieSame says. No program in sight. -/
import Derived.Test.YtphmmpdeehfhjaaL8
namespace Go.Proofs.Ytphmmpdeehfhjaa
open Tr
set_option linter.unusedVariables false
set_option linter.unusedSimpArgs false
theorem lastI_const {n v : Int} : ∀ (L : List Row) (d : Int), (∀ r ∈ L, r.a ≤ n → n ≤ r.hi → r.l = v) → (d = v ∨ ∃ r ∈ L, r.a ≤ n ∧ n ≤ r.hi) → lastI L d n = v
  | [], d, _, h => by
    rcases h with h | ⟨r, hr, _⟩
    · exact h
    · simp at hr
  | r :: L, d, hc, h => by
    show lastI L (if r.a ≤ n ∧ n ≤ r.hi then r.l else d) n = v
    refine lastI_const L _ (fun q hq => hc q (List.mem_cons_of_mem _ hq)) ?_
    by_cases hr : r.a ≤ n ∧ n ≤ r.hi
    · rw [if_pos hr]; exact .inl (hc r (List.mem_cons_self ..) hr.1 hr.2)
    · rw [if_neg hr]
      rcases h with h | ⟨q, hq, hq2⟩
      · exact .inl h
      · rcases List.mem_cons.1 hq with rfl | hq
        · exact absurd hq2 hr
        · exact .inr ⟨q, hq, hq2⟩
theorem Chain.cover : ∀ {a e : Int} {L : List Row}, Chain a L e → ∀ n, a ≤ n → n < e → ∃ r ∈ L, r.a ≤ n ∧ n ≤ r.hi
  | _, _, [], h, n, h0, h1 => by cases h; omega
  | _, _, r :: L, ⟨h1, h⟩, n, h2, h3 => by
    by_cases hn : n ≤ r.hi
    · exact ⟨r, List.mem_cons_self .., by omega, hn⟩
    · obtain ⟨q, hq, hq2⟩ := Chain.cover h n (by omega) h3
      exact ⟨q, List.mem_cons_of_mem _ hq, hq2⟩
/-- A trie that says of each address what t says, is t. -/
theorem puts_rows {t : Tr} (hh : t.ht ≤ 32) (hc : t.canon) (L : List Row) (hL : ∀ r, r ∈ L ↔ r ∈ t.all 0 0) : L.foldl putRow (.leaf 0) = t := by
  obtain ⟨hch, hri⟩ := all_rows t 0 0 Spot.root hh
  have hok : ∀ r ∈ L, rightB r.a r.b = true := fun r hr => (hri r ((hL r).1 hr)).1
  refine uniq_canon _ _ 0 0 Spot.root (ht_puts _ _ hok (by simp [Tr.ht])) hh (canon_puts _ _ trivial) hc (fun n n0 n1 => ?_)
  have n2 : n ≤ 4294967295 := by simp at n1; omega
  rw [find_puts n n0 n2 _ _ hok]
  obtain ⟨r, hr, hr1, hr2⟩ := hch.cover n n0 (by simpa using n1)
  exact lastI_const L _ (fun q hq q1 q2 => ((hri q ((hL q).1 hq)).2.2.2.2.2.2.2 n q1 q2).symm) (.inr ⟨r, (hL r).2 hr, hr1, hr2⟩)
theorem mk_all : ∀ (L : List Row) (t : Tr), (∀ r ∈ L, rowOk r = true) → mk t L = some (L.foldl putRow t)
  | [], _, _ => rfl
  | r :: L, t, h => by
    rw [mk, if_pos (h r (List.mem_cons_self ..)), mk_all L _ (fun q hq => h q (List.mem_cons_of_mem _ hq))]
    rfl
theorem rows_ok {t : Tr} (hh : t.ht ≤ 32) (hl : ∀ v ∈ t.labels, 0 ≤ v ∧ v ≤ 65535) : ∀ r ∈ t.all 0 0, rowOk r = true := by
  intro r hr
  obtain ⟨_, hri⟩ := all_rows t 0 0 Spot.root hh
  have h := hri r hr
  simp only [rowOk, h.1, Bool.true_and, decide_eq_true_eq]
  exact hl _ h.2.2.2.2.2.1
theorem make_all {t : Tr} (hh : t.ht ≤ 32) (hc : t.canon) (hl : ∀ v ∈ t.labels, 0 ≤ v ∧ v ≤ 65535) : MakeOf (t.all 0 0) = some t := by
  unfold MakeOf
  rw [mk_all _ _ (rows_ok hh hl), puts_rows hh hc _ (fun _ => Iff.rfl), Option.bind_some, if_pos rfl]
theorem labels_puts : ∀ (L : List Row) (t : Tr), (∀ r ∈ L, rowOk r = true) → (∀ v ∈ t.labels, 0 ≤ v ∧ v ≤ 65535) → ∀ v ∈ (L.foldl putRow t).labels, 0 ≤ v ∧ v ≤ 65535
  | [], _, _, h => h
  | r :: L, t, ho, h => labels_puts L _ (fun q hq => ho q (List.mem_cons_of_mem _ hq)) (fun v hv => by
    rcases labels_put _ _ _ _ _ _ hv with rfl | hv
    · have := ho r (List.mem_cons_self ..)
      simp [rowOk] at this
      exact this.2
    · exact h v hv)
theorem tidy_canon : ∀ {t : Tr}, t.canon → t.tidy = t
  | .leaf _, _ => rfl
  | .node l r, ⟨hl, hr, h⟩ => by
    rw [tidy, tidy_canon hl, tidy_canon hr]
    cases l <;> cases r <;> simp only [join]
    rename_i a b
    rw [if_neg (fun e => h a ⟨rfl, by rw [e]⟩)]
theorem canon_map (f : Int → Int) : ∀ {t : Tr}, (∀ x ∈ t.labels, ∀ y ∈ t.labels, f x = f y → x = y) → t.canon → (t.map f).canon
  | .leaf _, _, _ => trivial
  | .node l r, hf, ⟨hl, hr, h⟩ => by
    refine ⟨canon_map f (fun x hx y hy => hf x (by simp [labels, hx]) y (by simp [labels, hy])) hl, canon_map f (fun x hx y hy => hf x (by simp [labels, hx]) y (by simp [labels, hy])) hr, fun v ⟨h1, h2⟩ => ?_⟩
    cases l with
    | node _ _ => simp [Tr.map] at h1
    | leaf a =>
      cases r with
      | node _ _ => simp [Tr.map] at h2
      | leaf b =>
        simp only [Tr.map, Tr.leaf.injEq] at h1 h2
        exact h a ⟨rfl, by rw [hf b (by simp [labels]) a (by simp [labels]) (by rw [h1, h2])]⟩
theorem map_map_id (f g : Int → Int) : ∀ {t : Tr}, (∀ x ∈ t.labels, g (f x) = x) → (t.map f).map g = t
  | .leaf v, h => by simp only [Tr.map]; rw [h v (by simp [labels])]
  | .node l r, h => by
    simp only [Tr.map]
    rw [map_map_id f g (fun x hx => h x (by simp [labels, hx])), map_map_id f g (fun x hx => h x (by simp [labels, hx]))]
/-- there and back -/
theorem map_back {t : Tr} (hc : t.canon) (f g : Int → Int) (h : ∀ x ∈ t.labels, g (f x) = x) : (((t.map f).tidy).map g).tidy = t := by
  rw [tidy_canon (canon_map f (fun x hx y hy e => by rw [← h x hx, e, h y hy]) hc), map_map_id f g h, tidy_canon hc]
end Go.Proofs.Ytphmmpdeehfhjaa
