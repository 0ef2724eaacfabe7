/- Arenas as plain lists of nodes: what is there, what is made, what a map of keys finds. No program in sight. -/
import Derived.Maps.OwnSet
import Derived.Maps.Views
namespace Go.Proofs.Ytmfdcaalbpikpaa
open Go.RowKit Go.Maps
set_option linter.unusedVariables false
set_option linter.unusedSimpArgs false
structure Nd where
  lv : Int
  ks : List Int
deriving DecidableEq
def hasA (N : List Nd) (f : Int) : Bool := decide (0 ≤ f ∧ f < (N.length : Int) + 2)
def lvl (n : Int) (N : List Nd) (f : Int) : Int := if h : 2 ≤ f ∧ f < (N.length : Int) + 2 then (N[(f - 2).toNat]'(by omega)).lv else n
def shapeA (S : List Int) (lv : Int) (l : Nat) : Bool := decide (0 ≤ lv ∧ lv < (S.length : Int) ∧ (l : Int) = S.getD lv.toNat 0)
def lowA (S : List Int) (N : List Nd) (lv k : Int) : Bool := hasA N k && decide (lv < lvl S.length N k)
def mayA (S : List Int) (N : List Nd) (lv : Int) (ks : List Int) : Bool := shapeA S lv ks.length && ks.all (lowA S N lv)
def oneA (ks : List Int) : Bool := ks.all (fun k => decide (k = ks.headD 0))
/-- the nodes behind it, the ref, the error -/
def makeA (S : List Int) (M : Int) (N : List Nd) (lv : Int) (ks : List Int) : List Nd × Int × Int :=
  if mayA S N lv ks = false then (N, 0, 1)
  else if oneA ks = true then (N, ks.headD 0, 0)
  else if (⟨lv, ks⟩ : Nd) ∈ N then (N, (N.idxOf ⟨lv, ks⟩ : Int) + 2, 0)
  else if M ≤ N.length then (N, 0, 2) else (N ++ [⟨lv, ks⟩], (N.length : Int) + 2, 0)
structure Sized (S : List Int) (M : Int) : Prop where
  s1 : 1 ≤ S.length
  s2 : S.length ≤ 12
  sz : ∀ x ∈ S, 1 ≤ x ∧ x ≤ 256
  m0 : 0 ≤ M
  m1 : M ≤ 8192
/-- the nodes of an arena: each leads downwards to what is there, none to one alone, none twice -/
structure Good (S : List Int) (M : Int) (N : List Nd) : Prop extends Sized S M where
  len : (N.length : Int) ≤ M
  each : ∀ i (h : i < N.length), mayA S (N.take i) (N[i]'h).lv (N[i]'h).ks = true ∧ oneA (N[i]'h).ks = false
  nodup : N.Nodup
section
variable {S : List Int} {M : Int} {N : List Nd}
theorem lvl_le (n : Int) (N : List Nd) (f : Int) (h : ∀ nd ∈ N, nd.lv ≤ n) : lvl n N f ≤ n := by
  unfold lvl
  split
  · exact h _ (List.getElem_mem _)
  · exact Int.le_refl _
theorem Sized.at_ (h : Sized S M) (i : Nat) (hi : i < S.length) : 1 ≤ S[i]'hi ∧ S[i]'hi ≤ 256 := h.sz _ (List.getElem_mem hi)
theorem shape_iff {lv : Int} {l : Nat} : shapeA S lv l = true ↔ 0 ≤ lv ∧ lv < (S.length : Int) ∧ (l : Int) = S.getD lv.toNat 0 := decide_eq_true_iff
theorem may_shape {lv : Int} {ks : List Int} (h : mayA S N lv ks = true) : 0 ≤ lv ∧ lv < (S.length : Int) ∧ (ks.length : Int) = S.getD lv.toNat 0 := shape_iff.1 (Bool.and_eq_true_iff.1 h).1
theorem may_low {lv : Int} {ks : List Int} (h : mayA S N lv ks = true) {k : Int} (hk : k ∈ ks) : (0 ≤ k ∧ k < (N.length : Int) + 2) ∧ lv < lvl S.length N k := by
  have h1 := List.all_eq_true.1 (Bool.and_eq_true_iff.1 h).2 k hk
  obtain ⟨h2, h3⟩ := Bool.and_eq_true_iff.1 h1
  exact ⟨of_decide_eq_true h2, of_decide_eq_true h3⟩
theorem getD_mem {l : List Int} {i : Nat} (h : i < l.length) : l.getD i 0 = l[i]'h := by simp [List.getD, h]
theorem may_len (hS : Sized S M) {lv : Int} {ks : List Int} (h : mayA S N lv ks = true) : 1 ≤ ks.length ∧ ks.length ≤ 256 := by
  obtain ⟨h0, h1, h2⟩ := may_shape h
  rw [getD_mem (i := lv.toNat) (by omega)] at h2
  have := hS.at_ lv.toNat (by omega)
  omega
theorem Good.lt (h : Good S M N) (i : Nat) (hi : i < N.length) : 0 ≤ (N[i]'hi).lv ∧ (N[i]'hi).lv < (S.length : Int) := ⟨(may_shape (h.each i hi).1).1, (may_shape (h.each i hi).1).2.1⟩
theorem Good.len2 (h : Good S M N) : N.length ≤ 8192 := by have := h.len; have := h.m1; omega
theorem Good.kids (h : Good S M N) (i : Nat) (hi : i < N.length) : 1 ≤ (N[i]'hi).ks.length ∧ (N[i]'hi).ks.length ≤ 256 := may_len h.toSized (h.each i hi).1
theorem lvl_take {i : Nat} {n k : Int} (hk : k < (i : Int) + 2) (hi : i ≤ N.length) : lvl n (N.take i) k = lvl n N k := by
  unfold lvl
  have : (N.take i).length = i := by rw [List.length_take]; omega
  by_cases h : 2 ≤ k
  · rw [dif_pos ⟨h, by omega⟩, dif_pos ⟨h, by omega⟩, List.getElem_take]
  · rw [dif_neg (by omega), dif_neg (by omega)]
theorem lvl_append {nd : Nd} {n k : Int} (hk : k < (N.length : Int) + 2) : lvl n (N ++ [nd]) k = lvl n N k := by
  have := lvl_take (N := N ++ [nd]) (i := N.length) (n := n) hk (by simp)
  rw [← this, List.take_left]
theorem Good.low (h : Good S M N) (i : Nat) (hi : i < N.length) {k : Int} (hk : k ∈ (N[i]'hi).ks) : 0 ≤ k ∧ k < (i : Int) + 2 ∧ (N[i]'hi).lv < lvl S.length N k := by
  obtain ⟨⟨h1, h2⟩, h3⟩ := may_low (h.each i hi).1 hk
  rw [List.length_take] at h2
  have h4 : k < (i : Int) + 2 := by omega
  rw [lvl_take h4 (by omega)] at h3
  exact ⟨h1, h4, h3⟩
theorem Good.take (h : Good S M N) (n : Nat) : Good S M (N.take n) where
  toSized := h.toSized
  len := by have := h.len; rw [List.length_take]; omega
  each := fun i hi => by
    have hl : i < N.length := by rw [List.length_take] at hi; omega
    rw [List.getElem_take, List.take_take, Nat.min_eq_left (by rw [List.length_take] at hi; omega)]
    exact h.each i hl
  nodup := h.nodup.sublist (List.take_sublist n N)
theorem Good.nil (h : Sized S M) : Good S M [] := ⟨h, by have := h.m0; simpa using this, fun i hi => absurd hi (by simp), List.nodup_nil⟩
theorem Good.snoc (h : Good S M N) {lv : Int} {ks : List Int} (h1 : mayA S N lv ks = true) (h2 : oneA ks = false) (h3 : (⟨lv, ks⟩ : Nd) ∉ N) (h4 : (N.length : Int) < M) : Good S M (N ++ [⟨lv, ks⟩]) where
  toSized := h.toSized
  len := by rw [List.length_append, List.length_singleton]; omega
  each := fun i hi => by
    by_cases hl : i < N.length
    · rw [List.getElem_append_left hl, List.take_append_of_le_length (by omega)]
      exact h.each i hl
    · have e : i = N.length := by rw [List.length_append, List.length_singleton] at hi; omega
      subst e
      rw [List.getElem_append_right (Nat.le_refl _), List.take_left]
      simp only [Nat.sub_self, List.getElem_cons_zero]
      exact ⟨h1, h2⟩
  nodup := List.nodup_append.2 ⟨h.nodup, by simp, fun x hx y hy e => by simp at hy; subst hy e; exact h3 hx⟩
theorem make_good (h : Good S M N) (lv : Int) (ks : List Int) : Good S M (makeA S M N lv ks).1 := by
  unfold makeA
  split
  · exact h
  · rename_i h1
    split
    · exact h
    · rename_i h2
      split
      · exact h
      · rename_i h3
        split
        · exact h
        · exact h.snoc (by simpa using h1) (by simpa using h2) h3 (by omega)
end
/-! keys -/
def u8 (x : Int) : UInt8 := UInt8.ofNat (x % 256).toNat
def kidB (k : Int) : List UInt8 := [u8 (k / 256), u8 k]
def keyB (nd : Nd) : List UInt8 := u8 nd.lv :: nd.ks.flatMap kidB
def keyL (nd : Nd) : Lit := .string (keyB nd)
theorem u8_toNat (x : Int) : ((u8 x).toNat : Int) = x % 256 := by
  unfold u8
  rw [UInt8.toNat_ofNat']
  omega
theorem u8_inj {x y : Int} (h : u8 x = u8 y) : x % 256 = y % 256 := by rw [← u8_toNat, ← u8_toNat, h]
def kidOk (k : Int) : Prop := 0 ≤ k ∧ k < 65536
theorem kidB_inj {k l : Int} (h1 : kidOk k) (h2 : kidOk l) (a : u8 (k / 256) = u8 (l / 256)) (b : u8 k = u8 l) : k = l := by
  have a1 := u8_inj a
  have b1 := u8_inj b
  unfold kidOk at *
  omega
theorem kids_inj : ∀ {a b : List Int}, (∀ k ∈ a, kidOk k) → (∀ k ∈ b, kidOk k) → a.flatMap kidB = b.flatMap kidB → a = b
  | [], [], _, _, _ => rfl
  | [], y :: b, _, _, h => by simp [kidB] at h
  | x :: a, [], _, _, h => by simp [kidB] at h
  | x :: a, y :: b, ha, hb, h => by
    simp only [List.flatMap_cons, kidB, List.cons_append, List.nil_append, List.cons.injEq] at h
    rw [kidB_inj (ha x (by simp)) (hb y (by simp)) h.1 h.2.1, kids_inj (fun k hk => ha k (by simp [hk])) (fun k hk => hb k (by simp [hk])) h.2.2]
structure KeyOk (nd : Nd) : Prop where
  l0 : 0 ≤ nd.lv
  l1 : nd.lv < 256
  k : ∀ k ∈ nd.ks, kidOk k
theorem key_inj {a b : Nd} (ha : KeyOk a) (hb : KeyOk b) (h : keyL a = keyL b) : a = b := by
  unfold keyL keyB at h
  simp only [Lit.string.injEq, List.cons.injEq] at h
  have h1 := u8_inj h.1
  have h2 := kids_inj ha.k hb.k h.2
  obtain ⟨l, k⟩ := a
  obtain ⟨l', k'⟩ := b
  have := ha.l0
  have := ha.l1
  have := hb.l0
  have := hb.l1
  simp only at *
  subst h2
  congr 1
  omega
theorem Good.key {S : List Int} {M : Int} {N : List Nd} (h : Good S M N) (i : Nat) (hi : i < N.length) : KeyOk (N[i]'hi) where
  l0 := (h.lt i hi).1
  l1 := by have := (h.lt i hi).2; have := h.s2; omega
  k := fun k hk => by have := h.low i hi hk; have := h.len2; unfold kidOk; omega
theorem may_key {S : List Int} {M : Int} {N : List Nd} (h : Good S M N) {lv : Int} {ks : List Int} (hm : mayA S N lv ks = true) : KeyOk ⟨lv, ks⟩ where
  l0 := (may_shape hm).1
  l1 := by have := (may_shape hm).2.1; have := h.s2; show lv < 256; omega
  k := fun k hk => by have := may_low hm hk; have := h.len2; unfold kidOk; omega
theorem keyL_isKey (nd : Nd) : WideAt.IsKeyLit (keyL nd) := trivial
/-- the map finds just the nodes that are there, but those from n on, j of them -/
structure FoundD (D : DataW Unit) (N : List Nd) (n j : Nat) : Prop where
  tidy : Tidy D
  at_ : ∀ i (h : i < N.length), (i < n ∨ n + j ≤ i) → has D (keyL (N[i]'h)) = true ∧ ∀ z, D.atKey (keyL (N[i]'h)) z = .lit (.int .i64 ((i : Int) + 2))
  only : ∀ nd, KeyOk nd → has D (keyL nd) = true → ∃ i, ∃ h : i < N.length, (i < n ∨ n + j ≤ i) ∧ N[i]'h = nd
  size : size D + j ≤ N.length
def Found (D : DataW Unit) (N : List Nd) : Prop := FoundD D N N.length 0
section
variable {D : DataW Unit} {S : List Int} {M : Int} {N : List Nd} {n j : Nat}
theorem FoundD.next (h : FoundD D N n j) (hg : Good S M N) (hj : n + j < N.length) : FoundD (D.del (keyL (N[n + j]'hj))) N n (j + 1) := by
  have hk := hg.key (n + j) hj
  refine ⟨h.tidy.del _, fun i hi hij => ?_, fun nd hnd hh => ?_, ?_⟩
  · have hne : keyL (N[i]'hi) ≠ keyL (N[n + j]'hj) := fun e => by
      have e2 := key_inj (hg.key i hi) hk e
      have := (List.getElem_inj hg.nodup).1 e2
      omega
    obtain ⟨h1, h2⟩ := h.at_ i hi (by omega)
    exact ⟨by rw [has_del_other hne]; exact h1, fun z => by rw [atKey_del_other hne]; exact h2 z⟩
  · by_cases e : keyL nd = keyL (N[n + j]'hj)
    · rw [e, has_del_same] at hh; cases hh
    · rw [has_del_other e] at hh
      obtain ⟨i, hi, hij, rfl⟩ := h.only nd hnd hh
      refine ⟨i, hi, ?_, rfl⟩
      have : i ≠ n + j := fun e2 => e (by subst e2; rfl)
      omega
  · have h1 := size_del h.tidy (k := keyL (N[n + j]'hj))
    rw [if_pos (h.at_ (n + j) hj (.inr (by omega))).1] at h1
    have := h.size
    omega
theorem Found.start (h : Found D N) (n : Nat) : FoundD D N n 0 := ⟨h.tidy, fun i hi _ => h.at_ i hi (.inl hi), fun nd hnd hh => by
  obtain ⟨i, hi, _, e⟩ := h.only nd hnd hh
  exact ⟨i, hi, by omega, e⟩, h.size⟩
theorem FoundD.done (h : FoundD D N n j) (hj : n + j = N.length) : Found D (N.take n) := by
  have hl : (N.take n).length = n := by rw [List.length_take]; omega
  refine ⟨h.tidy, fun i hi hij => ?_, fun nd hnd hh => ?_, ?_⟩
  · rw [hl] at hi
    rw [List.getElem_take]
    exact h.at_ i (by omega) (.inl hi)
  · obtain ⟨i, hi, hij, e⟩ := h.only nd hnd hh
    exact ⟨i, by omega, by omega, by rw [List.getElem_take]; exact e⟩
  · have := h.size; omega
theorem Found.has_iff (h : Found D N) {nd : Nd} (hk : KeyOk nd) : has D (keyL nd) = decide (nd ∈ N) := by
  cases hh : has D (keyL nd) with
  | true =>
    obtain ⟨i, hi, _, rfl⟩ := h.only nd hk hh
    exact (decide_eq_true (List.getElem_mem hi)).symm
  | false =>
    refine (decide_eq_false fun hm => ?_).symm
    obtain ⟨i, hi, rfl⟩ := List.getElem_of_mem hm
    rw [(h.at_ i hi (.inl hi)).1] at hh
    cases hh
theorem Found.at_mem (h : Found D N) {nd : Nd} (hm : nd ∈ N) (z : DataW Unit) : D.atKey (keyL nd) z = .lit (.int .i64 ((N.idxOf nd : Int) + 2)) := by
  have hi := List.idxOf_lt_length_of_mem hm
  have h1 := (h.at_ _ hi (.inl hi)).2 z
  rw [List.getElem_idxOf] at h1
  exact h1
theorem Found.put (h : Found D N) (hg : Good S M N) {nd : Nd} (hk : KeyOk nd) (hn : nd ∉ N) : Found (D.put (keyL nd) (.lit (.int .i64 ((N.length : Int) + 2)))) (N ++ [nd]) := by
  have hl : (N ++ [nd]).length = N.length + 1 := by simp
  have hnew : has D (keyL nd) = false := by rw [h.has_iff hk, decide_eq_false hn]
  refine ⟨h.tidy.put (keyL_isKey nd) _, fun i hi hij => ?_, fun nd' hnd hh => ?_, ?_⟩
  · by_cases hil : i < N.length
    · rw [List.getElem_append_left hil]
      have hne : keyL (N[i]'hil) ≠ keyL nd := fun e => hn (by rw [← key_inj (hg.key i hil) hk e]; exact List.getElem_mem hil)
      obtain ⟨h1, h2⟩ := h.at_ i hil (.inl hil)
      exact ⟨by rw [has_put_other hne]; exact h1, fun z => by rw [atKey_put_other hne]; exact h2 z⟩
    · have e : i = N.length := by omega
      subst e
      rw [List.getElem_append_right (Nat.le_refl _)]
      simp only [Nat.sub_self, List.getElem_cons_zero]
      exact ⟨has_put_same h.tidy.isMap (keyL_isKey nd) _, fun z => atKey_put_same h.tidy.isMap (keyL_isKey nd) _ z⟩
  · by_cases e : keyL nd' = keyL nd
    · have := key_inj hnd hk e
      subst this
      exact ⟨N.length, by omega, by omega, by rw [List.getElem_append_right (Nat.le_refl _)]; simp⟩
    · rw [has_put_other e] at hh
      obtain ⟨i, hi, _, e2⟩ := h.only nd' hnd hh
      exact ⟨i, by omega, by omega, by rw [List.getElem_append_left hi]; exact e2⟩
  · have h1 := size_put h.tidy (k := keyL nd) (.lit (.int .i64 ((N.length : Int) + 2)))
    rw [hnew] at h1
    have := h.size
    simp only [Bool.false_eq_true, if_false] at h1
    omega
theorem Found.none : Found (.map []) [] := ⟨tidy_empty, fun i hi => absurd hi (by simp), fun nd _ h => by simp [has] at h, by simp [Maps.size]⟩
end
end Go.Proofs.Ytmfdcaalbpikpaa
