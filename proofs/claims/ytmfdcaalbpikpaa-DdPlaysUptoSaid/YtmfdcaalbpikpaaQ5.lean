/- The map of pairs: its keys, what it is known to hold. -/
import Derived.Test.YtmfdcaalbpikpaaQ4
import Derived.Test.YtmfdcaalbpikpaaProg
import Derived.Maps.Own
import Derived.DeepKeys4
namespace Go.Proofs.Ytmfdcaalbpikpaa
open Go.RowKit Go.Maps
set_option linter.unusedVariables false
set_option linter.unusedSimpArgs false
theorem Try.laidOut : laidOutB Try.prog = true := by kernel_rfl
theorem Try.row114 : (114 : TypeId) < Try.prog.types.size := of_decide_eq_true (by kernel_rfl)
theorem Try.wide114 : (match Try.prog.underlying 114 with | some (.array _ _) | some (.struct _) => true | _ => false) = true := by rw [Try.underlying114]
set_option maxRecDepth 100000 in
theorem law114 : Keyed Try.prog 114 := Keyed.of_law (deep_law_laid Try.laidOut (m := 2) (by omega) Try.row114 (by kernel_rfl) Try.wide114)
def pk (f g : Int) : Lit := .string (keyBytes [.int .i64 f, .int .i64 g])
def pv (f g : Int) : Value := .agg #[.int .i64 f, .int .i64 g]
theorem wf64 {f : Int} (h : 0 ≤ f ∧ f < 1000000) : (Lit.int .i64 f).wf = true := by
  have h1 : IntKind.i64.min = -9223372036854775808 := by decide +kernel
  have h2 : IntKind.i64.max = 9223372036854775807 := by decide +kernel
  simp [Lit.wf, h1, h2]
  omega
theorem cell3 : Try.prog.cellsOf 3 = 1 := by kernel_rfl
theorem cell114 : Try.prog.cellsOf 114 = 2 := by kernel_rfl
theorem keyType114 : Try.prog.keyType 114 = true := by kernel_rfl
theorem keyOf_pv {f g : Int} (hf : 0 ≤ f ∧ f < 1000000) (hg : 0 ≤ g ∧ g < 1000000) : keyOf Try.prog 114 (pv f g) = some (pk f g) := by
  have e1 := wf64 hf
  have e2 := wf64 hg
  have k3 : ∀ d x, (Lit.int .i64 x).wf = true → Try.prog.keyLits (d + 1) 3 [.int .i64 x] = some [.int .i64 x] := fun d x hx => by
    unfold Program.keyLits
    rw [Try.underlying3]
    simp [hx]
  unfold keyOf
  rw [Try.underlying114]
  simp only [keyType114]
  unfold pv
  have ef : Value.formed Try.prog 114 (.agg #[.int .i64 f, .int .i64 g]) = true := by
    unfold Value.formed
    rw [Try.underlying114]
    simp [cell114]
  rw [ef]
  have ht : Try.prog.types.size + 1 = (Try.prog.types.size - 1) + 1 + 1 := by
    have := Try.row114
    have : (114 : Nat) < Try.prog.types.size := this
    omega
  rw [ht]
  unfold Program.keyLits
  rw [Try.underlying114]
  simp [cell114, cell3, k3 _ _ e1, k3 _ _ e2, Value.cells, pk]
theorem pk_inj {f g f' g' : Int} (hf : 0 ≤ f ∧ f < 1000000) (hg : 0 ≤ g ∧ g < 1000000) (hf' : 0 ≤ f' ∧ f' < 1000000) (hg' : 0 ≤ g' ∧ g' < 1000000) (h : pk f g = pk f' g') : f = f' ∧ g = g' := by
  have := law114.inj (keyOf_pv hf hg) (by rw [h]; exact keyOf_pv hf' hg')
  unfold pv at this
  simp at this
  exact this
theorem nodup_le {α : Type} [DecidableEq α] : ∀ (l U : List α), l.Nodup → (∀ x ∈ l, x ∈ U) → l.length ≤ U.length
  | [], _, _, _ => Nat.zero_le _
  | x :: l, U, hn, hm => by
    have hx : x ∈ U := hm x (by simp)
    have h1 := List.nodup_cons.1 hn
    have ih := nodup_le l (U.erase x) h1.2 fun y hy => (List.mem_erase_of_ne (fun e => h1.1 (by rw [← e]; exact hy))).2 (hm y (by simp [hy]))
    rw [List.length_erase_of_mem hx] at ih
    have := List.length_pos_of_mem hx
    rw [List.length_cons]
    omega
theorem pk_isKey (f g : Int) : WideAt.IsKeyLit (pk f g) := trivial
structure KnowsK (D : DataW Unit) (N : List Nd) (P : Int → Int → Int → Prop) (K : List (Int × Int)) : Prop where
  tidy : Tidy D
  nodup : K.Nodup
  size : Maps.size D ≤ K.length
  dom : ∀ p ∈ K, has D (pk p.1 p.2) = true ∧ hasA N p.1 = true ∧ hasA N p.2 = true
  only : ∀ k, has D k = true → ∃ f g x, (f, g) ∈ K ∧ k = pk f g ∧ (∀ z, D.atKey k z = .lit (.int .i64 x)) ∧ P f g x
def Knows (D : DataW Unit) (N : List Nd) (P : Int → Int → Int → Prop) : Prop := ∃ K, KnowsK D N P K
section
variable {D : DataW Unit} {S : List Int} {M : Int} {N N' : List Nd} {P P' : Int → Int → Int → Prop} {f g x : Int}
theorem small (h : Good S M N) (hf : hasA N f = true) : 0 ≤ f ∧ f < 8194 := by
  have := has_iff.1 hf
  have := h.len2
  omega
theorem Knows.none : Knows (.map []) N P := ⟨[], tidy_empty, List.nodup_nil, Nat.le_refl _, fun p hp => by simp at hp, fun k h => by simp [has] at h⟩
theorem Knows.tidy (h : Knows D N P) : Tidy D := by obtain ⟨K, h⟩ := h; exact h.tidy
theorem Knows.at_ (h : Knows D N P) (hG : Good S M N) (hf : hasA N f = true) (hg : hasA N g = true) (hh : has D (pk f g) = true) : ∃ x, (∀ z, D.atKey (pk f g) z = .lit (.int .i64 x)) ∧ P f g x := by
  obtain ⟨K, h⟩ := h
  obtain ⟨f', g', x, a1, a3, a4, a5⟩ := h.only _ hh
  have a2 := h.dom _ a1
  have b1 := small hG hf
  have b2 := small hG hg
  have b3 := small hG a2.2.1
  have b4 := small hG a2.2.2
  obtain ⟨rfl, rfl⟩ := pk_inj (by omega) (by omega) (by omega) (by omega) a3
  exact ⟨x, a4, a5⟩
theorem Knows.mono (h : Knows D N P) (hp : N <+: N') (hP : ∀ f g x, hasA N f = true → hasA N g = true → P f g x → P' f g x) : Knows D N' P' := by
  obtain ⟨K, h⟩ := h
  refine ⟨K, h.tidy, h.nodup, h.size, fun p hm => ?_, fun k hh => ?_⟩
  · have := h.dom p hm
    exact ⟨this.1, has_pre hp this.2.1, has_pre hp this.2.2⟩
  · obtain ⟨f', g', x, a1, a3, a4, a5⟩ := h.only _ hh
    have := h.dom _ a1
    exact ⟨f', g', x, a1, a3, a4, hP _ _ _ this.2.1 this.2.2 a5⟩
theorem Knows.put (h : Knows D N P) (hG : Good S M N) (hf : hasA N f = true) (hg : hasA N g = true) (hx : P f g x) : Knows (D.put (pk f g) (.lit (.int .i64 x))) N P := by
  obtain ⟨K, h⟩ := h
  have hsz := size_put h.tidy (k := pk f g) (.lit (.int .i64 x))
  have honly : ∀ K' : List (Int × Int), (∀ q ∈ K, q ∈ K') → (f, g) ∈ K' → ∀ k, has (D.put (pk f g) (.lit (.int .i64 x))) k = true → ∃ f' g' x', (f', g') ∈ K' ∧ k = pk f' g' ∧ (∀ z, (D.put (pk f g) (.lit (.int .i64 x))).atKey k z = .lit (.int .i64 x')) ∧ P f' g' x' := fun K' hK hm k hh => by
    by_cases e : k = pk f g
    · exact ⟨f, g, x, hm, e, fun z => by rw [e]; exact atKey_put_same h.tidy.isMap (pk_isKey f g) _ z, hx⟩
    · rw [has_put_other e] at hh
      obtain ⟨f', g', x', a1, a3, a4, a5⟩ := h.only _ hh
      exact ⟨f', g', x', hK _ a1, a3, fun z => by rw [atKey_put_other e]; exact a4 z, a5⟩
  have hdom : ∀ p ∈ K, has (D.put (pk f g) (.lit (.int .i64 x))) (pk p.1 p.2) = true ∧ hasA N p.1 = true ∧ hasA N p.2 = true := fun p hp => by
    have := h.dom p hp
    refine ⟨?_, this.2⟩
    by_cases e : pk p.1 p.2 = pk f g
    · rw [e]; exact has_put_same h.tidy.isMap (pk_isKey f g) _
    · rw [has_put_other e]; exact this.1
  by_cases hh : has D (pk f g) = true
  · rw [if_pos hh] at hsz
    obtain ⟨f', g', x', a1, a3, a4, a5⟩ := h.only _ hh
    have a2 := h.dom _ a1
    have b1 := small hG hf
    have b2 := small hG hg
    have b3 := small hG a2.2.1
    have b4 := small hG a2.2.2
    obtain ⟨rfl, rfl⟩ := pk_inj (by omega) (by omega) (by omega) (by omega) a3
    exact ⟨K, h.tidy.put (pk_isKey f g) _, h.nodup, by rw [hsz]; exact h.size, hdom, honly K (fun _ h => h) a1⟩
  · rw [if_neg hh] at hsz
    refine ⟨(f, g) :: K, h.tidy.put (pk_isKey f g) _, List.nodup_cons.2 ⟨fun hm => hh (h.dom _ hm).1, h.nodup⟩, by rw [hsz, List.length_cons]; have := h.size; omega, fun p hp => ?_, honly _ (fun _ h => by simp [h]) (by simp)⟩
    rcases List.mem_cons.1 hp with rfl | hp
    · exact ⟨has_put_same h.tidy.isMap (pk_isKey f g) _, hf, hg⟩
    · exact hdom p hp
theorem Knows.size (h : Knows D N P) (hG : Good S M N) : Maps.size D ≤ 67141636 := by
  obtain ⟨K, h⟩ := h
  have := nodup_le K ((List.range 67141636).map fun i : Nat => (((i / 8194 : Nat) : Int), ((i % 8194 : Nat) : Int))) h.nodup fun p hp => by
    have a := h.dom p hp
    have b1 := small hG a.2.1
    have b2 := small hG a.2.2
    refine List.mem_map.2 ⟨p.1.toNat * 8194 + p.2.toNat, List.mem_range.2 (by omega), ?_⟩
    have e1 : (((p.1.toNat * 8194 + p.2.toNat) / 8194 : Nat) : Int) = p.1 := by omega
    have e2 : (((p.1.toNat * 8194 + p.2.toNat) % 8194 : Nat) : Int) = p.2 := by omega
    rw [e1, e2]
  rw [List.length_map, List.length_range] at this
  exact Nat.le_trans h.size this
end
end Go.Proofs.Ytmfdcaalbpikpaa
