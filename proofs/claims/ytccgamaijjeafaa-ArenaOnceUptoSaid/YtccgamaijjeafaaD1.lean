/- A new arena of the document's. -/
import Derived.Test.YtccgamaijjeafaaC9
import Derived.Deep.RegionLaw
namespace Go.Proofs.Ytccgamaijjeafaa
open Go.RowKit Go.WideMaps Go.Maps
set_option linter.unusedVariables false
set_option linter.unusedSimpArgs false
theorem Try.info36 : (Try.prog.info? 36).map (fun i => (i.zero, i.size, i.bytes)) = some (some (.slice none 0 0), 1, 24) := by kernel_rfl
/-- the new arena's box, its first k sizes and levels -/
structure Newing (w w' : World) (b : Nat) (S : List Int) (M : Int) (k : Nat) (sv lv : Value) : Prop where
  blk : Blk w' b [sv, .int .i64 M, .slice none 0 0, lv] 63
  s : Row w' 3 1 sv k ((S.take k).map (Value.int .i64))
  l : Row w' 22 1 lv k (List.replicate k (.slice none 0 0))
  fs : ∀ j, sv.ownBlock = some j → w.heap.size ≤ j
  fl : ∀ j, lv.ownBlock = some j → w.heap.size ≤ j
  fb : w.heap.size ≤ b
  below : Below w.heap.size w w'
section
variable {w w' w1 w2 : World} {A : Option Addr} {c b k : Nat} {S : List Int} {M : Int} {sv lv : Value}
theorem Newing.done (h : Newing w w' b S M S.length sv lv) (hS : Sized S M) : ∃ z, RAt w' b S M [] z ∧ ∀ k ∈ z, w.heap.size ≤ k := by
  have hs := h.s
  rw [List.take_length] at hs
  obtain ⟨gs, cs, rfl, hgs, hcs⟩ := hs.some_ (by have := hS.s1; omega)
  have hr : ∀ i (hi : i < (List.replicate S.length (Value.slice none 0 0)).length), (List.replicate S.length (Value.slice none 0 0))[i]'hi = .slice none 0 0 := fun i hi => by simp
  refine ⟨rz b (.slice none 0 0) lv (List.replicate S.length (.slice none 0 0)) [gs], ⟨[], .slice none 0 0, .slice (some ⟨gs, 0, none⟩) S.length cs, lv, List.replicate S.length (.slice none 0 0), [gs], ⟨h.blk, ?_, Row.nil _ _ _, fun p hp => absurd hp (by simp), h.l, ?_, ?_, Good.nil hS, ?_⟩, rfl, rfl⟩, ?_⟩
  · exact Row.kid hs (by have := hS.s2; omega) (by simp)
  · intro i hi
    rw [hr i hi]
    have e : refs (nds []) (i : Int) = [] := rfl
    rw [e]
    exact Row.nil _ _ _
  · intro i j hi hj hne k hk
    rw [hr i hi] at hk
    simp [Value.ownBlock] at hk
  · intro k hk
    simp at hk
    subst hk
    refine ⟨fun e => ?_, by simp [Value.ownBlock], fun e => ?_, fun v hv e => ?_, hgs⟩
    · subst e; exact row_blk hs h.blk (by decide) rfl
    · exact row_type hs h.l (by decide) (k := k) rfl e
    · rw [List.eq_of_mem_replicate hv] at e; simp [Value.ownBlock] at e
  · intro k hk
    rcases mem_rz.1 hk with e | e | e | ⟨v, hv, e⟩ | e
    · subst e; exact h.fb
    · simp [Value.ownBlock] at e
    · exact h.fl k e
    · rw [List.eq_of_mem_replicate hv] at e; simp [Value.ownBlock] at e
    · simp at e; subst e; exact h.fs _ rfl
theorem Newing.step (h : Newing w w' b S M k sv lv) (hk : k < S.length) {sv' lv' : Value} {g c g2 c2 : Nat}
    (h1 : Row w1 3 1 sv' (k + 1) ((S.take k).map (Value.int .i64) ++ [.int .i64 (S[k]'hk)])) (e1 : sv' = .slice (some ⟨g, 0, none⟩) (k + 1) c) (m1 : Mods (fun j => sv.ownBlock = some j) w' w1) (l1 : sv.ownBlock = some g ∨ w'.heap.size ≤ g)
    (h2 : Row w2 22 1 lv' (k + 1) (List.replicate k (.slice none 0 0) ++ [.slice none 0 0])) (e2 : lv' = .slice (some ⟨g2, 0, none⟩) (k + 1) c2) (m2 : Mods (fun j => lv.ownBlock = some j) (w1.setCell ⟨b, 0, none⟩ sv') w2) (l2 : lv.ownBlock = some g2 ∨ w1.heap.size ≤ g2) :
    Newing w (w2.setCell ⟨b, 3, none⟩ lv') b S M (k + 1) sv' lv' := by
  have nb := row_blk h.s h.blk (by decide)
  have lb := row_blk h.l h.blk (by decide)
  have hbl := h.blk.lt
  have s1 := m1.size
  have s0 := h.below.size
  have ss : (w1.setCell ⟨b, 0, none⟩ sv').heap.size = w1.heap.size := by simp [World.setCell]
  have s2 := m2.size
  rw [ss] at s2
  have sl := fun j (hj : sv.ownBlock = some j) => h.s.lt j hj
  have ll := fun j (hj : lv.ownBlock = some j) => h.l.lt j hj
  have gb : g ≠ b := fun e => by rcases l1 with e3 | e3; exact nb (by rw [e3, e]); omega
  have g2b : g2 ≠ b := fun e => by rcases l2 with e3 | e3; exact lb (by rw [e3, e]); omega
  have hg1 : g < w1.heap.size := h1.lt g (by rw [e1]; rfl)
  have glv : lv.ownBlock ≠ some g := fun e => by rcases l1 with e3 | e3; exact row_type h.s h.l (by decide) e3 e; have := ll g e; omega
  refine ⟨?_, ?_, ?_, ?_, ?_, h.fb, ?_⟩
  · have b1 := (h.blk.mods m1 (fun e => nb e)).set 0 sv'
    exact (b1.mods m2 (fun e => lb e)).set 3 lv'
  · rw [List.take_succ_eq_append_getElem hk, List.map_append]
    refine Row.move h1 fun j hj => ?_
    rw [e1] at hj
    cases hj
    rw [Below.heap_setCell _ _ _ _ gb, m2.block g (by omega) (fun e => glv e), Below.heap_setCell _ _ _ _ gb]
  · rw [List.replicate_succ']
    refine Row.move h2 fun j hj => ?_
    rw [e2] at hj
    cases hj
    exact Below.heap_setCell _ _ _ _ g2b
  · intro j hj
    rw [e1] at hj
    have e3 : g = j := Option.some.inj hj
    rcases l1 with e | e
    · exact e3 ▸ h.fs g e
    · have := Nat.le_trans s0 e; omega
  · intro j hj
    rw [e2] at hj
    have e3 : g2 = j := Option.some.inj hj
    rcases l2 with e | e
    · exact e3 ▸ h.fl g2 e
    · have := Nat.le_trans (Nat.le_trans s0 s1) e; omega
  · have t1 : Mods (fun j => w.heap.size ≤ j) w w' := Mods.of_below h.below
    have t2 := t1.trans m1 (fun j _ e => h.fs j e)
    have t3 := t2.setCell (p := ⟨b, 0, none⟩) (fun _ => h.fb) sv'
    have t4 := t3.trans m2 (fun j _ e => h.fl j e)
    have t5 := t4.setCell (p := ⟨b, 3, none⟩) (fun _ => h.fb) lv'
    exact t5.below (Nat.le_refl _) (fun j _ e => e)
theorem rnew_bad1 (hl : S.length ≤ 9223372036854775807) (hbad : ¬ (1 ≤ S.length ∧ S.length ≤ 12 ∧ 0 ≤ M ∧ M ≤ 8192)) : Calls Try.prog 7 #[.slice A S.length c, .int .i64 M] w fun e w' => e = .returned (.tuple #[.pointer none, .int .i64 1]) ∧ Below w.heap.size w w' := by
  by_cases h1 : S.length < 1
  · have h1' : (S.length : Int) < 1 := by omega
    clear hbad
    go_enter Try.func7, Try.ntmps7
    go_wp2_with fail
    go_ret2
    exact ⟨rfl, Below.refl _ _⟩
  · have h1' : ¬ (S.length : Int) < 1 := by omega
    by_cases h2 : 12 < S.length
    · have h2' : (12 : Int) < S.length := by omega
      clear hbad
      go_enter Try.func7, Try.ntmps7
      go_wp2_with fail
      go_ret2
      exact ⟨rfl, Below.refl _ _⟩
    · have h2' : ¬ (12 : Int) < S.length := by omega
      by_cases h3 : M < 0
      · clear hbad
        go_enter Try.func7, Try.ntmps7
        go_wp2_with fail
        go_ret2
        exact ⟨rfl, Below.refl _ _⟩
      · have h4 : 8192 < M := by
          apply Int.not_le.1
          intro h
          exact hbad ⟨by omega, by omega, by omega, h⟩
        clear hbad
        go_enter Try.func7, Try.ntmps7
        go_wp2_with fail
        go_ret2
        exact ⟨rfl, Below.refl _ _⟩
end
end Go.Proofs.Ytccgamaijjeafaa
