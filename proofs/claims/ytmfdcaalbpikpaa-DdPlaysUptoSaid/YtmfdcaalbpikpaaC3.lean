/- The document's Make: its walk. -/
import Derived.Test.YtmfdcaalbpikpaaC2
import Derived.Deep.RegionLaw
namespace Go.Proofs.Ytmfdcaalbpikpaa
open Go.RowKit Go.WideMaps Go.Maps
set_option linter.unusedVariables false
set_option linter.unusedSimpArgs false
section
variable {w w' : World} {b : Nat} {S : List Int} {M : Int} {L : List (Nd × Value)} {nv sv lv : Value} {rows : List Value} {cz : List Nat} {ks : List Int} {A : Option Addr} {c : Nat}
def RMakePost (w : World) (b : Nat) (S : List Int) (M : Int) (N : List Nd) (z : List Nat) (l : Int) (ks : List Int) (e : Ending) (w' : World) : Prop :=
  e = .returned (.tuple #[.int .i64 (makeA S M N l ks).2.1, .int .i64 (makeA S M N l ks).2.2]) ∧ RGrew w w' b S M (makeA S M N l ks).1 z
set_option maxRecDepth 100000 in
theorem rmake_err (h : RA w b S M L nv sv lv rows cz) (l : Int) (hA : IntsIn w A ks) (hsh : shapeA S l ks.length = false) :
    Calls Try.prog 18 #[.pointer (some ⟨b, 0, none⟩), .int .i64 l, .slice A ks.length c] w (RMakePost w b S M (nds L) (rz b nv lv rows cz) l ks) := by
  have e : makeA S M (nds L) l ks = (nds L, 0, 1) := by unfold makeA; rw [if_pos (may_noshape hsh)]
  have HE := Hid.mk_ e
  have HH := Hid.mk_ h
  have k0 := h.c0
  obtain ⟨gs, cs, rfl, hcs, hgz, hgs, hsl, hsc⟩ := h.s
  obtain ⟨n, hn⟩ : ∃ n, n = ks.length := ⟨_, rfl⟩
  have hn0 : n ≤ 9223372036854775807 := by rw [hn]; exact hA.1
  rw [← hn] at hsh ⊢
  by_cases h0 : 0 ≤ l
  · by_cases h1 : l < S.length
    · obtain ⟨i, rfl⟩ : ∃ i : Nat, l = (i : Int) := ⟨l.toNat, by omega⟩
      have hi : i < S.length := by omega
      have hx := hsc i hi
      obtain ⟨x, hxe⟩ : ∃ x, x = S[i]'hi := ⟨_, rfl⟩
      rw [← hxe] at hx
      have hs2 : ¬ (n : Int) = x := fun h => by
        unfold shapeA at hsh
        rw [Int.toNat_natCast, getD_mem hi, ← hxe, decide_eq_true ⟨h0, h1, h⟩] at hsh
        cases hsh
      have d2 : ((n : Int) != x) = true := by simpa using hs2
      have d2' : ((n : Int) == x) = false := by simpa using hs2
      have d3 : decide ((n : Int) = x) = false := decide_eq_false hs2
      have d1n : ¬ S.length ≤ i := by omega
      clear hsh hxe hsc e h hn hA hs2
      go_enter Try.func18, Try.ntmps18
      go_wp2_with fail
      go_ret2
      refine ⟨by rw [HE.out]; rfl, ?_⟩
      rw [HE.out]
      exact HH.out.grew (Below.refl _ _)
    · have d0 : ¬ l < 0 := by omega
      have d1 : (S.length : Int) ≤ l := by omega
      clear hsh hsc e h hn hA
      go_enter Try.func18, Try.ntmps18
      go_wp2_with fail
      go_ret2
      refine ⟨by rw [HE.out]; rfl, ?_⟩
      rw [HE.out]
      exact HH.out.grew (Below.refl _ _)
  · have d0 : l < 0 := by omega
    clear hsh hsc e h hn hA
    go_enter Try.func18, Try.ntmps18
    go_wp2_with fail
    go_ret2
    refine ⟨by rw [HE.out]; rfl, ?_⟩
    rw [HE.out]
    exact HH.out.grew (Below.refl _ _)
end
def oneK (ks : List Int) (k : Nat) : Bool := (ks.take k).all (fun x => decide (x = ks.headD 0))
theorem oneK_zero (ks : List Int) : oneK ks 0 = true := by simp [oneK]
theorem oneK_succ (ks : List Int) (k : Nat) (h : k < ks.length) : oneK ks (k + 1) = (oneK ks k && decide (ks[k]'h = ks.headD 0)) := by
  unfold oneK; rw [List.take_succ_eq_append_getElem h, List.all_append]; simp
theorem oneK_len (ks : List Int) : oneK ks ks.length = oneA ks := by unfold oneK; rw [List.take_length]; rfl
def lowK (S : List Int) (N : List Nd) (l : Int) (ks : List Int) (k : Nat) : Prop := (ks.take k).all (lowA S N l) = true
theorem lowK_zero (S N l ks) : lowK S N l ks 0 := by simp [lowK]
theorem lowK_succ {S N l} {ks : List Int} {k : Nat} (h : k < ks.length) (h1 : lowK S N l ks k) (h2 : lowA S N l (ks[k]'h) = true) : lowK S N l ks (k + 1) := by
  unfold lowK at *; rw [List.take_succ_eq_append_getElem h, List.all_append, h1]; simp [h2]
def missK (N : List Nd) (R : List Int) (ks : List Int) (j : Nat) : Prop := ∀ f ∈ R.take j, ∀ i (hi : i < N.length), f = (i : Int) + 2 → (N[i]'hi).ks ≠ ks
theorem missK_zero (N R ks) : missK N R ks 0 := by intro f hf; simp at hf
theorem missK_succ {N : List Nd} {R : List Int} {ks : List Int} {j i : Nat} (hj : j < R.length) (h : missK N R ks j) (hi : i < N.length) (hf : R[j]'hj = (i : Int) + 2) (hne : (N[i]'hi).ks ≠ ks) : missK N R ks (j + 1) := by
  intro f hf2 i2 hi2 e
  rw [List.take_succ_eq_append_getElem hj, List.mem_append] at hf2
  rcases hf2 with hf2 | hf2
  · exact h f hf2 i2 hi2 e
  · simp at hf2
    have : i2 = i := by omega
    subst this
    exact hne
theorem make_bad {S : List Int} {M : Int} {N : List Nd} {l : Int} {ks : List Int} (h : mayA S N l ks = false) : makeA S M N l ks = (N, 0, 1) := by unfold makeA; rw [if_pos h]
theorem make_one {S : List Int} {M : Int} {N : List Nd} {l : Int} {ks : List Int} (h : mayA S N l ks = true) (h1 : oneA ks = true) : makeA S M N l ks = (N, ks.headD 0, 0) := by unfold makeA; rw [if_neg (by rw [h]; decide), if_pos h1]
theorem make_old {S : List Int} {M : Int} {N : List Nd} {l : Int} {ks : List Int} (h : mayA S N l ks = true) (h1 : oneA ks = false) (hn : N.Nodup) {i : Nat} (hi : i < N.length) (he : (N[i]'hi).lv = l) (hk : (N[i]'hi).ks = ks) : makeA S M N l ks = (N, (i : Int) + 2, 0) := by
  obtain ⟨hm, hx⟩ := refs_idx hn i hi (lv := l) (ks := ks) (by rw [← he, ← hk])
  unfold makeA; rw [if_neg (by rw [h]; decide), if_neg (by rw [h1]; decide), if_pos hm, hx]
theorem make_full {S : List Int} {M : Int} {N : List Nd} {l : Int} {ks : List Int} (h : mayA S N l ks = true) (h1 : oneA ks = false) (hm : (⟨l, ks⟩ : Nd) ∉ N) (hM : (N.length : Int) = M) : makeA S M N l ks = (N, 0, 2) := by
  unfold makeA; rw [if_neg (by rw [h]; decide), if_neg (by rw [h1]; decide), if_neg hm, if_pos (by omega)]
theorem make_new {S : List Int} {M : Int} {N : List Nd} {l : Int} {ks : List Int} (h : mayA S N l ks = true) (h1 : oneA ks = false) (hm : (⟨l, ks⟩ : Nd) ∉ N) (hM : (N.length : Int) < M) : makeA S M N l ks = (N ++ [⟨l, ks⟩], (N.length : Int) + 2, 0) := by
  unfold makeA; rw [if_neg (by rw [h]; decide), if_neg (by rw [h1]; decide), if_neg hm, if_neg (by omega)]
theorem low_of {S : List Int} {N : List Nd} {l v : Int} (h : hasA N v = true) (h2 : l < lvl S.length N v) : lowA S N l v = true := by unfold lowA; rw [h, decide_eq_true h2]; rfl
theorem low_no {S : List Int} {N : List Nd} {l v : Int} (h2 : lvl S.length N v ≤ l) : lowA S N l v = false := by unfold lowA; rw [decide_eq_false (by omega), Bool.and_false]
theorem low_nh {S : List Int} {N : List Nd} {l v : Int} (h : hasA N v = false) : lowA S N l v = false := by unfold lowA; rw [h]; rfl
section
variable {w w' : World} {b : Nat} {S : List Int} {M : Int} {L : List (Nd × Value)} {nv sv lv : Value} {rows : List Value} {cz : List Nat} {ks : List Int} {A : Option Addr} {c : Nat}
end
end Go.Proofs.Ytmfdcaalbpikpaa
