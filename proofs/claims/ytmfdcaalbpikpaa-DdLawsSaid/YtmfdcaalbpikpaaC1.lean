/- The document's Make: what it compares; its arena with a node more. -/
import Derived.Test.YtmfdcaalbpikpaaA9
namespace Go.Proofs.Ytmfdcaalbpikpaa
open Go.RowKit Go.WideMaps Go.Maps
set_option linter.unusedVariables false
set_option linter.unusedSimpArgs false
theorem rsame_any (A B : Option Addr) (ca cb : Nat) (a b : List Int) (hl : a.length = b.length) (w : World) (ha : IntsIn w A a) (hb : IntsIn w B b) :
    Calls Try.prog 50 #[.slice A a.length ca, .slice B b.length cb] w fun e w' => e = .returned (.bool (decide (a = b))) ∧ ∃ n, w' = w.drewN n := by
  have hla := ha.1
  have hlb := hb.1
  have HA := Hid.mk_ ha
  have HB := Hid.mk_ hb
  clear ha hb
  have l1 : a.length ≤ b.length := by omega
  have l2 : b.length ≤ a.length := by omega
  have hne : ((a.length : Int) == (b.length : Int)) = true := by simp; omega
  have hne2 : decide ((a.length : Int) = (b.length : Int)) = true := decide_eq_true (by omega)
  have HL := Hid.mk_ hl
  clear hl
  go_enter Try.func50, Try.ntmps50
  go_wp2_with fail
  go_loopw [5] (fun x wr => ∃ (k m : Nat), k ≤ a.length ∧ x = .int .i64 (k : Int) ∧ Hid (a.take k = b.take k) ∧ wr = w.drewN m) (fun x _ => a.length - (intOf x).toNat)
  case atStart => exact ⟨0, 0, Nat.zero_le _, rfl, rfl, rfl⟩
  case round =>
    obtain ⟨k, m, hk, rfl, hT, rfl⟩ := hrel
    by_cases hlt : k < a.length
    · have hltb : k < b.length := by omega
      have hlt1 : (k : Int) < a.length := by omega
      have hlt2 : (k : Int) < b.length := by omega
      obtain ⟨g, o, rfl, _, hc⟩ := HA.out.2 (by omega)
      obtain ⟨g', o', rfl, _, hc'⟩ := HB.out.2 (by omega)
      have c0 := hc k hlt
      have d0 := hc' k hltb
      obtain ⟨q, hq⟩ : ∃ q, q = a[k]'hlt := ⟨_, rfl⟩
      obtain ⟨r, hr⟩ : ∃ r, r = b[k]'hltb := ⟨_, rfl⟩
      rw [← hq] at c0
      rw [← hr] at d0
      have HQ := Hid.mk_ hq
      have HR := Hid.mk_ hr
      clear hq hr hc hc'
      by_cases hqr : q = r
      · have HE := Hid.mk_ hqr
        have t0 : (q != r) = false := by simp [hqr]
        have t1 : (q == r) = true := by simp [hqr]
        have t2 : decide (q = r) = true := decide_eq_true hqr
        clear hqr
        go_wp2_with fail
        go_big_quiet (fail)
        go_wp2_with fail
        go_roundw
        case rel => exact ⟨k + 1, _, by omega, by go_num, by show a.take (k + 1) = b.take (k + 1); rw [List.take_succ_eq_append_getElem hlt, List.take_succ_eq_append_getElem hltb, hT.out, ← HQ.out, ← HR.out, HE.out], rfl⟩
        case measure => simp [intOf]; omega
      · have HE := Hid.mk_ hqr
        have t0 : (q != r) = true := by simpa using hqr
        have t1 : (q == r) = false := by simpa using hqr
        have t2 : decide (q = r) = false := decide_eq_false hqr
        clear hqr
        go_wp2_with fail
        go_big_quiet (fail)
        go_wp2_with fail
        go_ret
        refine ⟨?_, _, World.drewN_drewN ..⟩
        rw [decide_eq_false (fun e => HE.out (by rw [HQ.out, HR.out]; subst e; rfl))]
        rfl
    · have hge : ¬ ((k : Int) < a.length) := by omega
      go_wp2_with fail
      go_ret
      refine ⟨?_, _, rfl⟩
      have hab : a = b := by
        have h := hT.out
        rwa [List.take_of_length_le (by omega), List.take_of_length_le (by omega)] at h
      rw [decide_eq_true hab]
      rfl
/-! the plain law of the document's search -/
section
variable {S : List Int} {M : Int} {N : List Nd}
/-- the ref of a node whose level and kids are these, found by going through the refs of its level -/
theorem refs_idx (hn : N.Nodup) {lv : Int} {ks : List Int} (i : Nat) (hi : i < N.length) (he : N[i]'hi = ⟨lv, ks⟩) : (⟨lv, ks⟩ : Nd) ∈ N ∧ (N.idxOf (⟨lv, ks⟩ : Nd) : Int) + 2 = (i : Int) + 2 := by
  have hm : (⟨lv, ks⟩ : Nd) ∈ N := by rw [← he]; exact List.getElem_mem hi
  refine ⟨hm, ?_⟩
  have hl := List.idxOf_lt_length_of_mem hm
  have h1 : N[N.idxOf (⟨lv, ks⟩ : Nd)]'hl = N[i]'hi := by rw [List.getElem_idxOf, he]
  have := (List.getElem_inj hn).1 h1
  omega
theorem refs_none {lv : Int} {ks : List Int} (h : ∀ f ∈ refs N lv, ∀ i (hi : i < N.length), f = (i : Int) + 2 → (N[i]'hi).ks ≠ ks) : (⟨lv, ks⟩ : Nd) ∉ N := by
  intro hm
  obtain ⟨i, hi, he⟩ := List.getElem_of_mem hm
  exact h _ (refs_mem.2 ⟨i, hi, rfl, by rw [he]⟩) i hi rfl (by rw [he])
theorem may_all {lv : Int} {ks : List Int} (h1 : shapeA S lv ks.length = true) (h2 : ks.all (lowA S N lv) = true) : mayA S N lv ks = true := by unfold mayA; rw [h1, h2]; rfl
theorem may_bad {lv : Int} {ks : List Int} (x : Int) (hx : x ∈ ks) (h2 : lowA S N lv x = false) : mayA S N lv ks = false := by
  unfold mayA
  have : ks.all (lowA S N lv) = false := by rw [List.all_eq_false]; exact ⟨x, hx, by rw [h2]; decide⟩
  rw [this, Bool.and_false]
theorem may_noshape {lv : Int} {ks : List Int} (h : shapeA S lv ks.length = false) : mayA S N lv ks = false := by unfold mayA; rw [h]; rfl
end
end Go.Proofs.Ytmfdcaalbpikpaa
