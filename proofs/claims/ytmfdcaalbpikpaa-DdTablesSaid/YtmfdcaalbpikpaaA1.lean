/- pick, same; the arena as it lies in memory; what is asked of it. -/
import Derived.Test.YtmfdcaalbpikpaaProg
import Derived.Test.YtmfdcaalbpikpaaM
import Derived.WalkKit
import Derived.Deep.QuietTactic
import Derived.BigQuiet
import Derived.Deep.RegionHeld3
import Derived.Outline
import Derived.Deep.DeepFit
import Derived.Maps.Own
import Derived.Deep.AppendLies
import Derived.Laws.OwnMore
namespace Go.Proofs.Ytmfdcaalbpikpaa
open Go.RowKit
set_option linter.unusedVariables false
set_option linter.unusedSimpArgs false
def i64 (x : Int) : Prop := -9223372036854775808 ≤ x ∧ x ≤ 9223372036854775807
def pickI (c n : Int) : Int := (if c < 0 then -(c + 1) else c) % n
theorem pickI_range (c n : Int) (h : 0 < n) : 0 ≤ pickI c n ∧ pickI c n < n := ⟨Int.emod_nonneg _ (by omega), Int.emod_lt_of_pos _ h⟩
theorem pick_any (c n : Int) (hn : 0 < n) (h0 : -9223372036854775808 ≤ c) (h1 : c ≤ 9223372036854775807) (w : World) :
    Calls Try.prog 7 #[.int .i64 c, .int .i64 n] w fun e w' => e = .returned (.int .i64 (pickI c n)) ∧ w = w' := by
  have hz : ¬ n = 0 := by omega
  by_cases h : c < 0
  · have e : pickI c n = (-(c + 1)).tmod n := by unfold pickI; rw [if_pos h, Int.tmod_eq_emod_of_nonneg (by omega)]
    have m0 : 0 ≤ -(c + 1) := by omega
    go_enter Try.func7, Try.ntmps7
    go_wp2_with fail
    go_ret
    exact ⟨by rw [e, Int.neg_tmod]; rfl, rfl⟩
  · have m0 : 0 ≤ c := by omega
    go_enter Try.func7, Try.ntmps7
    go_wp2_with fail
    go_ret
    exact ⟨by unfold pickI; rw [if_neg (by omega)]; rfl, rfl⟩
theorem pick_at {c n p : Int} (hp : p = pickI c n) (hn : 0 < n) (h : i64 c) (w : World) : Calls Try.prog 7 #[.int .i64 c, .int .i64 n] w fun e w' => e = .returned (.int .i64 p) ∧ w = w' := hp ▸ pick_any c n hn h.1 h.2 w
theorem same_any (A B : Option Addr) (ca cb : Nat) (a b : List Int) (w : World) (ha : IntsIn w A a) (hb : IntsIn w B b) :
    Calls Try.prog 28 #[.slice A a.length ca, .slice B b.length cb] w fun e w' => e = .returned (.bool (decide (a = b))) ∧ ∃ n, w' = w.drewN n := by
  have hla := ha.1
  have hlb := hb.1
  have HA := Hid.mk_ ha
  have HB := Hid.mk_ hb
  clear ha hb
  by_cases hl : a.length = b.length
  · have l1 : a.length ≤ b.length := by omega
    have l2 : b.length ≤ a.length := by omega
    have hne : ((a.length : Int) != (b.length : Int)) = false := by simp; omega
    clear hl
    go_enter Try.func28, Try.ntmps28
    go_wp2_with fail
    go_loopw [5] (fun x wr => ∃ (k m : Nat), k ≤ a.length ∧ x = .int .i64 (k : Int) ∧ Hid (a.take k = b.take k) ∧ wr = w.drewN m) (fun x _ => a.length - (intOf x).toNat)
    case atStart => exact ⟨0, 0, Nat.zero_le _, rfl, rfl, rfl⟩
    case round =>
      obtain ⟨k, m, hk, rfl, hT, rfl⟩ := hrel
      by_cases hlt : k < a.length
      · have hltb : k < b.length := by omega
        have hlt1 : (k : Int) < a.length := by omega
        have hlt2 : (k : Int) < b.length := by omega
        obtain ⟨g, o, rfl, _, hc⟩ := HA.out.2 (by omega)
        obtain ⟨g', o', rfl, _, hc'⟩ := HB.out.2 (by omega)
        have c0 := hc k hlt
        have d0 := hc' k hltb
        obtain ⟨q, hq⟩ : ∃ q, q = a[k]'hlt := ⟨_, rfl⟩
        obtain ⟨r, hr⟩ : ∃ r, r = b[k]'hltb := ⟨_, rfl⟩
        rw [← hq] at c0
        rw [← hr] at d0
        have HQ := Hid.mk_ hq
        have HR := Hid.mk_ hr
        clear hq hr hc hc'
        by_cases hqr : q = r
        · have HE := Hid.mk_ hqr
          have t0 : (q != r) = false := by simp [hqr]
          have t1 : (q == r) = true := by simp [hqr]
          have t2 : decide (q = r) = true := decide_eq_true hqr
          clear hqr
          go_wp2_with fail
          go_big_quiet (fail)
          go_wp2_with fail
          go_roundw
          case rel => exact ⟨k + 1, _, by omega, by go_num, by show a.take (k + 1) = b.take (k + 1); rw [List.take_succ_eq_append_getElem hlt, List.take_succ_eq_append_getElem hltb, hT.out, ← HQ.out, ← HR.out, HE.out], rfl⟩
          case measure => simp [intOf]; omega
        · have HE := Hid.mk_ hqr
          have t0 : (q != r) = true := by simpa using hqr
          have t1 : (q == r) = false := by simpa using hqr
          have t2 : decide (q = r) = false := decide_eq_false hqr
          clear hqr
          go_wp2_with fail
          go_big_quiet (fail)
          go_wp2_with fail
          go_ret
          refine ⟨?_, _, World.drewN_drewN ..⟩
          rw [decide_eq_false (fun e => HE.out (by rw [HQ.out, HR.out]; subst e; rfl))]
          rfl
      · have hge : ¬ ((k : Int) < a.length) := by omega
        go_wp2_with fail
        go_ret
        refine ⟨?_, _, rfl⟩
        have hab : a = b := by
          have h := hT.out
          rwa [List.take_of_length_le (by omega), List.take_of_length_le (by omega)] at h
        rw [decide_eq_true hab]
        rfl
  · have hne : ((a.length : Int) != (b.length : Int)) = true := by simp; omega
    have HL := Hid.mk_ hl
    clear hl
    go_enter Try.func28, Try.ntmps28
    go_wp2_with fail
    go_ret
    refine ⟨?_, 0, rfl⟩
    rw [decide_eq_false (fun e => HL.out (by rw [e]))]
    rfl
end Go.Proofs.Ytmfdcaalbpikpaa
