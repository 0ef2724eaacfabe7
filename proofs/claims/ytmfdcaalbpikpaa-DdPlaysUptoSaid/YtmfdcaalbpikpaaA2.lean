/- pick, same; the arena as it lies in memory; what is asked of it. -/
import Derived.Test.YtmfdcaalbpikpaaProg
import Derived.Test.YtmfdcaalbpikpaaM
import Derived.WalkKit
import Derived.Deep.QuietTactic
import Derived.BigQuiet
import Derived.Deep.RegionHeld3
import Derived.Outline
import Derived.Deep.DeepFit
import Derived.Maps.Own
import Derived.Deep.AppendLies
import Derived.Laws.OwnMore
import Derived.Test.YtmfdcaalbpikpaaB1
import Derived.Test.YtmfdcaalbpikpaaP1
import Derived.Shelf.Abstract
namespace Go.Proofs.Ytmfdcaalbpikpaa
open Go.RowKit
set_option linter.unusedVariables false
set_option linter.unusedSimpArgs false
def i64 (x : Int) : Prop := -9223372036854775808 ≤ x ∧ x ≤ 9223372036854775807
def pickI (c n : Int) : Int := (if c < 0 then -(c + 1) else c) % n
theorem pickI_range (c n : Int) (h : 0 < n) : 0 ≤ pickI c n ∧ pickI c n < n := ⟨Int.emod_nonneg _ (by omega), Int.emod_lt_of_pos _ h⟩
theorem pick_any (c n : Int) (hn : 0 < n) (h0 : -9223372036854775808 ≤ c) (h1 : c ≤ 9223372036854775807) (w : World) :
    Calls Try.prog 7 #[.int .i64 c, .int .i64 n] w fun e w' => e = .returned (.int .i64 (pickI c n)) ∧ w = w' := by
  have hz : ¬ n = 0 := by omega
  by_cases h : c < 0
  · have e : pickI c n = (-(c + 1)).tmod n := by unfold pickI; rw [if_pos h, Int.tmod_eq_emod_of_nonneg (by omega)]
    have m0 : 0 ≤ -(c + 1) := by omega
    go_enter Try.func7, Try.ntmps7
    go_wp2_with fail
    go_ret
    exact ⟨by rw [e, Int.neg_tmod]; rfl, rfl⟩
  · have m0 : 0 ≤ c := by omega
    go_enter Try.func7, Try.ntmps7
    go_wp2_with fail
    go_ret
    exact ⟨by unfold pickI; rw [if_neg (by omega)]; rfl, rfl⟩
theorem pick_at {c n p : Int} (hp : p = pickI c n) (hn : 0 < n) (h : i64 c) (w : World) : Calls Try.prog 7 #[.int .i64 c, .int .i64 n] w fun e w' => e = .returned (.int .i64 p) ∧ w = w' := hp ▸ pick_any c n hn h.1 h.2 w
theorem same_any (A B : Option Addr) (ca cb : Nat) (a b : List Int) (w : World) (ha : IntsIn w A a) (hb : IntsIn w B b) :
    Calls Try.prog 28 #[.slice A a.length ca, .slice B b.length cb] w fun e w' => e = .returned (.bool (decide (a = b))) ∧ ∃ n, w' = w.drewN n := by
  have hla := ha.1
  have hlb := hb.1
  have HA := Hid.mk_ ha
  have HB := Hid.mk_ hb
  clear ha hb
  by_cases hl : a.length = b.length
  · have l1 : a.length ≤ b.length := by omega
    have l2 : b.length ≤ a.length := by omega
    have hne : ((a.length : Int) != (b.length : Int)) = false := by simp; omega
    clear hl
    go_enter Try.func28, Try.ntmps28
    go_wp2_with fail
    go_loopw [5] (fun x wr => ∃ (k m : Nat), k ≤ a.length ∧ x = .int .i64 (k : Int) ∧ Hid (a.take k = b.take k) ∧ wr = w.drewN m) (fun x _ => a.length - (intOf x).toNat)
    case atStart => exact ⟨0, 0, Nat.zero_le _, rfl, rfl, rfl⟩
    case round =>
      obtain ⟨k, m, hk, rfl, hT, rfl⟩ := hrel
      by_cases hlt : k < a.length
      · have hltb : k < b.length := by omega
        have hlt1 : (k : Int) < a.length := by omega
        have hlt2 : (k : Int) < b.length := by omega
        obtain ⟨g, o, rfl, _, hc⟩ := HA.out.2 (by omega)
        obtain ⟨g', o', rfl, _, hc'⟩ := HB.out.2 (by omega)
        have c0 := hc k hlt
        have d0 := hc' k hltb
        obtain ⟨q, hq⟩ : ∃ q, q = a[k]'hlt := ⟨_, rfl⟩
        obtain ⟨r, hr⟩ : ∃ r, r = b[k]'hltb := ⟨_, rfl⟩
        rw [← hq] at c0
        rw [← hr] at d0
        have HQ := Hid.mk_ hq
        have HR := Hid.mk_ hr
        clear hq hr hc hc'
        by_cases hqr : q = r
        · have HE := Hid.mk_ hqr
          have t0 : (q != r) = false := by simp [hqr]
          have t1 : (q == r) = true := by simp [hqr]
          have t2 : decide (q = r) = true := decide_eq_true hqr
          clear hqr
          go_wp2_with fail
          go_big_quiet (fail)
          go_wp2_with fail
          go_roundw
          case rel => exact ⟨k + 1, _, by omega, by go_num, by show a.take (k + 1) = b.take (k + 1); rw [List.take_succ_eq_append_getElem hlt, List.take_succ_eq_append_getElem hltb, hT.out, ← HQ.out, ← HR.out, HE.out], rfl⟩
          case measure => simp [intOf]; omega
        · have HE := Hid.mk_ hqr
          have t0 : (q != r) = true := by simpa using hqr
          have t1 : (q == r) = false := by simpa using hqr
          have t2 : decide (q = r) = false := decide_eq_false hqr
          clear hqr
          go_wp2_with fail
          go_big_quiet (fail)
          go_wp2_with fail
          go_ret
          refine ⟨?_, _, World.drewN_drewN ..⟩
          rw [decide_eq_false (fun e => HE.out (by rw [HQ.out, HR.out]; subst e; rfl))]
          rfl
      · have hge : ¬ ((k : Int) < a.length) := by omega
        go_wp2_with fail
        go_ret
        refine ⟨?_, _, rfl⟩
        have hab : a = b := by
          have h := hT.out
          rwa [List.take_of_length_le (by omega), List.take_of_length_le (by omega)] at h
        rw [decide_eq_true hab]
        rfl
  · have hne : ((a.length : Int) != (b.length : Int)) = true := by simp; omega
    have HL := Hid.mk_ hl
    clear hl
    go_enter Try.func28, Try.ntmps28
    go_wp2_with fail
    go_ret
    refine ⟨?_, 0, rfl⟩
    rw [decide_eq_false (fun e => HL.out (by rw [e]))]
    rfl
end Go.Proofs.Ytmfdcaalbpikpaa
namespace Go.Proofs.Ytmfdcaalbpikpaa
open Go.RowKit
set_option linter.unusedVariables false
set_option linter.unusedSimpArgs false
section
variable {b n s c c0 : Nat} {A A0 : Option Addr} (w : World)
theorem has_any (f : Int) (h2 : w.cell? ⟨b, 2, none⟩ = some (.slice A n c)) (hn : n ≤ 8192) :
    Calls Try.prog 46 #[.pointer (some ⟨b, 0, none⟩), .int .i64 f] w fun e w' => e = .returned (.bool (decide (0 ≤ f ∧ f < (n : Int) + 2))) ∧ w = w' := by
  have hw : IntKind.i64.wrap ((n : Int) + 2) = n + 2 := by rw [IntKind.wrap_i64]; omega
  by_cases h0 : 0 ≤ f
  · have h0' : ¬ f < 0 := by omega
    go_enter Try.func46, Try.ntmps46
    go_wp2_with fail
    go_ret
    refine ⟨?_, rfl⟩
    congr 2
  · go_enter Try.func46, Try.ntmps46
    go_wp2_with fail
    go_ret
    refine ⟨?_, rfl⟩
    congr 2
    simp [h0]
    omega
theorem rhas_any (f : Int) (h2 : w.cell? ⟨b, 2, none⟩ = some (.slice A n c)) (hn : n ≤ 8192) :
    Calls Try.prog 48 #[.pointer (some ⟨b, 0, none⟩), .int .i64 f] w fun e w' => e = .returned (.bool (decide (0 ≤ f ∧ f < (n : Int) + 2))) ∧ w = w' := by
  have hw : IntKind.i64.wrap ((n : Int) + 2) = n + 2 := by rw [IntKind.wrap_i64]; omega
  by_cases h0 : 0 ≤ f
  · have h0' : ¬ f < 0 := by omega
    go_enter Try.func48, Try.ntmps48
    go_wp2_with fail
    go_ret
    refine ⟨?_, rfl⟩
    congr 2
  · go_enter Try.func48, Try.ntmps48
    go_wp2_with fail
    go_ret
    refine ⟨?_, rfl⟩
    congr 2
    simp [h0]
    omega
theorem len_any (h2 : w.cell? ⟨b, 2, none⟩ = some (.slice A n c)) :
    Calls Try.prog 16 #[.pointer (some ⟨b, 0, none⟩)] w fun e w' => e = .returned (.int .i64 (n : Int)) ∧ w = w' := by
  go_enter Try.func16, Try.ntmps16
  go_wp2_with fail
  go_ret
  exact ⟨rfl, rfl⟩
theorem rlen_any (h2 : w.cell? ⟨b, 2, none⟩ = some (.slice A n c)) :
    Calls Try.prog 19 #[.pointer (some ⟨b, 0, none⟩)] w fun e w' => e = .returned (.int .i64 (n : Int)) ∧ w = w' := by
  go_enter Try.func19, Try.ntmps19
  go_wp2_with fail
  go_ret
  exact ⟨rfl, rfl⟩
theorem level_out (f : Int) (h0 : w.cell? ⟨b, 0, none⟩ = some (.slice A0 s c0)) (h2 : w.cell? ⟨b, 2, none⟩ = some (.slice A n c)) (hn : n ≤ 8192) (hf : ¬ (2 ≤ f ∧ f < (n : Int) + 2)) :
    Calls Try.prog 73 #[.pointer (some ⟨b, 0, none⟩), .int .i64 f] w fun e w' => e = .returned (.int .i64 (s : Int)) ∧ w = w' := by
  by_cases h3 : f < 2
  · go_enter Try.func73, Try.ntmps73
    go_wp2_with fail
    go_ret
    exact ⟨rfl, rfl⟩
  · have hd : decide (0 ≤ f ∧ f < (n : Int) + 2) = false := decide_eq_false (by omega)
    go_enter Try.func73, Try.ntmps73
    go_wp2_with (go_at_call 46; (with_reducible refine (has_any w f h2 hn).mono ?_); rintro e w' ⟨rfl, rfl⟩)
    go_ret
    exact ⟨rfl, rfl⟩
theorem rlevel_out (f : Int) (h0 : w.cell? ⟨b, 0, none⟩ = some (.slice A0 s c0)) (h2 : w.cell? ⟨b, 2, none⟩ = some (.slice A n c)) (hn : n ≤ 8192) (hf : ¬ (2 ≤ f ∧ f < (n : Int) + 2)) :
    Calls Try.prog 49 #[.pointer (some ⟨b, 0, none⟩), .int .i64 f] w fun e w' => e = .returned (.int .i64 (s : Int)) ∧ w = w' := by
  have hw : IntKind.i64.wrap ((n : Int) + 2) = n + 2 := by rw [IntKind.wrap_i64]; omega
  by_cases h3 : f < 2
  · go_enter Try.func49, Try.ntmps49
    go_wp2_with fail
    go_ret
    exact ⟨rfl, rfl⟩
  · have h4 : (n : Int) + 2 ≤ f := by omega
    go_enter Try.func49, Try.ntmps49
    go_wp2_with fail
    go_ret
    exact ⟨rfl, rfl⟩
theorem level_in {g : Nat} {x : Int} (i : Nat) (h2 : w.cell? ⟨b, 2, none⟩ = some (.slice (some ⟨g, 0, none⟩) n c)) (hn : n ≤ 8192) (hi : i < n) (hx : w.cell? ⟨g, i * 2, none⟩ = some (.int .i64 x)) :
    Calls Try.prog 73 #[.pointer (some ⟨b, 0, none⟩), .int .i64 ((i : Int) + 2)] w fun e w' => e = .returned (.int .i64 x) ∧ w = w' := by
  have h3 : ¬ (i : Int) + 2 < 2 := by omega
  have hd : decide (0 ≤ (i : Int) + 2 ∧ (i : Int) + 2 < (n : Int) + 2) = true := decide_eq_true (by omega)
  have e1 : (i : Int) + 2 - 2 = i := by omega
  have hi1 : (i : Int) < n := by omega
  have hw : IntKind.i64.wrap (i : Int) = i := by rw [IntKind.wrap_i64]; omega
  go_enter Try.func73, Try.ntmps73
  go_wp2_with (go_at_call 46; (with_reducible refine (has_any w ((i : Int) + 2) h2 hn).mono ?_); rintro e w' ⟨rfl, rfl⟩)
  go_ret
  exact ⟨rfl, rfl⟩
theorem rlevel_in {g : Nat} {x : Int} (i : Nat) (h2 : w.cell? ⟨b, 2, none⟩ = some (.slice (some ⟨g, 0, none⟩) n c)) (hn : n ≤ 8192) (hi : i < n) (hx : w.cell? ⟨g, i * 2, none⟩ = some (.int .i64 x)) :
    Calls Try.prog 49 #[.pointer (some ⟨b, 0, none⟩), .int .i64 ((i : Int) + 2)] w fun e w' => e = .returned (.int .i64 x) ∧ w = w' := by
  have h3 : ¬ (i : Int) + 2 < 2 := by omega
  have hw2 : IntKind.i64.wrap ((n : Int) + 2) = n + 2 := by rw [IntKind.wrap_i64]; omega
  have h4 : ¬ (n : Int) + 2 ≤ (i : Int) + 2 := by omega
  have e1 : (i : Int) + 2 - 2 = i := by omega
  have hi1 : (i : Int) < n := by omega
  have hw : IntKind.i64.wrap (i : Int) = i := by rw [IntKind.wrap_i64]; omega
  go_enter Try.func49, Try.ntmps49
  go_wp2_with fail
  go_ret
  exact ⟨rfl, rfl⟩
end
/-- slices.IndexFunc, slices.ContainsFunc where what is handed in only reads -/
theorem index_any (f : Nat) (lb : Array Value) (eg : ∀ args w, (callFunc f args).run Try.prog w = .ok (.enter f args) w) (p : Int → Bool) (A : Option Addr) (c : Nat) (xs : List Int) (w : World) (hx : IntsIn w A xs)
    (hp : ∀ (q : Nat) (x : Int), x ∈ xs → Calls Try.prog f (#[.int .i64 x] ++ lb) (w.drewN q) fun e w' => e = .returned (.bool (p x)) ∧ ∃ r, w' = (w.drewN q).drewN r) :
    Calls Try.prog 63 #[.slice A xs.length c, .func (.func f) #[] lb] w fun e w' => (∃ r : Int, e = .returned (.int .i64 r) ∧ decide (0 ≤ r) = xs.any p) ∧ ∃ q, w' = w.drewN q := by
  have hl := hx.1
  have HX := Hid.mk_ hx
  have HP := Hid.mk_ hp
  clear hx hp
  go_enter Try.func63, Try.ntmps63
  go_wp2_with fail
  go_loopw [5, 8] (fun _ x8 wr => ∃ (k q : Nat), k ≤ xs.length ∧ x8 = .int .i64 (k : Int) ∧ Hid ((xs.take k).any p = false) ∧ wr = w.drewN q) (fun _ x8 _ => xs.length - (intOf x8).toNat)
  case atStart => exact ⟨0, 0, Nat.zero_le _, rfl, by show (List.take 0 xs).any p = false; simp, rfl⟩
  case round =>
    obtain ⟨k, q, hk, rfl, hT, rfl⟩ := hrel
    by_cases hlt : k < xs.length
    · have hlt1 : (k : Int) < xs.length := by omega
      obtain ⟨g, o, rfl, _, hc⟩ := HX.out.2 (by omega)
      have c0 := hc k hlt
      have hcall := HP.out q (xs[k]'hlt) (List.getElem_mem hlt)
      obtain ⟨y, hy⟩ : ∃ y, y = xs[k]'hlt := ⟨_, rfl⟩
      rw [← hy] at c0 hcall
      have HY := Hid.mk_ hy
      have HC := Hid.mk_ hcall
      clear hy hc hcall
      cases hq : p y with
      | true =>
        have HQ := Hid.mk_ hq
        rw [hq] at HC
        clear hq
        go_wp2_with (go_at_fn f; refine HC.out.mono ?_; rintro e w' ⟨rfl, r, rfl⟩)
        go_ret
        refine ⟨⟨_, rfl, ?_⟩, _, rfl⟩
        rw [decide_eq_true (by omega), Eq.comm, List.any_eq_true]
        exact ⟨y, by rw [HY.out]; exact List.getElem_mem hlt, HQ.out⟩
      | false =>
        have HQ := Hid.mk_ hq
        rw [hq] at HC
        clear hq
        go_wp2_with (go_at_fn f; refine HC.out.mono ?_; rintro e w' ⟨rfl, r, rfl⟩)
        go_roundw
        case rel => exact ⟨k + 1, _, by omega, by go_num, by show (xs.take (k + 1)).any p = false; rw [List.take_succ_eq_append_getElem hlt, List.any_append, hT.out, ← HY.out]; simp [HQ.out], rfl⟩
        case measure => simp [intOf]; omega
    · have hge : ¬ ((k : Int) < xs.length) := by omega
      go_wp2_with fail
      go_ret
      refine ⟨⟨_, rfl, ?_⟩, _, rfl⟩
      have h := hT.out
      rw [List.take_of_length_le (by omega)] at h
      rw [h]
      rfl
theorem contains_any (f : Nat) (lb : Array Value) (eg : ∀ args w, (callFunc f args).run Try.prog w = .ok (.enter f args) w) (p : Int → Bool) (A : Option Addr) (c : Nat) (xs : List Int) (w : World) (hx : IntsIn w A xs)
    (hp : ∀ (q : Nat) (x : Int), x ∈ xs → Calls Try.prog f (#[.int .i64 x] ++ lb) (w.drewN q) fun e w' => e = .returned (.bool (p x)) ∧ ∃ r, w' = (w.drewN q).drewN r) :
    Calls Try.prog 29 #[.slice A xs.length c, .func (.func f) #[] lb] w fun e w' => e = .returned (.bool (xs.any p)) ∧ ∃ q, w' = w.drewN q := by
  have HI := Hid.mk_ (index_any f lb eg p A c xs w hx hp)
  clear hx hp
  go_enter Try.func29, Try.ntmps29
  go_wp2_with (go_at_call 63; (with_reducible refine HI.out.mono ?_); rintro e w' ⟨⟨r, rfl, hr⟩, q, rfl⟩)
  go_ret
  exact ⟨by rw [← hr]; rfl, _, rfl⟩
end Go.Proofs.Ytmfdcaalbpikpaa
