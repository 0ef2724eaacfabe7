/- The document's reader: its calls walked. -/
import Derived.Test.YtdccgmfhnofabaaDoorC6
namespace Go.Proofs.YtdccgmfhnofabaaDoor
open Go.RowKit
set_option linter.unusedVariables false
set_option linter.unusedSimpArgs false
section
variable {w w' : World} {b : Nat} {r : Rd} {v : Value}
theorem XP.stay (h : XP w b r) (hb : Below w.heap.size w w') : XP w' b r := ⟨h.blk.below hb h.blk.lt, h.len, h.b0⟩
theorem XP.post (h : XP w b r) : XPost w b v r (.returned v) w := ⟨rfl, h, Mods.refl _ _⟩
theorem xwrong_any (h : XP w b r) (n : Int) : Calls Tryd.prog 55 #[.pointer (some ⟨b, 0, none⟩), .int .i64 n] w (XPost w b (.tuple #[]) (r.fail n)) := by
  have c0 := h.blk.cell 0
  have c1 := h.blk.cell 1
  have f1 := h.blk.free 1
  have hl := h.blk.lt
  have HH := Hid.mk_ h
  obtain ⟨e, hee⟩ : ∃ e, e = r.e := ⟨_, rfl⟩
  rw [← hee] at c1
  have HE := Hid.mk_ hee
  by_cases he : e = 0
  · subst he
    have e2 : r.fail n = ⟨r.s, n⟩ := by unfold Rd.fail; rw [if_pos hee.symm]
    have E2 := Hid.mk_ e2
    clear h e2 hee
    go_enter Tryd.func55, Tryd.ntmps55
    go_wp2_with fail
    go_end0
    rw [E2.out]
    exact ⟨rfl, ⟨HH.out.blk.set 1 _, HH.out.len, HH.out.b0⟩, (Mods.refl (fun k => k = b) w).setCell (p := ⟨b, 1, none⟩) (fun _ => rfl) _⟩
  · have e2 : r.fail n = r := by unfold Rd.fail; rw [if_neg (by rw [← hee]; exact he)]
    have E2 := Hid.mk_ e2
    have t0 : (e == 0) = false := by simpa using he
    clear h e2 hee
    go_enter Tryd.func55, Tryd.ntmps55
    go_wp2_with fail
    go_end0
    rw [E2.out]
    exact HH.out.post
theorem xleft_any (h : XP w b r) : Calls Tryd.prog 23 #[.pointer (some ⟨b, 0, none⟩)] w fun e w' => e = .returned (.int .i64 r.left) ∧ w = w' := by
  have c0 := h.blk.cell 0
  have c1 := h.blk.cell 1
  have hl := h.blk.lt
  obtain ⟨e, hee⟩ : ∃ e, e = r.e := ⟨_, rfl⟩
  rw [← hee] at c1
  by_cases he : e = 0
  · subst he
    have e2 : r.left = (r.s.length : Int) := by unfold Rd.left; rw [if_neg (by simp [← hee])]
    have E2 := Hid.mk_ e2
    clear h e2 hee
    go_enter Tryd.func23, Tryd.ntmps23
    go_wp2_with fail
    go_ret
    exact ⟨by rw [E2.out]; rfl, rfl⟩
  · have e2 : r.left = 0 := by unfold Rd.left; rw [if_pos (by rw [← hee]; exact he)]
    have E2 := Hid.mk_ e2
    have t0 : (e != 0) = true := by simpa using he
    clear h e2 hee
    go_enter Tryd.func23, Tryd.ntmps23
    go_wp2_with fail
    go_ret
    exact ⟨by rw [E2.out]; rfl, rfl⟩
theorem xdone_any (h : XP w b r) : Calls Tryd.prog 25 #[.pointer (some ⟨b, 0, none⟩)] w fun e w' => e = .returned (.int .i64 r.done) ∧ w = w' := by
  have c0 := h.blk.cell 0
  have c1 := h.blk.cell 1
  have hl := h.blk.lt
  obtain ⟨e, hee⟩ : ∃ e, e = r.e := ⟨_, rfl⟩
  rw [← hee] at c1
  by_cases he : e = 0
  · subst he
    by_cases hs : r.s = []
    · have e2 : r.done = 0 := by unfold Rd.done; rw [if_neg (by simp [← hee]), if_pos hs]
      have E2 := Hid.mk_ e2
      rw [hs] at c0
      clear h e2 hs hee
      go_enter Tryd.func25, Tryd.ntmps25
      go_wp2_with fail
      go_ret
      exact ⟨by rw [E2.out]; rfl, rfl⟩
    · have e2 : r.done = 13 := by unfold Rd.done; rw [if_neg (by simp [← hee]), if_neg hs]
      have E2 := Hid.mk_ e2
      have t0 : (!r.s.isEmpty) = true := by simpa using hs
      clear h e2 hee
      go_enter Tryd.func25, Tryd.ntmps25
      go_wp2_with fail
      go_ret
      exact ⟨by rw [E2.out]; rfl, rfl⟩
  · have e2 : r.done = e := by unfold Rd.done; rw [if_pos (by rw [← hee]; exact he), hee]
    have E2 := Hid.mk_ e2
    have t0 : (e == 0) = false := by simpa using he
    clear h e2 hee
    go_enter Tryd.func25, Tryd.ntmps25
    go_wp2_with fail
    go_ret
    exact ⟨by rw [E2.out]; rfl, rfl⟩
theorem Rd.fail_zero {r : Rd} (n : Int) (h : r.e = 0) : r.fail n = ⟨r.s, n⟩ := if_pos h
theorem Rd.fail_ne {r : Rd} (n : Int) (h : r.e ≠ 0) : r.fail n = r := if_neg h
theorem Rd.fail_e {r : Rd} {n : Int} (h : n ≠ 0) : (r.fail n).e ≠ 0 := by unfold Rd.fail; split <;> assumption
theorem Rd.fail_s {r : Rd} {n : Int} : (r.fail n).s = r.s := by unfold Rd.fail; split <;> rfl
theorem num_size {r : Rd} {size : Int} (h : size < 1 ∨ 8 < size) : r.num size = (0, r.fail 10) := by
  unfold Rd.num
  by_cases he : r.e = 0
  · rw [if_neg (by simp [he]), if_pos h, Rd.fail_zero _ he]
  · rw [if_pos he, Rd.fail_ne _ he]
theorem num_short {r : Rd} {k : Nat} (h0 : ¬ ((k : Int) < 1 ∨ 8 < (k : Int))) (h : r.s.length < k) : r.num k = (0, r.fail 12) := by
  unfold Rd.num
  by_cases he : r.e = 0
  · rw [if_neg (by simp [he]), if_neg h0, if_pos (by omega), Rd.fail_zero _ he]
  · rw [if_pos he, Rd.fail_ne _ he]
theorem num_great {r : Rd} {k : Nat} (h0 : ¬ ((k : Int) < 1 ∨ 8 < (k : Int))) (h : k ≤ r.s.length) (h2 : ¬ numL (r.s.take k) ≤ 9223372036854775807) : r.num k = (0, r.fail 10) := by
  unfold Rd.num
  by_cases he : r.e = 0
  · rw [if_neg (by simp [he]), if_neg h0, if_neg (by omega), if_pos (by rw [Int.toNat_natCast]; omega), Rd.fail_zero _ he]
  · rw [if_pos he, Rd.fail_ne _ he]
theorem xnum_any (h : XP w b r) (size : Int) : Calls Tryd.prog 40 #[.pointer (some ⟨b, 0, none⟩), .int .i64 size] w (XPost w b (.int .i64 (r.num size).1) (r.num size).2) := by
  have c0 := h.blk.cell 0
  have c1 := h.blk.cell 1
  have f0 := h.blk.free 0
  have hl := h.blk.lt
  have hlen := h.len
  have HH := Hid.mk_ h
  have HF := Hid.mk_ (fun n => xwrong_any h n)
  by_cases h1 : size < 1 ∨ 8 < size
  · have E2 := Hid.mk_ (num_size (r := r) h1)
    have t0 : (decide (size < 1) || decide (8 < size)) = true := by simpa using h1
    clear h h1
    go_enter Tryd.func40, Tryd.ntmps40
    go_wp2_with (go_at_call 55; (with_reducible refine (HF.out 10).mono ?_); rintro e w1 ⟨rfl, hr, hm⟩)
    all_goals (
      go_ret
      rw [E2.out]
      exact ⟨rfl, hr, hm⟩)
  · have t0 : decide (size < 1) = false := decide_eq_false (fun e => h1 (.inl e))
    have t1 : decide (8 < size) = false := decide_eq_false (fun e => h1 (.inr e))
    obtain ⟨k, rfl⟩ : ∃ k : Nat, size = k := ⟨size.toNat, by omega⟩
    by_cases h2 : r.s.length < k
    · have E2 := Hid.mk_ (num_short h1 h2)
      have h3 : (r.s.length : Int) < k := by omega
      clear h h1
      go_enter Tryd.func40, Tryd.ntmps40
      go_wp2_with (go_at_call 55; (with_reducible refine (HF.out 12).mono ?_); rintro e w1 ⟨rfl, hr, hm⟩)
      go_ret
      rw [E2.out]
      exact ⟨rfl, hr, hm⟩
    · have hk : k ≤ 8 := by omega
      have hN := said_l (r.s.take k) w (by rw [List.length_take]; omega)
      unfold saidV at hN
      have hx := extract_to r.s k
      have hy := extract_from r.s k
      have hkl : k ≤ r.s.length := by omega
      by_cases h4 : numL (r.s.take k) ≤ 9223372036854775807
      · rw [if_pos h4, decide_eq_true h4] at hN
        obtain ⟨e, hee⟩ : ∃ e, e = r.e := ⟨_, rfl⟩
        rw [← hee] at c1
        by_cases he : e = 0
        · subst he
          have e2 : r.num k = ((numL (r.s.take k) : Int), ⟨r.s.drop k, 0⟩) := by unfold Rd.num; rw [if_neg (by simp [← hee]), if_neg h1, if_neg (by omega), if_neg (by rw [Int.toNat_natCast]; omega), Int.toNat_natCast]
          obtain ⟨N, hNe⟩ : ∃ N : Nat, N = numL (r.s.take k) := ⟨_, rfl⟩
          rw [← hNe] at hN e2
          have HN := Hid.mk_ hN
          have E2 := Hid.mk_ e2
          have HEE := Hid.mk_ hee
          clear h e2 h1 h4 hN hNe hee
          go_enter Tryd.func40, Tryd.ntmps40
          go_wp2_with (go_at_call 56; (with_reducible refine HN.out.mono ?_); rintro e w' ⟨rfl, rfl⟩)
          go_ret
          rw [E2.out]
          have hb := HH.out.blk.set 0 (str (r.s.drop k))
          rw [← HEE.out] at hb
          exact ⟨rfl, ⟨hb, by show (r.s.drop k).length ≤ _; rw [List.length_drop]; omega, HH.out.b0⟩, (Mods.refl (fun k => k = b) w).setCell (p := ⟨b, 0, none⟩) (fun _ => rfl) _⟩
        · have e2 : r.num k = (0, r) := by unfold Rd.num; rw [if_pos (by rw [← hee]; exact he)]
          have t0 : (e != 0) = true := by simpa using he
          obtain ⟨N, hNe⟩ : ∃ N : Nat, N = numL (r.s.take k) := ⟨_, rfl⟩
          rw [← hNe] at hN
          have HN := Hid.mk_ hN
          have E2 := Hid.mk_ e2
          clear h e2 h1 h4 hN hNe hee
          go_enter Tryd.func40, Tryd.ntmps40
          go_wp2_with (go_at_call 56; (with_reducible refine HN.out.mono ?_); rintro e w' ⟨rfl, rfl⟩)
          go_ret
          rw [E2.out]
          exact HH.out.post
      · rw [if_neg h4, decide_eq_false h4] at hN
        have HN := Hid.mk_ hN
        have E2 := Hid.mk_ (num_great h1 hkl h4)
        clear h h1 h4 hN
        go_enter Tryd.func40, Tryd.ntmps40
        go_upto_region 10 with (first
          | (go_at_call 56; (with_reducible refine HN.out.mono ?_); rintro e w' ⟨rfl, rfl⟩)
          | (go_at_call 55; (with_reducible refine (HF.out 10).mono ?_); rintro e w1 ⟨rfl, hr, hm⟩))
        obtain ⟨e, hee⟩ : ∃ e, e = (r.fail 10).e := ⟨_, rfl⟩
        have d1 := hr.blk.cell 1
        rw [← hee] at d1
        have hen : e ≠ 0 := by rw [hee]; exact Rd.fail_e (by omega)
        have t2 : (e != 0) = true := by simpa using hen
        clear hee c1 c0 f0 hl
        go_wp2_with fail
        go_ret
        rw [E2.out]
        exact ⟨rfl, hr, hm⟩
theorem raw_neg {r : Rd} {n : Int} (h : n < 0) : r.raw n = ([], r.fail 10) := by
  unfold Rd.raw
  by_cases he : r.e = 0
  · rw [if_neg (by simp [he]), if_pos h, Rd.fail_zero _ he]
  · rw [if_pos he, Rd.fail_ne _ he]
theorem raw_short {r : Rd} {k : Nat} (h : r.s.length < k) : r.raw k = ([], r.fail 12) := by
  unfold Rd.raw
  by_cases he : r.e = 0
  · rw [if_neg (by simp [he]), if_neg (by omega), if_pos (by omega), Rd.fail_zero _ he]
  · rw [if_pos he, Rd.fail_ne _ he]
theorem xraw_any (h : XP w b r) (n : Int) : Calls Tryd.prog 42 #[.pointer (some ⟨b, 0, none⟩), .int .i64 n] w (XPost w b (str (r.raw n).1) (r.raw n).2) := by
  have c0 := h.blk.cell 0
  have c1 := h.blk.cell 1
  have f0 := h.blk.free 0
  have hl := h.blk.lt
  have hlen := h.len
  have HH := Hid.mk_ h
  have HF := Hid.mk_ (fun n => xwrong_any h n)
  by_cases h1 : n < 0
  · have E2 := Hid.mk_ (raw_neg (r := r) h1)
    clear h
    go_enter Tryd.func42, Tryd.ntmps42
    go_upto_region 5 with (go_at_call 55; (with_reducible refine (HF.out 10).mono ?_); rintro e w1 ⟨rfl, hr, hm⟩)
    obtain ⟨e, hee⟩ : ∃ e, e = (r.fail 10).e := ⟨_, rfl⟩
    have d1 := hr.blk.cell 1
    rw [← hee] at d1
    have hen : e ≠ 0 := by rw [hee]; exact Rd.fail_e (by omega)
    have t2 : (e != 0) = true := by simpa using hen
    clear hee c1 c0 f0 hl
    go_wp2_with fail
    go_ret
    rw [E2.out]
    exact ⟨rfl, hr, hm⟩
  · obtain ⟨k, rfl⟩ : ∃ k : Nat, n = k := ⟨n.toNat, by omega⟩
    by_cases h2 : r.s.length < k
    · have E2 := Hid.mk_ (raw_short (r := r) h2)
      have h3 : (r.s.length : Int) < k := by omega
      clear h
      go_enter Tryd.func42, Tryd.ntmps42
      go_upto_region 5 with (go_at_call 55; (with_reducible refine (HF.out 12).mono ?_); rintro e w1 ⟨rfl, hr, hm⟩)
      obtain ⟨e, hee⟩ : ∃ e, e = (r.fail 12).e := ⟨_, rfl⟩
      have d1 := hr.blk.cell 1
      rw [← hee] at d1
      have hen : e ≠ 0 := by rw [hee]; exact Rd.fail_e (by omega)
      have t2 : (e != 0) = true := by simpa using hen
      clear hee c1 c0 f0 hl
      go_wp2_with fail
      go_ret
      rw [E2.out]
      exact ⟨rfl, hr, hm⟩
    · have hkl : k ≤ r.s.length := by omega
      have h3 : ¬ (r.s.length : Int) < k := by omega
      obtain ⟨e, hee⟩ : ∃ e, e = r.e := ⟨_, rfl⟩
      rw [← hee] at c1
      have hx := extract_to r.s k
      have hy := extract_from r.s k
      by_cases he : e = 0
      · subst he
        have e2 : r.raw k = (r.s.take k, ⟨r.s.drop k, 0⟩) := by unfold Rd.raw; rw [if_neg (by simp [← hee]), if_neg h1, if_neg h3, Int.toNat_natCast]
        have E2 := Hid.mk_ e2
        have HEE := Hid.mk_ hee
        clear h e2 h1 hee
        go_enter Tryd.func42, Tryd.ntmps42
        go_wp2_with fail
        go_ret
        rw [E2.out]
        have hb := HH.out.blk.set 0 (str (r.s.drop k))
        rw [← HEE.out] at hb
        exact ⟨rfl, ⟨hb, by show (r.s.drop k).length ≤ _; rw [List.length_drop]; omega, HH.out.b0⟩, (Mods.refl (fun k => k = b) w).setCell (p := ⟨b, 0, none⟩) (fun _ => rfl) _⟩
      · have e2 : r.raw k = ([], r) := by unfold Rd.raw; rw [if_pos (by rw [← hee]; exact he)]
        have t0 : (e != 0) = true := by simpa using he
        have E2 := Hid.mk_ e2
        clear h e2 h1 hee
        go_enter Tryd.func42, Tryd.ntmps42
        go_wp2_with fail
        go_ret
        rw [E2.out]
        exact HH.out.post
theorem text_short {r : Rd} {most : Int} (h : r.s.length < 2) : r.text most = ([], r.fail 12) := by
  unfold Rd.text
  by_cases he : r.e = 0
  · rw [if_neg (by simp [he]), if_pos h, Rd.fail_zero _ he]
  · rw [if_pos he, Rd.fail_ne _ he]
theorem text_long {r : Rd} {most : Int} (h : 2 ≤ r.s.length) (h1 : most < (numL (r.s.take 2) : Int)) : r.text most = ([], r.fail 11) := by
  unfold Rd.text
  by_cases he : r.e = 0
  · rw [if_neg (by simp [he]), if_neg (by omega), if_pos h1, Rd.fail_zero _ he]
  · rw [if_pos he, Rd.fail_ne _ he]
theorem text_less {r : Rd} {most : Int} (h : 2 ≤ r.s.length) (h1 : ¬ most < (numL (r.s.take 2) : Int)) (h2 : r.s.length - 2 < numL (r.s.take 2)) : r.text most = ([], r.fail 12) := by
  unfold Rd.text
  by_cases he : r.e = 0
  · rw [if_neg (by simp [he]), if_neg (by omega), if_neg h1, if_pos h2, Rd.fail_zero _ he]
  · rw [if_pos he, Rd.fail_ne _ he]
set_option maxRecDepth 20000 in
set_option maxHeartbeats 1000000 in
theorem xtext_any (h : XP w b r) (most : Int) : Calls Tryd.prog 41 #[.pointer (some ⟨b, 0, none⟩), .int .i64 most] w (XPost w b (str (r.text most).1) (r.text most).2) := by
  have c0 := h.blk.cell 0
  have c1 := h.blk.cell 1
  have f0 := h.blk.free 0
  have hl := h.blk.lt
  have hlen := h.len
  have HH := Hid.mk_ h
  have HF := Hid.mk_ (fun n => xwrong_any h n)
  by_cases h1 : r.s.length < 2
  · have E2 := Hid.mk_ (text_short (r := r) (most := most) h1)
    have h3 : (r.s.length : Int) < 2 := by omega
    clear h
    go_enter Tryd.func41, Tryd.ntmps41
    go_wp2_with (go_at_call 55; (with_reducible refine (HF.out 12).mono ?_); rintro e w1 ⟨rfl, hr, hm⟩)
    go_ret
    rw [E2.out]
    exact ⟨rfl, hr, hm⟩
  · have h3 : 2 ≤ r.s.length := by omega
    have hN := said_l (r.s.take 2) w (by rw [List.length_take]; omega)
    unfold saidV at hN
    have hx := extract_to r.s 2
    have hN2 := num2_lt r.s
    rw [if_pos (by omega), decide_eq_true (by omega)] at hN
    obtain ⟨N, hNe⟩ : ∃ N : Nat, N = numL (r.s.take 2) := ⟨_, rfl⟩
    rw [← hNe] at hN hN2
    have HN := Hid.mk_ hN
    by_cases h4 : most < (N : Int)
    · have E2 := Hid.mk_ (text_long h3 (by rw [← hNe]; exact h4))
      clear h hN hNe
      go_enter Tryd.func41, Tryd.ntmps41
      go_upto_region 9 with (first
        | (go_at_call 56; (with_reducible refine HN.out.mono ?_); rintro e w' ⟨rfl, rfl⟩)
        | (go_at_call 55; (with_reducible refine (HF.out 11).mono ?_); rintro e w1 ⟨rfl, hr, hm⟩))
      obtain ⟨e, hee⟩ : ∃ e, e = (r.fail 11).e := ⟨_, rfl⟩
      have d1 := hr.blk.cell 1
      rw [← hee] at d1
      have hen : e ≠ 0 := by rw [hee]; exact Rd.fail_e (by omega)
      have t2 : (e != 0) = true := by simpa using hen
      clear hee c1 c0 f0 hl
      go_wp2_with fail
      go_ret
      rw [E2.out]
      exact ⟨rfl, hr, hm⟩
    · by_cases h5 : r.s.length - 2 < N
      · have E2 := Hid.mk_ (text_less h3 (by rw [← hNe]; exact h4) (by rw [← hNe]; exact h5))
        have h6 : (r.s.length : Int) - 2 < N := by omega
        clear h hN hNe
        go_enter Tryd.func41, Tryd.ntmps41
        go_upto_region 9 with (first
          | (go_at_call 56; (with_reducible refine HN.out.mono ?_); rintro e w' ⟨rfl, rfl⟩)
          | (go_at_call 55; (with_reducible refine (HF.out 12).mono ?_); rintro e w1 ⟨rfl, hr, hm⟩))
        obtain ⟨e, hee⟩ : ∃ e, e = (r.fail 12).e := ⟨_, rfl⟩
        have d1 := hr.blk.cell 1
        rw [← hee] at d1
        have hen : e ≠ 0 := by rw [hee]; exact Rd.fail_e (by omega)
        have t2 : (e != 0) = true := by simpa using hen
        clear hee c1 c0 f0 hl
        go_wp2_with fail
        go_ret
        rw [E2.out]
        exact ⟨rfl, hr, hm⟩
      · have h6 : ¬ (r.s.length : Int) - 2 < N := by omega
        have h7 : 2 + N ≤ r.s.length := by omega
        have hy := slice_from r.s N h7
        have hz := slice_mid r.s N h7
        obtain ⟨e, hee⟩ : ∃ e, e = r.e := ⟨_, rfl⟩
        rw [← hee] at c1
        by_cases he : e = 0
        · subst he
          have e2 : r.text most = ((r.s.drop 2).take N, ⟨r.s.drop (2 + N), 0⟩) := by unfold Rd.text; rw [if_neg (by simp [← hee]), if_neg h1, if_neg (by rw [← hNe]; exact h4), if_neg (by rw [← hNe]; exact h5), ← hNe]
          have E2 := Hid.mk_ e2
          have HEE := Hid.mk_ hee
          clear h e2 hN hNe hee
          go_enter Tryd.func41, Tryd.ntmps41
          go_wp2_with (go_at_call 56; (with_reducible refine HN.out.mono ?_); rintro e w' ⟨rfl, rfl⟩)
          go_ret
          rw [E2.out]
          have hb := HH.out.blk.set 0 (str (r.s.drop (2 + N)))
          rw [← HEE.out] at hb
          exact ⟨rfl, ⟨hb, by show (r.s.drop (2 + N)).length ≤ _; rw [List.length_drop]; omega, HH.out.b0⟩, (Mods.refl (fun k => k = b) w).setCell (p := ⟨b, 0, none⟩) (fun _ => rfl) _⟩
        · have e2 : r.text most = ([], r) := by unfold Rd.text; rw [if_pos (by rw [← hee]; exact he)]
          have t0 : (e != 0) = true := by simpa using he
          have E2 := Hid.mk_ e2
          clear h e2 hN hNe hee hy hz
          go_enter Tryd.func41, Tryd.ntmps41
          go_wp2_with (go_at_call 56; (with_reducible refine HN.out.mono ?_); rintro e w' ⟨rfl, rfl⟩)
          go_ret
          rw [E2.out]
          exact HH.out.post
end
end Go.Proofs.YtdccgmfhnofabaaDoor
