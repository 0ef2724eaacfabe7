/- The document's writer: Num, Text, Done, New; both readers made. -/
import Derived.Test.YtdccgmfhnofabaaDoorD3
namespace Go.Proofs.YtdccgmfhnofabaaDoor
open Go.RowKit
set_option linter.unusedVariables false
set_option linter.unusedSimpArgs false
section
variable {w w' w1 : World} {b : Nat} {r : Wr} {v : Value} {l s : List UInt8}
theorem lay_wrong {r : Wr} {n : Int} (hn : n ≠ 0) : r.lay [] n = r.fail n := by
  unfold Wr.lay Wr.fail
  by_cases he : r.e = 0
  · rw [if_neg (by simp [he]), if_pos hn, if_pos he]
  · rw [if_pos he, if_neg he]
theorem XW.wrong (h : XW w b r v) {n : Int} (hn : n ≠ 0) : Calls Tryd.prog 53 #[.pointer (some ⟨b, 0, none⟩), .int .i64 n] w (XWPost w b v (r.lay [] n)) :=
  (xfail_any h n).mono fun e w' ⟨h1, h2, h3, h4⟩ => ⟨h1, v, by rw [lay_wrong hn]; exact h2, h3.mono (fun k _ e => .inl e), fun k hk => .inl hk⟩
theorem xnum_w (h : XW w b r v) (size n : Int) (h1 : i64 size) (h2 : i64 n) (hlen : r.l.length ≤ 140737488355320) :
    Calls Tryd.prog 36 #[.pointer (some ⟨b, 0, none⟩), .int .i64 size, .int .i64 n] w (XWPost w b v (r.num size n)) := by
  have HF := Hid.mk_ (rfits_any size n w h1.1 h1.2 h2.1 h2.2)
  by_cases hf : fitsB size n = true
  · obtain ⟨f1, f2, f3⟩ := fits_nat hf
    obtain ⟨k, rfl⟩ : ∃ k : Nat, size = k := ⟨size.toNat, by omega⟩
    obtain ⟨m, rfl⟩ : ∃ m : Nat, n = m := ⟨n.toNat, by omega⟩
    have e2 : r.num k m = r.lay (byL k m) 0 := by unfold Wr.num; rw [if_pos hf, Int.toNat_natCast, Int.toNat_natCast]
    rw [hf] at HF
    have E2 := Hid.mk_ e2
    have HBy := Hid.mk_ (by_any k m (by omega) (by have := h2.2; omega) w)
    have HL := Hid.mk_ (fun (W : World) (hW : Below w.heap.size w W) => xraw_w (h.new hW) (byL k m) (by rw [byL_length]; omega))
    clear h e2 hf h1 h2
    go_enter Tryd.func36, Tryd.ntmps36
    go_wp2_with (first
      | (go_at_call 52; (with_reducible refine HF.out.mono ?_); rintro e w1 ⟨rfl, rfl⟩)
      | (go_at_call 54; (with_reducible refine HBy.out.mono ?_); rintro e w1 ⟨rfl, hb⟩)
      | (go_at_call 38; (with_reducible refine (HL.out _ (by assumption)).mono ?_); rintro e w2 hp; have hp2 := Hid.mk_ (hp.after hb); obtain ⟨rfl, _⟩ := hp))
    go_end0
    rw [E2.out]
    exact hp2.out
  · have hf2 : fitsB size n = false := by simpa using hf
    have e2 : r.num size n = r.lay [] 10 := by unfold Wr.num; rw [if_neg hf]
    rw [hf2] at HF
    have E2 := Hid.mk_ e2
    have HL := Hid.mk_ (h.wrong (n := 10) (by omega))
    clear h e2 hf hf2 h1 h2
    go_enter Tryd.func36, Tryd.ntmps36
    go_wp2_with (first
      | (go_at_call 52; (with_reducible refine HF.out.mono ?_); rintro e w1 ⟨rfl, rfl⟩)
      | (go_at_call 53; (with_reducible refine HL.out.mono ?_); rintro e w2 hp; have hp2 := Hid.mk_ hp; obtain ⟨rfl, _⟩ := hp))
    go_end0
    rw [E2.out]
    exact hp2.out
theorem xtext_w (h : XW w b r v) (s : List UInt8) (hlen : r.l.length + s.length ≤ 140737488355300) :
    Calls Tryd.prog 37 #[.pointer (some ⟨b, 0, none⟩), str s] w (XWPost w b v (r.text s)) := by
  by_cases hs : 65535 < s.length
  · have hs1 : (65535 : Int) < s.length := by omega
    have e2 : r.text s = r.lay [] 11 := by unfold Wr.text; rw [if_pos hs]
    have E2 := Hid.mk_ e2
    have HL := Hid.mk_ (h.wrong (n := 11) (by omega))
    clear h e2
    go_enter Tryd.func37, Tryd.ntmps37
    go_wp2_with (go_at_call 53; (with_reducible refine HL.out.mono ?_); rintro e w2 hp; have hp2 := Hid.mk_ hp; obtain ⟨rfl, _⟩ := hp)
    go_end0
    rw [E2.out]
    exact hp2.out
  · have hs1 : ¬ (65535 : Int) < s.length := by omega
    have e2 : r.text s = r.lay (byL 2 s.length ++ s) 0 := by unfold Wr.text; rw [if_neg hs]
    have E2 := Hid.mk_ e2
    have HBy := Hid.mk_ (show Calls Tryd.prog 54 #[.int .i64 2, .int .i64 (s.length : Int)] w _ from by_any 2 s.length (by omega) (by omega) w)
    have HL := Hid.mk_ (fun (W : World) (hW : Below w.heap.size w W) => xraw_w (h.new hW) (byL 2 s.length ++ s) (by rw [List.length_append, byL_length]; omega))
    have hcat := cat_l (byL 2 s.length) s
    have hbl := byL_length s.length 2
    obtain ⟨B2, hB2⟩ : ∃ B2, B2 = byL 2 s.length := ⟨_, rfl⟩
    rw [← hB2] at HBy HL hcat hbl
    have HB2 := Hid.mk_ hB2
    clear h e2 hB2
    go_enter Tryd.func37, Tryd.ntmps37
    go_wp2_with (first
      | (go_at_call 54; (with_reducible refine HBy.out.mono ?_); rintro e w1 ⟨rfl, hb⟩)
      | (go_at_call 38; (with_reducible refine (HL.out _ (by assumption)).mono ?_); rintro e w2 hp; have hp2 := Hid.mk_ (hp.after hb); obtain ⟨rfl, _⟩ := hp))
    go_end0
    rw [E2.out, ← HB2.out]
    exact hp2.out
theorem conv_nil (w : World) : (convert 40 9 (.slice none 0 0)).run Tryd.prog w = .ok (str []) w := by kernel_rfl
def XDonePost (w : World) (r : Wr) (e : Ending) (w' : World) : Prop := e = .returned (.tuple #[str r.done.1, .int .i64 r.done.2]) ∧ Below w.heap.size w w'
theorem xdone_w (h : XW w b r v) : Calls Tryd.prog 39 #[.pointer (some ⟨b, 0, none⟩)] w (XDonePost w r) := by
  have c0 := h.blk.cell 0
  have c2 := h.blk.cell 2
  have hl := h.blk.lt
  obtain ⟨e, hee⟩ : ∃ e, e = r.e := ⟨_, rfl⟩
  rw [← hee] at c2
  by_cases he : e = 0
  · subst he
    have e2 : r.done = (r.l, 0) := by unfold Wr.done; rw [if_neg (by simp [← hee])]
    have E2 := Hid.mk_ e2
    rcases h.own.2 with ⟨rfl, h0⟩ | ⟨g, cap, cur, fz, rfl, hbg, hg, _⟩
    · have hcv := conv_nil w
      have hl0 : r.l = [] := by simpa using h0
      have HL0 := Hid.mk_ hl0
      clear h e2 hee hl0 h0
      go_enter Tryd.func39, Tryd.ntmps39
      go_wp2_with fail
      go_ret2
      unfold XDonePost
      rw [E2.out]
      refine ⟨by rw [HL0.out]; rfl, Below.refl _ _⟩
    · have hcv := run_convert_bytes_back (P := Tryd.prog) w 40 9 5 ⟨g, 0, none⟩ cap r.l Tryd.underlying40 Tryd.underlying5 Tryd.underlying9 (fun j hj => h.own.cells (g := g) rfl j _ (by simp [Lib.byteCells, hj]))
      clear h e2 hee hg
      go_enter Tryd.func39, Tryd.ntmps39
      go_wp2_with fail
      go_ret2
      unfold XDonePost
      rw [E2.out]
      exact ⟨rfl, Below.refl _ _⟩
  · have e2 : r.done = ([], e) := by unfold Wr.done; rw [if_pos (by rw [← hee]; exact he), hee]
    have E2 := Hid.mk_ e2
    have t0 : (e != 0) = true := by simpa using he
    clear h e2 hee
    go_enter Tryd.func39, Tryd.ntmps39
    go_wp2_with fail
    go_big_quiet (fail)
    go_wp2_with fail
    go_ret2
    unfold XDonePost
    rw [E2.out]
    exact ⟨rfl, Drawn_below _ _⟩
theorem xnew_w (most : Int) (hm : i64 most) (hp : 0 < w.heap.size) : Calls Tryd.prog 14 #[.int .i64 most] w fun e w' => ∃ b, e = .returned (.pointer (some ⟨b, 0, none⟩)) ∧ XW w' b ⟨max most 0, [], 0⟩ (.slice none 0 0) ∧ b = w.heap.size ∧ Below w.heap.size w w' := by
  have h1 := hm.1
  have h2 := hm.2
  clear hm
  obtain ⟨m, hmm⟩ : ∃ m, m = max most 0 := ⟨_, rfl⟩
  rw [← hmm]
  have hm0 : 0 ≤ m := by omega
  have hm1 : m ≤ 9223372036854775807 := by omega
  have HM : Hid (∀ W : World, Blk W w.heap.size [.slice none 0 0, .int .i64 m, .int .i64 0] 78 → XW W w.heap.size ⟨m, [], 0⟩ (.slice none 0 0)) := fun W h => ⟨by simpa using h, ⟨rfl, .inl ⟨rfl, rfl⟩⟩, hm0, by simpa using hm1, hp, by simp [Value.ownBlock]⟩
  by_cases hc : most ≤ 0
  · have e : m = 0 := by omega
    subst e
    clear hmm hm0 hm1
    go_enter Tryd.func14, Tryd.ntmps14
    go_wp2_with fail
    all_goals first
      | (exfalso; omega)
      | (have e : most = 0 := by omega
         subst e
         go_ret
         exact ⟨_, rfl, HM.out _ (Blk.new w _ 78), rfl, (Below.refl _ _).alloc (Nat.le_refl _) _⟩)
      | (go_ret
         exact ⟨_, rfl, HM.out _ (Blk.new w _ 78), rfl, (Below.refl _ _).alloc (Nat.le_refl _) _⟩)
  · have e : m = most := by omega
    subst e
    clear hmm hm0 hm1
    go_enter Tryd.func14, Tryd.ntmps14
    go_wp2_with fail
    all_goals first
      | (exfalso; omega)
      | (go_ret
         exact ⟨_, rfl, HM.out _ (Blk.new w _ 78), rfl, (Below.refl _ _).alloc (Nat.le_refl _) _⟩)
theorem rnew_any (s : List UInt8) (hs : s.length ≤ 9223372036854775807) (hp : 0 < w.heap.size) : Calls Tryd.prog 19 #[str s] w fun e w' => ∃ b, e = .returned (.pointer (some ⟨b, 0, none⟩)) ∧ RP w' b ⟨s, 0⟩ .nilIface ∧ b = w.heap.size ∧ Below w.heap.size w w' := by
  go_enter Tryd.func19, Tryd.ntmps19
  go_wp2_with fail
  go_ret
  exact ⟨_, rfl, ⟨Blk.new w _ 80, .inl ⟨rfl, rfl⟩, hs, hp⟩, rfl, (Below.refl _ _).alloc (Nat.le_refl _) _⟩
theorem xnew_r (s : List UInt8) (hs : s.length ≤ 9223372036854775807) (hp : 0 < w.heap.size) : Calls Tryd.prog 20 #[str s] w fun e w' => ∃ b, e = .returned (.pointer (some ⟨b, 0, none⟩)) ∧ XP w' b ⟨s, 0⟩ ∧ b = w.heap.size ∧ Below w.heap.size w w' := by
  go_enter Tryd.func20, Tryd.ntmps20
  go_wp2_with fail
  go_ret
  exact ⟨_, rfl, ⟨Blk.new w _ 82, hs, hp⟩, rfl, (Below.refl _ _).alloc (Nat.le_refl _) _⟩
end
end Go.Proofs.YtdccgmfhnofabaaDoor
