/- The reader as it lies in memory: its calls walked. -/
import Derived.Test.YtdccgmfhnofabaaDoorC5
namespace Go.Proofs.YtdccgmfhnofabaaDoor
open Go.RowKit
set_option linter.unusedVariables false
set_option linter.unusedSimpArgs false
/-- the program's reader at block b -/
structure RP (w : World) (b : Nat) (r : Rd) (ev : Value) : Prop where
  blk : Blk w b [str r.s, ev] 80
  err : Er w r.e ev
  len : r.s.length ≤ 9223372036854775807
  b0 : 0 < b
/-- the document's -/
structure XP (w : World) (b : Nat) (r : Rd) : Prop where
  blk : Blk w b [str r.s, .int .i64 r.e] 82
  len : r.s.length ≤ 9223372036854775807
  b0 : 0 < b
/-- behind a call: the reader stands as the state says; nothing else has turned -/
def RPost (w : World) (b : Nat) (ev v : Value) (r : Rd) (e : Ending) (w' : World) : Prop := e = .returned v ∧ ∃ ev', RP w' b r ev' ∧ Mods (fun k => k = b) w w' ∧ ∀ g, errB ev' = some g → errB ev = some g ∨ w.heap.size ≤ g
def XPost (w : World) (b : Nat) (v : Value) (r : Rd) (e : Ending) (w' : World) : Prop := e = .returned v ∧ XP w' b r ∧ Mods (fun k => k = b) w w'
section
variable {w w' : World} {b : Nat} {r : Rd} {ev v : Value}
theorem RP.stay (h : RP w b r ev) (hb : Below w.heap.size w w') : RP w' b r ev := ⟨h.blk.below hb h.blk.lt, h.err.new hb, h.len, h.b0⟩
theorem RP.post (h : RP w b r ev) (hb : Below w.heap.size w w') : RPost w b ev v r (.returned v) w' := ⟨rfl, ev, h.stay hb, Mods.of_new hb, fun g hg => .inl hg⟩
theorem RP.e_ne (h : RP w b r ev) (he : r.e ≠ 0) : ∃ g, ev = .iface 93 (.pointer (some ⟨g, 0, none⟩)) ∧ Blk w g [.int .i64 r.e] 97 := by
  rcases h.err with h1 | ⟨_, h1⟩
  · exact absurd h1.1 he
  · exact h1
theorem RP.e_eq (h : RP w b r ev) (he : r.e = 0) : ev = .nilIface := by
  rcases h.err with h1 | h1
  · exact h1.2
  · exact absurd he h1.1
/-- fails, where nothing was wrong -/
theorem fails_ok (h : RP w b r ev) (he : r.e = 0) (n : Int) (hn : n ≠ 0) : Calls Tryd.prog 47 #[.pointer (some ⟨b, 0, none⟩), .int .i64 n] w (RPost w b ev (.tuple #[]) ⟨r.s, n⟩) := by
  have hev := h.e_eq he
  subst hev
  have c0 := h.blk.cell 0
  have c1 := h.blk.cell 1
  have f1 := h.blk.free 1
  have hl := h.blk.lt
  have HH := Hid.mk_ h
  have HN := Hid.mk_ hn
  clear h he hn
  go_enter Tryd.func47, Tryd.ntmps47
  go_wp2_with fail
  go_end0
  refine ⟨rfl, _, ⟨(HH.out.blk.set 1 _).alloc _, .inr ⟨HN.out, w.heap.size, rfl, ?_⟩, HH.out.len, HH.out.b0⟩, ((Mods.refl (fun k => k = b) w).setCell (p := ⟨b, 1, none⟩) (fun _ => rfl) _).alloc _, fun g hg => .inr (Nat.le_of_eq (Option.some.inj hg))⟩
  have := Blk.new (w.setCell ⟨b, 1, none⟩ (.iface 93 (.pointer (some ⟨w.heap.size, 0, none⟩)))) [.int .i64 n] 97
  rw [show (w.setCell ⟨b, 1, none⟩ (.iface 93 (.pointer (some ⟨w.heap.size, 0, none⟩)))).heap.size = w.heap.size by simp [World.setCell]] at this
  exact this
theorem number_l (l : List UInt8) (w : World) (hs : l.length ≤ 8) :
    Calls Tryd.prog 48 #[str l] w fun e w' => e = .returned (.tuple #[.int .i64 (wrap64 (numL l : Int)), .bool (decide (numL l ≤ 9223372036854775807))]) ∧ w = w' := by
  have h := number_any ⟨l.toArray⟩ w (by simpa [ByteArray.size] using hs)
  simpa using h
theorem said_l (l : List UInt8) (w : World) (hs : l.length ≤ 8) : Calls Tryd.prog 56 #[str l] w fun e w' => e = .returned (saidV (numL l)) ∧ w = w' := by
  have h := said_any ⟨l.toArray⟩ w (by simpa [ByteArray.size] using hs)
  simpa using h
theorem rleft_any (h : RP w b r ev) : Calls Tryd.prog 22 #[.pointer (some ⟨b, 0, none⟩)] w fun e w' => e = .returned (.int .i64 r.left) ∧ w = w' := by
  have c0 := h.blk.cell 0
  have c1 := h.blk.cell 1
  have hl := h.blk.lt
  have hlen := h.len
  by_cases he : r.e = 0
  · have hev := h.e_eq he
    subst hev
    have e2 : r.left = (r.s.length : Int) := by unfold Rd.left; rw [if_neg (by simp [he])]
    have E2 := Hid.mk_ e2
    clear h he e2
    go_enter Tryd.func22, Tryd.ntmps22
    go_wp2_with fail
    go_ret
    exact ⟨by rw [E2.out]; rfl, rfl⟩
  · obtain ⟨g, rfl, _⟩ := h.e_ne he
    have e2 : r.left = 0 := by unfold Rd.left; rw [if_pos he]
    have E2 := Hid.mk_ e2
    clear h he e2
    go_enter Tryd.func22, Tryd.ntmps22
    go_wp2_with fail
    go_ret
    exact ⟨by rw [E2.out]; rfl, rfl⟩
theorem rdone_any (hG : Glob w) (h : RP w b r ev) : Calls Tryd.prog 24 #[.pointer (some ⟨b, 0, none⟩)] w fun e w' => e = .returned (.int .i64 r.done) ∧ Below w.heap.size w w' := by
  have c0 := h.blk.cell 0
  have c1 := h.blk.cell 1
  have hl := h.blk.lt
  have hlen := h.len
  by_cases he : r.e = 0
  · have hev := h.e_eq he
    subst hev
    by_cases hs : r.s = []
    · have e2 : r.done = 0 := by unfold Rd.done; rw [if_neg (by simp [he]), if_pos hs]
      have E2 := Hid.mk_ e2
      rw [hs] at c0
      clear h he e2 hs
      go_enter Tryd.func24, Tryd.ntmps24
      go_wp2_with fail
      go_ret
      exact ⟨by rw [E2.out]; rfl, Below.refl _ _⟩
    · have e2 : r.done = 13 := by unfold Rd.done; rw [if_neg (by simp [he]), if_neg hs]
      have E2 := Hid.mk_ e2
      have t0 : (!r.s.isEmpty) = true := by simpa using hs
      clear h he e2
      go_enter Tryd.func24, Tryd.ntmps24
      go_wp2_with fail
      go_ret
      exact ⟨by rw [E2.out]; rfl, Below.refl _ _⟩
  · obtain ⟨g, rfl, hg⟩ := h.e_ne he
    have e2 : r.done = r.e := by unfold Rd.done; rw [if_pos he]
    have E2 := Hid.mk_ e2
    have HT := Hid.mk_ (told_any hG hg)
    clear h he e2 hG hg
    go_enter Tryd.func24, Tryd.ntmps24
    go_wp2_with (go_at_call 43; (with_reducible refine HT.out.mono ?_); rintro e w1 ⟨rfl, hb⟩)
    go_ret
    exact ⟨by rw [E2.out]; rfl, hb⟩
theorem rnum_any (h : RP w b r ev) (size : Int) : Calls Tryd.prog 30 #[.pointer (some ⟨b, 0, none⟩), .int .i64 size] w (RPost w b ev (.int .i64 (r.num size).1) (r.num size).2) := by
  have c0 := h.blk.cell 0
  have c1 := h.blk.cell 1
  have f0 := h.blk.free 0
  have hl := h.blk.lt
  have hlen := h.len
  have HH := Hid.mk_ h
  by_cases he : r.e = 0
  · have hev := h.e_eq he
    subst hev
    have HF := Hid.mk_ (fun n hn => fails_ok (w := w) h he n hn)
    by_cases h1 : size < 1 ∨ 8 < size
    · have e2 : r.num size = (0, ⟨r.s, 10⟩) := by unfold Rd.num; rw [if_neg (by simp [he]), if_pos h1]
      have E2 := Hid.mk_ e2
      have t0 : (decide (size < 1) || decide (8 < size)) = true := by simpa using h1
      clear h he e2 h1
      go_enter Tryd.func30, Tryd.ntmps30
      go_wp2_with (go_at_call 47; (with_reducible refine (HF.out 10 (by omega)).mono ?_); rintro e w1 ⟨rfl, ev', hr, hm⟩)
      all_goals (
        go_ret
        rw [E2.out]
        exact ⟨rfl, ev', hr, hm⟩)
    · have t0 : decide (size < 1) = false := decide_eq_false (fun e => h1 (.inl e))
      have t1 : decide (8 < size) = false := decide_eq_false (fun e => h1 (.inr e))
      obtain ⟨k, rfl⟩ : ∃ k : Nat, size = k := ⟨size.toNat, by omega⟩
      by_cases h2 : r.s.length < k
      · have e2 : r.num k = (0, ⟨r.s, 12⟩) := by unfold Rd.num; rw [if_neg (by simp [he]), if_neg h1, if_pos (by omega)]
        have E2 := Hid.mk_ e2
        have h3 : (r.s.length : Int) < k := by omega
        clear h he e2 h1
        go_enter Tryd.func30, Tryd.ntmps30
        go_wp2_with (go_at_call 47; (with_reducible refine (HF.out 12 (by omega)).mono ?_); rintro e w1 ⟨rfl, ev', hr, hm⟩)
        go_ret
        rw [E2.out]
        exact ⟨rfl, ev', hr, hm⟩
      · have hk : k ≤ 8 := by omega
        have hN := number_l (r.s.take k) w (by rw [List.length_take]; omega)
        have hx := extract_to r.s k
        have hy := extract_from r.s k
        have hkl : k ≤ r.s.length := by omega
        by_cases h4 : numL (r.s.take k) ≤ 9223372036854775807
        · have e2 : r.num k = ((numL (r.s.take k) : Int), ⟨r.s.drop k, 0⟩) := by unfold Rd.num; rw [if_neg (by simp [he]), if_neg h1, if_neg (by omega), if_neg (by rw [Int.toNat_natCast]; omega), Int.toNat_natCast]
          have hw : wrap64 (numL (r.s.take k) : Int) = (numL (r.s.take k) : Int) := by unfold wrap64; omega
          rw [decide_eq_true h4, hw] at hN
          obtain ⟨N, hNe⟩ : ∃ N : Nat, N = numL (r.s.take k) := ⟨_, rfl⟩
          rw [← hNe] at hN e2
          have HN := Hid.mk_ hN
          have E2 := Hid.mk_ e2
          clear h he e2 h1 h4 hN hw hNe
          go_enter Tryd.func30, Tryd.ntmps30
          go_wp2_with (go_at_call 48; (with_reducible refine HN.out.mono ?_); rintro e w' ⟨rfl, rfl⟩)
          go_ret
          rw [E2.out]
          refine ⟨rfl, _, ⟨HH.out.blk.set 0 _, .inl ⟨rfl, rfl⟩, by show (r.s.drop k).length ≤ _; rw [List.length_drop]; omega, HH.out.b0⟩, (Mods.refl (fun k => k = b) w).setCell (p := ⟨b, 0, none⟩) (fun _ => rfl) _, fun g hg => by simp [errB] at hg⟩
        · have e2 : r.num k = (0, ⟨r.s, 10⟩) := by unfold Rd.num; rw [if_neg (by simp [he]), if_neg h1, if_neg (by omega), if_pos (by rw [Int.toNat_natCast]; omega)]
          rw [decide_eq_false h4] at hN
          obtain ⟨N, hNe⟩ : ∃ N : Int, N = wrap64 (numL (r.s.take k) : Int) := ⟨_, rfl⟩
          rw [← hNe] at hN
          have HN := Hid.mk_ hN
          have E2 := Hid.mk_ e2
          clear h he e2 h1 h4 hN hNe
          go_enter Tryd.func30, Tryd.ntmps30
          go_wp2_with (first
            | (go_at_call 48; (with_reducible refine HN.out.mono ?_); rintro e w' ⟨rfl, rfl⟩)
            | (go_at_call 47; (with_reducible refine (HF.out 10 (by omega)).mono ?_); rintro e w1 ⟨rfl, ev', hr, hm⟩))
          go_ret
          rw [E2.out]
          exact ⟨rfl, ev', hr, hm⟩
  · obtain ⟨g, rfl, hg⟩ := h.e_ne he
    have e2 : r.num size = (0, r) := by unfold Rd.num; rw [if_pos he]
    have E2 := Hid.mk_ e2
    clear h he e2 hg
    go_enter Tryd.func30, Tryd.ntmps30
    go_wp2_with fail
    go_ret
    rw [E2.out]
    exact HH.out.post (Below.refl _ _)
theorem rraw_any (h : RP w b r ev) (n : Int) : Calls Tryd.prog 31 #[.pointer (some ⟨b, 0, none⟩), .int .i64 n] w (RPost w b ev (str (r.raw n).1) (r.raw n).2) := by
  have c0 := h.blk.cell 0
  have c1 := h.blk.cell 1
  have f0 := h.blk.free 0
  have hl := h.blk.lt
  have hlen := h.len
  have HH := Hid.mk_ h
  by_cases he : r.e = 0
  · have hev := h.e_eq he
    subst hev
    have HF := Hid.mk_ (fun n hn => fails_ok (w := w) h he n hn)
    by_cases h1 : n < 0
    · have e2 : r.raw n = ([], ⟨r.s, 10⟩) := by unfold Rd.raw; rw [if_neg (by simp [he]), if_pos h1]
      have E2 := Hid.mk_ e2
      clear h he e2
      go_enter Tryd.func31, Tryd.ntmps31
      go_wp2_with (go_at_call 47; (with_reducible refine (HF.out 10 (by omega)).mono ?_); rintro e w1 ⟨rfl, ev', hr, hm⟩)
      go_ret
      rw [E2.out]
      exact ⟨rfl, ev', hr, hm⟩
    · obtain ⟨k, rfl⟩ : ∃ k : Nat, n = k := ⟨n.toNat, by omega⟩
      by_cases h2 : r.s.length < k
      · have e2 : r.raw k = ([], ⟨r.s, 12⟩) := by unfold Rd.raw; rw [if_neg (by simp [he]), if_neg h1, if_pos (by omega)]
        have E2 := Hid.mk_ e2
        have h3 : (r.s.length : Int) < k := by omega
        clear h he e2 h1
        go_enter Tryd.func31, Tryd.ntmps31
        go_wp2_with (go_at_call 47; (with_reducible refine (HF.out 12 (by omega)).mono ?_); rintro e w1 ⟨rfl, ev', hr, hm⟩)
        go_ret
        rw [E2.out]
        exact ⟨rfl, ev', hr, hm⟩
      · have hx := extract_to r.s k
        have hy := extract_from r.s k
        have hkl : k ≤ r.s.length := by omega
        have e2 : r.raw k = (r.s.take k, ⟨r.s.drop k, 0⟩) := by unfold Rd.raw; rw [if_neg (by simp [he]), if_neg h1, if_neg (by omega), Int.toNat_natCast]
        have E2 := Hid.mk_ e2
        clear h he e2 h1
        go_enter Tryd.func31, Tryd.ntmps31
        go_wp2_with fail
        go_ret
        rw [E2.out]
        refine ⟨rfl, _, ⟨HH.out.blk.set 0 _, .inl ⟨rfl, rfl⟩, by show (r.s.drop k).length ≤ _; rw [List.length_drop]; omega, HH.out.b0⟩, (Mods.refl (fun k => k = b) w).setCell (p := ⟨b, 0, none⟩) (fun _ => rfl) _, fun g hg => by simp [errB] at hg⟩
  · obtain ⟨g, rfl, hg⟩ := h.e_ne he
    have e2 : r.raw n = ([], r) := by unfold Rd.raw; rw [if_pos he]
    have E2 := Hid.mk_ e2
    clear h he e2 hg
    go_enter Tryd.func31, Tryd.ntmps31
    go_wp2_with fail
    go_ret
    rw [E2.out]
    exact HH.out.post (Below.refl _ _)
theorem size_l (l : List UInt8) : (⟨l.toArray⟩ : ByteArray).size = l.length := by simp [ByteArray.size]
theorem slice_mid (l : List UInt8) (N : Nat) (h : 2 + N ≤ l.length) (w : World) : (Instr.slice 9 (str l) (some (.int .i64 2)) (some (.int .i64 (2 + (N : Int)))) none).run Tryd.prog w = .ok (str ((l.drop 2).take N)) w := by
  rw [run_slice_string w 9 ⟨l.toArray⟩ .i64 .i64 2 (2 + (N : Int)) Tryd.underlying9 (by omega) (by omega) (by rw [size_l]; omega)]
  rw [show (2 + (N : Int)).toNat = 2 + N by omega]
  show Result.ok (Value.string (ByteArray.extract ⟨l.toArray⟩ 2 (2 + N))) w = _
  rw [extract_list, List.drop_take, Nat.add_sub_cancel_left]
theorem slice_from (l : List UInt8) (N : Nat) (h : 2 + N ≤ l.length) (w : World) : (Instr.slice 9 (str l) (some (.int .i64 (2 + (N : Int)))) none none).run Tryd.prog w = .ok (str (l.drop (2 + N))) w := by
  rw [run_slice_string_l w 9 ⟨l.toArray⟩ Tryd.underlying9 .i64 (2 + (N : Int)) (by omega) (by rw [size_l]; omega)]
  rw [show (2 + (N : Int)).toNat = 2 + N by omega, size_l, extract_from]
set_option maxRecDepth 20000 in
set_option maxHeartbeats 1000000 in
theorem rtext_any (h : RP w b r ev) (most : Int) : Calls Tryd.prog 35 #[.pointer (some ⟨b, 0, none⟩), .int .i64 most] w (RPost w b ev (str (r.text most).1) (r.text most).2) := by
  have c0 := h.blk.cell 0
  have c1 := h.blk.cell 1
  have f0 := h.blk.free 0
  have hl := h.blk.lt
  have hlen := h.len
  have HH := Hid.mk_ h
  by_cases he : r.e = 0
  · have hev := h.e_eq he
    subst hev
    have HF := Hid.mk_ (fun n hn => fails_ok (w := w) h he n hn)
    by_cases h1 : r.s.length < 2
    · have e2 : r.text most = ([], ⟨r.s, 12⟩) := by unfold Rd.text; rw [if_neg (by simp [he]), if_pos h1]
      have E2 := Hid.mk_ e2
      have h3 : (r.s.length : Int) < 2 := by omega
      clear h he e2
      go_enter Tryd.func35, Tryd.ntmps35
      go_wp2_with (go_at_call 47; (with_reducible refine (HF.out 12 (by omega)).mono ?_); rintro e w1 ⟨rfl, ev', hr, hm⟩)
      go_ret
      rw [E2.out]
      exact ⟨rfl, ev', hr, hm⟩
    · have h3 : 2 ≤ r.s.length := by omega
      have hN := number_l (r.s.take 2) w (by rw [List.length_take]; omega)
      have hx := extract_to r.s 2
      have hN2 := num2_lt r.s
      obtain ⟨N, hNe⟩ : ∃ N : Nat, N = numL (r.s.take 2) := ⟨_, rfl⟩
      rw [← hNe] at hN hN2
      rw [show wrap64 (N : Int) = (N : Int) by unfold wrap64; omega] at hN
      have HN := Hid.mk_ hN
      by_cases h4 : most < (N : Int)
      · have e2 : r.text most = ([], ⟨r.s, 11⟩) := by unfold Rd.text; rw [if_neg (by simp [he]), if_neg h1, if_pos (by rw [← hNe]; exact h4)]
        have E2 := Hid.mk_ e2
        clear h he e2 hN hNe
        go_enter Tryd.func35, Tryd.ntmps35
        go_wp2_with (first
          | (go_at_call 48; (with_reducible refine HN.out.mono ?_); rintro e w' ⟨rfl, rfl⟩)
          | (go_at_call 47; (with_reducible refine (HF.out 11 (by omega)).mono ?_); rintro e w1 ⟨rfl, ev', hr, hm⟩))
        go_ret
        rw [E2.out]
        exact ⟨rfl, ev', hr, hm⟩
      · by_cases h5 : r.s.length - 2 < N
        · have e2 : r.text most = ([], ⟨r.s, 12⟩) := by unfold Rd.text; rw [if_neg (by simp [he]), if_neg h1, if_neg (by rw [← hNe]; exact h4), if_pos (by rw [← hNe]; exact h5)]
          have E2 := Hid.mk_ e2
          have h6 : (r.s.length : Int) - 2 < N := by omega
          clear h he e2 hN hNe
          go_enter Tryd.func35, Tryd.ntmps35
          go_wp2_with (first
            | (go_at_call 48; (with_reducible refine HN.out.mono ?_); rintro e w' ⟨rfl, rfl⟩)
            | (go_at_call 47; (with_reducible refine (HF.out 12 (by omega)).mono ?_); rintro e w1 ⟨rfl, ev', hr, hm⟩))
          go_ret
          rw [E2.out]
          exact ⟨rfl, ev', hr, hm⟩
        · have e2 : r.text most = ((r.s.drop 2).take N, ⟨r.s.drop (2 + N), 0⟩) := by unfold Rd.text; rw [if_neg (by simp [he]), if_neg h1, if_neg (by rw [← hNe]; exact h4), if_neg (by rw [← hNe]; exact h5), ← hNe]
          have E2 := Hid.mk_ e2
          have h6 : ¬ (r.s.length : Int) - 2 < N := by omega
          have h7 : 2 + N ≤ r.s.length := by omega
          have hy := slice_from r.s N h7
          have hz := slice_mid r.s N h7
          clear h he e2 hN hNe
          go_enter Tryd.func35, Tryd.ntmps35
          go_wp2_with (go_at_call 48; (with_reducible refine HN.out.mono ?_); rintro e w' ⟨rfl, rfl⟩)
          go_ret
          rw [E2.out]
          refine ⟨rfl, _, ⟨HH.out.blk.set 0 _, .inl ⟨rfl, rfl⟩, by show (r.s.drop (2 + N)).length ≤ _; rw [List.length_drop]; omega, HH.out.b0⟩, (Mods.refl (fun k => k = b) w).setCell (p := ⟨b, 0, none⟩) (fun _ => rfl) _, fun g hg => by simp [errB] at hg⟩
  · obtain ⟨g, rfl, hg⟩ := h.e_ne he
    have e2 : r.text most = ([], r) := by unfold Rd.text; rw [if_pos he]
    have E2 := Hid.mk_ e2
    clear h he e2 hg
    go_enter Tryd.func35, Tryd.ntmps35
    go_wp2_with fail
    go_ret
    rw [E2.out]
    exact HH.out.post (Below.refl _ _)
end
end Go.Proofs.YtdccgmfhnofabaaDoor
