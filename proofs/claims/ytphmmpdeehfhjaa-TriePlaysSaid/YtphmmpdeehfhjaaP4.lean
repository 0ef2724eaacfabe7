/- The document's own trie: Put's walk. -/
import Derived.Test.YtphmmpdeehfhjaaP3
import Derived.Deep.CutBlock
namespace Go.Proofs.Ytphmmpdeehfhjaa
open Go.RowKit
set_option linter.unusedVariables false
set_option linter.unusedSimpArgs false
theorem row_reach {r : Row} (h : rightB r.a r.b = true) : 0 ≤ r.a ∧ r.a ≤ r.hi ∧ r.hi ≤ 4294967295 := by
  have hh : 0 ≤ r.b ∧ r.b ≤ 32 ∧ 0 ≤ r.a ∧ r.a ≤ 4294967295 ∧ r.a % 2 ^ (32 - r.b).toNat = 0 := of_decide_eq_true h
  obtain ⟨b0, b1, a0, a1, am⟩ := hh
  unfold Row.hi
  have e : (4294967296 : Int) = 2 ^ (32 - r.b).toNat * 2 ^ r.b.toNat := by
    rw [← pw_split]
    have : (32 - r.b).toNat + r.b.toNat = 32 := by omega
    rw [this]; rfl
  obtain ⟨q, hq⟩ := Int.dvd_of_emod_eq_zero am
  obtain ⟨S, hS⟩ : ∃ S : Int, S = 2 ^ (32 - r.b).toNat := ⟨_, rfl⟩
  obtain ⟨M, hM⟩ : ∃ M : Int, M = 2 ^ r.b.toNat := ⟨_, rfl⟩
  have hSp : 0 < S := hS ▸ pw_pos _
  rw [← hS] at hq e ⊢
  rw [← hM] at e
  have hqM : q < M := by
    by_cases h : q < M
    · exact h
    · have := Int.mul_le_mul_of_nonneg_left (show M ≤ q by omega) (Int.le_of_lt hSp)
      omega
  have := Int.mul_le_mul_of_nonneg_left (show q + 1 ≤ M by omega) (Int.le_of_lt hSp)
  rw [Int.mul_add] at this
  omega
theorem rput_no {p : Option Addr} {a b v : Int} (w : World) (h : rightB a b = false ∨ decide (0 ≤ v ∧ v ≤ 65535) = false) :
    Calls Try.prog 28 #[.pointer p, .agg #[.int .i64 a, .int .i64 b], .int .i64 v] w fun e w' => e = .returned (.int .i64 1) ∧ Below w.heap.size w w' := by
  cases hrb : rightB a b with
  | false =>
    have HRB := Hid.mk_ hrb
    clear h hrb
    go_enter Try.func28, Try.ntmps28
    go_wp2_with (first
      | (go_at_call 42; (with_reducible refine (rright_at HRB.out _).mono ?_); rintro e w1 ⟨rfl, hb1⟩)
      | (go_at_call 27; (with_reducible refine (rlabel_any _ _).mono ?_); rintro e w' ⟨rfl, rfl⟩))
    go_ret
    exact ⟨rfl, (((Below.refl _ _).alloc (Nat.le_refl _) _).trans (hb1.mono (by simp)))⟩
  | true =>
    have HRB := Hid.mk_ hrb
    have HLB := Hid.mk_ (h.resolve_left (by simp [hrb]))
    clear h hrb
    go_enter Try.func28, Try.ntmps28
    go_wp2_with (first
      | (go_at_call 42; (with_reducible refine (rright_at HRB.out _).mono ?_); rintro e w1 ⟨rfl, hb1⟩)
      | (go_at_call 27; (with_reducible refine (rlabel_at HLB.out _).mono ?_); rintro e w' ⟨rfl, rfl⟩))
    go_ret
    exact ⟨rfl, (((Below.refl _ _).alloc (Nat.le_refl _) _).trans (hb1.mono (by simp)))⟩
theorem with_drawn {base : Nat} {v : Value} {l : List Cut} {w1 wr : World} (c : Cut) (hown : OwnCuts base wr v l) (hB : Below base w1 wr) (hb : base ≤ wr.heap.size) (hn : l.length ≤ 4294967296) (m : Nat) :
    Calls Try.prog 44 #[v, .agg #[.int .i64 c.f, .int .i64 c.l]] (wr.drewN m) fun e w' => ∃ v', e = .returned v' ∧ OwnCuts base w' v' (withL l c) ∧ Below base w1 w' ∧ base ≤ w'.heap.size :=
  (with_step (wr := wr.drewN m) c (own_move hown (fun _ _ => rfl)) (hB.trans (Drawn_below _ _)) hb hn).mono fun e w' ⟨v', h1, h2, h3, h4⟩ => ⟨v', h1, h2, h3, Nat.le_trans hb h4⟩
theorem with_drew {base : Nat} {v : Value} {l : List Cut} {w1 wr : World} (c : Cut) (hown : OwnCuts base wr v l) (hB : Below base w1 wr) (hb : base ≤ wr.heap.size) (hn : l.length ≤ 4294967296) :
    Calls Try.prog 44 #[v, .agg #[.int .i64 c.f, .int .i64 c.l]] wr.drew fun e w' => ∃ v', e = .returned v' ∧ OwnCuts base w' v' (withL l c) ∧ Below base w1 w' ∧ base ≤ w'.heap.size := with_drawn c hown hB hb hn 1
theorem with_near {base : Nat} {v : Value} {l : List Cut} {w1 wr : World} (c : Cut) (hown : OwnCuts base wr v l) (hB : Below base w1 wr) (hb : base ≤ wr.heap.size) (hn : l.length ≤ 4294967296) :
    Calls Try.prog 44 #[v, .agg #[.int .i64 c.f, .int .i64 c.l]] wr fun e w' => ∃ v', e = .returned v' ∧ OwnCuts base w' v' (withL l c) ∧ Below base w1 w' ∧ base ≤ w'.heap.size :=
  (with_step c hown hB hb hn).mono fun e w' ⟨v', h1, h2, h3, h4⟩ => ⟨v', h1, h2, h3, Nat.le_trans hb h4⟩
set_option maxHeartbeats 8000000 in
set_option maxRecDepth 100000 in
theorem rput_yes {g : Int → Int} {l : List Cut} {w : World} {b : Nat} {fp : List Nat} {a bits v : Int} (h : Norm g l) (hR : RefAt w l b fp) (hr : rightB a bits = true) (hl : decide (0 ≤ v ∧ v ≤ 65535) = true) :
    Calls Try.prog 28 #[.pointer (some ⟨b, 0, none⟩), .agg #[.int .i64 a, .int .i64 bits], .int .i64 v] w (RPutPost w (putG g a (a + 2 ^ (32 - bits).toNat) v) b fp) := by
  obtain ⟨b0, b1, a0, a1, am⟩ : 0 ≤ bits ∧ bits ≤ 32 ∧ 0 ≤ a ∧ a ≤ 4294967295 ∧ a % 2 ^ (32 - bits).toNat = 0 := of_decide_eq_true hr
  have hend : a + 2 ^ (32 - bits).toNat ≤ 4294967296 := by have := (row_reach (r := ⟨a, bits, 0⟩) hr); simp only [Row.hi] at this; omega
  obtain ⟨S, hS⟩ : ∃ S : Int, S = 2 ^ (32 - bits).toNat := ⟨_, rfl⟩
  obtain ⟨S1, S2⟩ : 1 ≤ S ∧ S ≤ 4294967296 := by rw [hS]; exact pow_bits bits b0 b1
  rw [← hS] at hend ⊢
  have HSZ := Hid.mk_ (fun W n => rsize_quiet hS b0 b1 W n)
  have hwa : IntKind.i64.wrap (a + S) = a + S := by rw [IntKind.wrap_i64]; omega
  obtain ⟨en, hen⟩ : ∃ en, en = a + S := ⟨_, rfl⟩
  have hae : a < en := by omega
  rw [← hen] at hend ⊢
  have hwe : IntKind.i64.wrap (a + S) = en := by rw [hwa, hen]
  have hwe2 : a + S = en := hen.symm
  obtain ⟨gb, cap, c0, hown, hne, rfl, hblk⟩ := hR.cells h.ne
  have hbl : b < w.heap.size := hblk.lt
  have hgl : gb < w.heap.size := (hown.lt gb rfl).2
  have HRB := Hid.mk_ hr
  have HLB := Hid.mk_ hl
  have HR := Hid.mk_ hR
  have HN := Hid.mk_ h
  have HOWN := Hid.mk_ hown
  have HLL := Hid.mk_ h.len
  have hlen := h.ne
  have hlN := h.len
  obtain ⟨B, hB⟩ : ∃ B, B = w.heap.size + 1 := ⟨_, rfl⟩
  obtain ⟨bx, hbx⟩ : ∃ bx, bx = w.heap.size := ⟨_, rfl⟩
  have hBx : bx < B := by omega
  have hBL : ∀ W, Below B (w.alloc (.cells #[.int .i64 a, .int .i64 bits] 42)) W → Below w.heap.size w W := fun W hW => ((Below.refl _ _).alloc (Nat.le_refl _) _).trans (hW.mono (by omega))
  have hfacts : ∀ W, Below B (w.alloc (.cells #[.int .i64 a, .int .i64 bits] 42)) W → W.cell? ⟨b, 0, none⟩ = some (.slice (some ⟨gb, 0, none⟩) l.length cap) ∧ W.cell? ⟨bx, 0, none⟩ = some (.int .i64 a) ∧ W.cell? ⟨bx, 1, none⟩ = some (.int .i64 bits) ∧
      W.frozen? ⟨b, 0, none⟩ = false ∧ b < W.heap.size ∧ ∀ i (hi : i < l.length), W.cell? ⟨gb, i * 2, none⟩ = some (.int .i64 (l[i]'hi).f) ∧ W.cell? ⟨gb, i * 2 + 1, none⟩ = some (.int .i64 (l[i]'hi).l) := by
    intro W hW
    have h1 := hBL W hW
    have hx := (Blk.new w [.int .i64 a, .int .i64 bits] 42).below hW (by omega)
    rw [← hbx] at hx
    have h2 := hblk.below h1 hbl
    refine ⟨h2.cell 0, hx.cell 0, hx.cell 1, h2.free 0, h2.lt, fun i hi => ?_⟩
    obtain ⟨d0, d1⟩ := hown.cell i hi
    exact ⟨(h1.cell (p := ⟨gb, i * 2, none⟩) hgl).trans d0, (h1.cell (p := ⟨gb, i * 2 + 1, none⟩) hgl).trans d1⟩
  have hst : Below B (w.alloc (.cells #[.int .i64 a, .int .i64 bits] 42)) (w.alloc (.cells #[.int .i64 a, .int .i64 bits] 42)) := Below.refl _ _
  have hWs : B ≤ (w.alloc (.cells #[.int .i64 a, .int .i64 bits] 42)).heap.size := by simp; omega
  obtain ⟨w1, hw1⟩ : ∃ w1, w1 = w.alloc (.cells #[.int .i64 a, .int .i64 bits] 42) := ⟨_, rfl⟩
  have hws1 : w1.heap.size = B := by rw [hw1, World.size_alloc, hB]
  rw [← hw1] at hBL hfacts hst hWs
  have HBL := Hid.mk_ hBL
  have HF := Hid.mk_ hfacts
  have HW1 := Hid.mk_ hw1
  have HBX := Hid.mk_ hbx
  have HB := Hid.mk_ hB
  have hBs := hB
  clear hr hl hR h hown hBL hfacts hS hen hblk hB hw1 hbx am
  go_enter Try.func28, Try.ntmps28
  go_wp2_with (first
    | (go_at_call 42; (with_reducible refine (rright_at HRB.out _).mono ?_); rintro e w2 ⟨rfl, hb2⟩; rw [← HBX.out]; rw [← HW1.out] at hb2; have HB2 := Hid.mk_ (hst.trans (hb2.mono (by omega))); have hsz2 : B ≤ w2.heap.size := (by have := hb2.size; omega); obtain ⟨e0, e1, e2, _, _⟩ := HF.out w2 HB2.out; clear hb2)
    | (go_at_call 27; (with_reducible refine (rlabel_at HLB.out _).mono ?_); rintro e w' ⟨rfl, rfl⟩))
  go_big_quiet (first | (go_at_call 43; with_reducible exact HSZ.out _ _))
  have HB3 := Hid.mk_ (HB2.out.trans (Drawn_below w2 nq))
  obtain ⟨w3, hw3⟩ : ∃ w3, w3 = w2.drewN nq := ⟨_, rfl⟩
  have hsz3 : B ≤ w3.heap.size := by rw [hw3]; exact hsz2
  rw [← hw3] at HB3 ⊢
  clear hw3 e0 e1 e2 HB2 hsz2
  go_upto_block 0 with fail
  go_cut [10, 11] from 29 to 59 (fun x10 x11 wx => ∃ acc : List Cut, OwnCuts B wx x10 acc ∧ Hid (Part g acc a) ∧ Hid (Below B w1 wx) ∧ B ≤ wx.heap.size)
  case first =>
    go_wp2_with fail
    go_loopw [10, 11] (fun x10 x11 wr => RP1 B w1 g l a x10 x11 wr) (fun _ x _ => l.length - (intOf x).toNat)
    case atStart => exact ⟨0, [], Nat.zero_le _, rfl, World.ownsRow_nil _ _ _ _, by rw [nextF_in hlen, HN.out.first, Int.min_eq_left a0]; exact Part.nil g, HB3.out, hsz3⟩
    case round =>
      obtain ⟨i, acc, hil, rfl, hown, hpart, hBr, hBs⟩ := hrel
      obtain ⟨e0, e1, e2, e3, e4, e5⟩ := HF.out _ hBr
      have HE5 := Hid.mk_ e5
      have HOWNA := Hid.mk_ hown
      have HPART := Hid.mk_ hpart
      have HBR := Hid.mk_ hBr
      clear e5 hown hpart hBr
      by_cases hlt : i < l.length
      · have hlt1 : (i : Int) < l.length := by omega
        obtain ⟨d0, d1⟩ := HE5.out i hlt
        have hsp := fun (h : (l[i]'hlt).f < a) => put1_step HN.out hlt h HPART.out
        have hsq := fun (h : a ≤ (l[i]'hlt).f) => put1_end HPART.out (fun _ => h) a1
        have hal2 : acc.length ≤ 4294967296 := by have h1 := nextF_le HN.out i; have := HPART.out.len (by omega); omega
        obtain ⟨q, hq⟩ : ∃ q, q = l[i]'hlt := ⟨_, rfl⟩
        rw [← hq] at d0 d1 hsp hsq
        clear hq
        by_cases hqa : q.f < a
        · have HSP := Hid.mk_ (hsp hqa)
          have t0 : decide (q.f < a) = true := decide_eq_true hqa
          have t1 : decide ((i : Int) < l.length) = true := decide_eq_true hlt1
          have t1n : decide (i < l.length) = true := decide_eq_true hlt
          clear hsp hsq
          go_wp2_with fail
          go_big_quiet (fail)
          go_wp2_with (first | (go_at_call 44; go_loud ((with_reducible refine (with_drawn q HOWNA.out HBR.out hBs hal2 _).mono ?_)); rintro e w4 ⟨v4, rfl, hown4, hb4, hs4⟩))
          exact ⟨⟨i + 1, _, by omega, by go_num, hown4, HSP.out, hb4, by omega⟩, by simp [intOf]; omega⟩
        · have HSQ := Hid.mk_ (hsq (by omega))
          have t0 : decide (q.f < a) = false := decide_eq_false hqa
          have t1 : decide ((i : Int) < l.length) = true := decide_eq_true hlt1
          have t1n : decide (i < l.length) = true := decide_eq_true hlt
          clear hsp hsq
          go_wp2_with fail
          go_big_quiet (fail)
          go_wp2_with fail
          go_meet
          exact ⟨acc, own_move (w' := wr.drewN _) HOWNA.out (fun _ _ => rfl), HSQ, HBR.out.trans (Drawn_below _ _), hBs⟩
      · have hge : ¬ ((i : Int) < l.length) := by omega
        have HSQ := Hid.mk_ (put1_end HPART.out (fun h => absurd h hlt) a1)
        have t1 : decide ((i : Int) < l.length) = false := decide_eq_false hge
        have t1n : decide (i < l.length) = false := decide_eq_false hlt
        go_wp2_with fail
        go_big_quiet (fail)
        go_wp2_with fail
        go_meet
        exact ⟨acc, own_move (w' := wr.drewN _) HOWNA.out (fun _ _ => rfl), HSQ, HBR.out.trans (Drawn_below _ _), hBs⟩
  case rest =>
    obtain ⟨acc, hown3, HSQ, HBR, hBs⟩ := hcut
    obtain ⟨k0, k1, k2, _, _, _⟩ := HF.out _ HBR.out
    have HMID := Hid.mk_ (put_mid (e := en) (v := v) HSQ.out a0 hae)
    have hal5 : acc.length ≤ 4294967296 := by have := HSQ.out.len a0; omega
    have hal6 : (withL acc ⟨a, v⟩).length ≤ 4294967296 := by have := HMID.out.len (by omega); omega
    have HOWNA := Hid.mk_ hown3
    clear hown3
    go_upto_if 67 with (first | (go_at_call 44; (with_reducible refine (with_near ⟨a, v⟩ HOWNA.out HBR.out hBs hal5).mono ?_); rintro e w4 ⟨v4, rfl, hown4, hb4, hs4⟩; have HOWN4 := Hid.mk_ hown4; have HB4 := Hid.mk_ hb4; clear hown4 hb4))
    go_cut [10] from 66 to 81 (fun x10 wx => ∃ (acc : List Cut) (P : Nat → Int), OwnCuts B wx x10 acc ∧ Hid (Part (putG g a en v) acc (P 0)) ∧ Hid (Below B w1 wx) ∧ B ≤ wx.heap.size ∧
      Hid (∀ (i : Nat) (hi : i < l.length), en < (l[i]'hi).f → ∀ acc : List Cut, Part (putG g a en v) acc (P i) → Part (putG g a en v) (withL acc (l[i]'hi)) (P (i + 1))) ∧
      Hid (∀ (i : Nat) (hi : i < l.length), ¬ en < (l[i]'hi).f → P (i + 1) = P i) ∧ Hid (P l.length = 4294967296) ∧ Hid (∀ i, 0 ≤ P i ∧ P i ≤ 4294967296))
    case first =>
      by_cases hle : en ≤ 4294967295
      · obtain ⟨j, hj, hj1, hj2⟩ := HN.out.place (n := en) (by omega) hle
        have HLAST := Hid.mk_ (put_last (v := v) HN.out hj hj1 hj2 (by omega) HMID.out)
        have hF2 : ∀ W, Below B w1 W → W.cell? ⟨gb, j * 2 + 1, none⟩ = some (.int .i64 (l[j]'hj).l) := fun W hW => ((HF.out W hW).2.2.2.2.2 j hj).2
        have hof := fun W (hW : Below B w1 W) => of_at HN.out hj hj1 hj2 HLL.out (RefAt.new HR.out (HBL.out W hW))
        have HJ := Hid.mk_ (And.intro hj1 hj2)
        obtain ⟨y, hy⟩ : ∃ y, y = (l[j]'hj).l := ⟨_, rfl⟩
        rw [← hy] at HLAST hF2
        have HOF := Hid.mk_ hof
        have HF2 := Hid.mk_ hF2
        have hjl1 : (j : Int) < l.length := by omega
        obtain ⟨k0, k1, k2, k3, k4, k5⟩ := HF.out _ HB4.out
        have k6 := HF2.out _ HB4.out
        clear hF2 hof hy hj1 hj2 k5
        go_wp2_with fail
        go_region_held3 (fun w' => w'.cell? ⟨b, 0, none⟩ = some (.slice (some ⟨gb, 0, none⟩) l.length cap) ∧ w'.cell? ⟨gb, j * 2 + 1, none⟩ = some (.int .i64 y)) (first | exact ⟨k0, k6⟩ | assumption)
          (first | (go_at_call 45; (with_reducible refine (HOF.out w4.drew (HB4.out.trans (Drawn_below w4 1))).mono ?_); rintro e w' ⟨rfl, rfl⟩) | (go_at_call 44; (with_reducible refine (with_drew ⟨en, y⟩ HOWN4.out HB4.out hs4 hal6).mono ?_); rintro e w5 ⟨v5, rfl, hown5, hb5, hs5⟩; have hK := And.intro (HF.out w5 hb5).1 (HF2.out w5 hb5)))
        go_wp2_with fail
        go_meet
        refine ⟨_, fun i => if i ≤ j + 1 then nextF l (j + 1) else nextF l i, hown5, HLAST, hb5, hs5, ?_, ?_, ?_, ?_⟩
        · intro i hi h acc hp
          have h3 := put2_take HN.out hi hj HJ.out.1 h
          have e1 : (if i ≤ j + 1 then nextF l (j + 1) else nextF l i) = nextF l i := by split; rw [show i = j + 1 by omega]; rfl
          have e2 : (if i + 1 ≤ j + 1 then nextF l (j + 1) else nextF l (i + 1)) = nextF l (i + 1) := if_neg (by omega)
          have hp : Part (putG g a en v) acc (if i ≤ j + 1 then nextF l (j + 1) else nextF l i) := hp
          show Part (putG g a en v) (withL acc (l[i]'hi)) (if i + 1 ≤ j + 1 then nextF l (j + 1) else nextF l (i + 1))
          rw [e1] at hp
          rw [e2]
          exact put2_step HN.out hi h (by omega) hp
        · intro i hi h
          have h3 := put2_skip HN.out hi hj HJ.out.1 HJ.out.2 (by omega)
          show (if i + 1 ≤ j + 1 then nextF l (j + 1) else nextF l (i + 1)) = (if i ≤ j + 1 then nextF l (j + 1) else nextF l i)
          rw [if_pos (by omega), if_pos (by omega)]
        · show (if l.length ≤ j + 1 then nextF l (j + 1) else nextF l l.length) = _
          split
          · exact nextF_out (by omega)
          · exact nextF_out (by omega)
        · intro i
          show 0 ≤ (if i ≤ j + 1 then nextF l (j + 1) else nextF l i) ∧ (if i ≤ j + 1 then nextF l (j + 1) else nextF l i) ≤ 4294967296
          split
          · exact nextF_le HN.out _
          · exact nextF_le HN.out _
      · have HENE := Hid.mk_ (show en = 4294967296 by omega)
        go_wp2_with fail
        go_meet
        refine ⟨_, fun _ => 4294967296, HOWN4.out, ?_, HB4, hs4, ?_, fun _ _ _ => rfl, rfl, fun _ => show (0 : Int) ≤ 4294967296 ∧ (4294967296 : Int) ≤ 4294967296 from by decide⟩
        · have := HMID.out
          show Part (putG g a en v) (withL acc ⟨a, v⟩) 4294967296
          rw [HENE.out] at this ⊢
          exact this
        · intro i hi h
          have := (HN.out.part.lt _ (List.getElem_mem hi)).2
          have := HENE.out
          omega
    case rest =>
      obtain ⟨acc5, P, hown5, HP5, HB5, hs5, HSTEP, HSKIP, HFIN, HPLE⟩ := hcut
      have HOWN5 := Hid.mk_ hown5
      clear hown5
      go_wp2_with fail
      go_loopw [10, 12] (fun x10 x12 wr => RP2 B w1 (putG g a en v) l P x10 x12 wr) (fun _ x _ => l.length - (intOf x).toNat)
      case atStart => exact ⟨0, _, Nat.zero_le _, rfl, HOWN5.out, HP5.out, HB5.out, hs5⟩
      case round =>
        obtain ⟨i2, acc2, hil2, rfl, hown2, hpart2, hBr2, hBs2⟩ := hrel
        obtain ⟨e0, e1, e2, e3, e4, e5⟩ := HF.out _ hBr2
        by_cases hlt2 : i2 < l.length
        · have hlt3 : (i2 : Int) < l.length := by omega
          obtain ⟨d0, d1⟩ := e5 i2 hlt2
          have hsp := fun (h : en < (l[i2]'hlt2).f) => HSTEP.out i2 hlt2 h acc2 hpart2
          have hsk := fun (h : ¬ en < (l[i2]'hlt2).f) => HSKIP.out i2 hlt2 (by omega)
          have hal2 : acc2.length ≤ 4294967296 := by have := HPLE.out i2; have := hpart2.len this.1; omega
          obtain ⟨q, hq⟩ : ∃ q, q = l[i2]'hlt2 := ⟨_, rfl⟩
          rw [← hq] at d0 d1 hsp hsk
          have HOWN2 := Hid.mk_ hown2
          have HPART2 := Hid.mk_ hpart2
          have HBR2 := Hid.mk_ hBr2
          clear hq e5 hown2 hpart2 hBr2
          by_cases hqe : en < q.f
          · have HSP := Hid.mk_ (hsp hqe)
            clear hsp hsk
            go_wp2_with (first | (go_at_call 44; (with_reducible refine (with_near q HOWN2.out HBR2.out hBs2 hal2).mono ?_); rintro e w6 ⟨v6, rfl, hown6, hb6, hs6⟩))
            exact ⟨⟨i2 + 1, _, by omega, by go_num, hown6, HSP.out, hb6, hs6⟩, by simp [intOf]; omega⟩
          · have HSK := Hid.mk_ (hsk hqe)
            clear hsp hsk
            go_wp2_with fail
            exact ⟨⟨i2 + 1, _, by omega, by go_num, HOWN2.out, by rw [HSK.out]; exact HPART2.out, HBR2.out, hBs2⟩, by simp [intOf]; omega⟩
        · have hge2 : ¬ ((i2 : Int) < l.length) := by omega
          have hP : P i2 = 4294967296 := by rw [show i2 = l.length by omega]; exact HFIN.out
          rw [hP] at hpart2
          obtain ⟨A2, cp2, rfl⟩ := own_shape hown2
          have hst2 := HR.out.store (HBL.out _ hBr2) (by have h1 := HB.out; have h2 := HBX.out; omega) hown2 hpart2
          have HST2 := Hid.mk_ hst2
          clear hst2 hpart2 hBr2 hown2 e5
          go_wp2_with fail
          go_ret
          exact ⟨rfl, HST2.out⟩
end Go.Proofs.Ytphmmpdeehfhjaa
