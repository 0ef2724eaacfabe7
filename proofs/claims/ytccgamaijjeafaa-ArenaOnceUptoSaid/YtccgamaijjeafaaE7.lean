/- world.step: makes; Back. -/
import Derived.Test.YtccgamaijjeafaaE6
namespace Go.Proofs.Ytccgamaijjeafaa
open Go.RowKit
set_option linter.unusedVariables false
set_option linter.unusedSimpArgs false
section
variable {w w' w0 w1 w2 : World} {a b bw B : Nat} {S : List Int} {M : Int} {N : List Nd} {z : List Nat} {hd lv : Value} {es : List Value} {o : OpV}
/-- a step's parameters in their boxes -/
structure Boxed (w w1 : World) (a b bs bo : Nat) (o : OpV) : Prop where
  s : ∀ W, Below w1.heap.size w1 W → W.cell? ⟨bs, 0, none⟩ = some (.pointer (some ⟨a, 0, none⟩)) ∧ W.cell? ⟨bs, 1, none⟩ = some (.pointer (some ⟨b, 0, none⟩))
  o : ∀ W, Below w1.heap.size w1 W → W.cell? ⟨bo, 0, none⟩ = some (.bool o.other) ∧ W.cell? ⟨bo, 1, none⟩ = some (.bool o.near) ∧ W.cell? ⟨bo, 2, none⟩ = some (.int .i64 o.what) ∧ W.cell? ⟨bo, 3, none⟩ = some (.int .i64 o.n) ∧ W.cell? ⟨bo, 4, none⟩ = some (.slice o.A o.ks.length o.c)
  below : Below w.heap.size w w1
  new : w.heap.size ≤ bs ∧ w.heap.size ≤ bo ∧ bs < w1.heap.size ∧ bo < w1.heap.size
theorem Boxed.mk_ (w : World) (a b : Nat) (o : OpV) : Boxed w ((w.alloc (.cells #[.pointer (some ⟨a, 0, none⟩), .pointer (some ⟨b, 0, none⟩)] 34)).alloc (.cells #[.bool o.other, .bool o.near, .int .i64 o.what, .int .i64 o.n, .slice o.A o.ks.length o.c] 40)) a b w.heap.size (w.heap.size + 1) o := by
  have hb1 : Below w.heap.size w ((w.alloc (.cells #[.pointer (some ⟨a, 0, none⟩), .pointer (some ⟨b, 0, none⟩)] 34)).alloc (.cells #[.bool o.other, .bool o.near, .int .i64 o.what, .int .i64 o.n, .slice o.A o.ks.length o.c] 40)) := ((Below.refl _ _).alloc (Nat.le_refl _) _).alloc (by simp) _
  have hx2 := (Blk.new w [.pointer (some ⟨a, 0, none⟩), .pointer (some ⟨b, 0, none⟩)] 34).alloc (.cells #[.bool o.other, .bool o.near, .int .i64 o.what, .int .i64 o.n, .slice o.A o.ks.length o.c] 40)
  have hx3 := Blk.new (w.alloc (.cells #[.pointer (some ⟨a, 0, none⟩), .pointer (some ⟨b, 0, none⟩)] 34)) [.bool o.other, .bool o.near, .int .i64 o.what, .int .i64 o.n, .slice o.A o.ks.length o.c] 40
  rw [show (w.alloc (.cells #[.pointer (some ⟨a, 0, none⟩), .pointer (some ⟨b, 0, none⟩)] 34)).heap.size = w.heap.size + 1 by simp] at hx3
  refine ⟨fun W hW => ?_, fun W hW => ?_, hb1, by omega, by omega, hx2.lt, hx3.lt⟩
  · have h := hx2.below hW hx2.lt
    exact ⟨h.cell 0, h.cell 1⟩
  · have h := hx3.below hW hx3.lt
    exact ⟨h.cell 0, h.cell 1, h.cell 2, h.cell 3, h.cell 4⟩
set_option maxRecDepth 100000 in
theorem step_make (hB : B ≤ w.heap.size) (h : SideAt w a b S M N z) (hz : ∀ k ∈ z, B ≤ k) (ho : OpOk w B o) (hb : LBook w bw hd lv es) (hd0 : ∀ k ∈ z, ¬ bookZ bw lv k ∧ ¬ OwnB es k) (hw : o.what = 0 ∨ o.what = 1 ∨ o.what = 2 ∨ o.what = 3) :
    Calls Try.prog 8 #[.pointer (some ⟨bw, 0, none⟩), .agg #[.pointer (some ⟨a, 0, none⟩), .pointer (some ⟨b, 0, none⟩)], o.agg] w (LeftPost w a b S M z bw hd lv es) := by
  have hbx := Boxed.mk_ w a b o
  obtain ⟨ot, nr, wh, n, A, c, ks⟩ := o
  unfold OpV.agg
  simp only at hbx hw
  obtain ⟨w1, hw1⟩ : ∃ w1, w1 = (w.alloc (.cells #[.pointer (some ⟨a, 0, none⟩), .pointer (some ⟨b, 0, none⟩)] 34)).alloc (.cells #[.bool ot, .bool nr, .int .i64 wh, .int .i64 n, .slice A ks.length c] 40) := ⟨_, rfl⟩
  obtain ⟨bs, hbs⟩ : ∃ bs, bs = w.heap.size := ⟨_, rfl⟩
  obtain ⟨bo, hbo⟩ : ∃ bo, bo = w.heap.size + 1 := ⟨_, rfl⟩
  rw [← hw1, ← hbo, ← hbs] at hbx
  have HBX := Hid.mk_ hbx
  have HW1 := Hid.mk_ hw1
  have HBS := Hid.mk_ hbs
  have HBO := Hid.mk_ hbo
  have HMK := Hid.mk_ (makes_any (bw := bw) (o := ⟨ot, nr, wh, n, A, c, ks⟩) (Nat.le_trans hB hbx.below.size) (h.new hbx.below) hz (ho.new (hbx.below.mono hB)))
  unfold OpV.agg at HMK
  obtain ⟨x0, x1⟩ := hbx.s w1 (Below.refl _ _)
  obtain ⟨x2, x3, x4, x5, x6⟩ := hbx.o w1 (Below.refl _ _)
  have HH := Hid.mk_ h
  have HBK := Hid.mk_ hb
  have HD0 := Hid.mk_ hd0
  clear hbx hw1 hbs hbo h hz ho hb hd0 hB
  simp only at x2 x3 x4 x5 x6
  rcases hw with rfl | rfl | rfl | rfl
  all_goals (
    go_enter Try.func8, Try.ntmps8
    go_upto_region 1 with fail
    rw [← HBO.out, ← HBS.out, ← HW1.out]
    go_wp2_with (go_at_call 22; (with_reducible refine HMK.out.mono ?_); rintro e w2 ⟨rfl, N', hg⟩)
    go_ret
    exact ⟨rfl, Left.of_side HBX.out.below HD0.out HH.out.zlt HBK.out hg⟩)
theorem SideAt.len_q (h : SideAt w a b S M N z) (q : Nat) : Calls Try.prog 10 #[.pointer (some ⟨b, 0, none⟩)] (w.drewN q) fun e w'' => e = .returned (.int .i64 (N.length : Int)) ∧ ∃ m, w'' = w.drewN m := by
  obtain ⟨za, zx, h1, ⟨L, nv, sv, v, rows, cz, h2, rfl, rfl⟩, h3, h4⟩ := h.ex
  exact quietly q (len_ra (h2.quiet q))
theorem SideAt.back (h : SideAt w a b S M N z) (n : Int) {w1 : World} (hb : Below w.heap.size w w1) :
    Calls Try.prog 27 #[.pointer (some ⟨a, 0, none⟩), .int .i64 n] w1 fun e w2 => e = .returned (.int .i64 (backA N n).2) ∧ (∀ k, w.heap.size ≤ k → k < w1.heap.size → w2.heap[k]? = w1.heap[k]?) ∧ ∀ w3, Below w2.heap.size w2 w3 → Calls Try.prog 28 #[.pointer (some ⟨b, 0, none⟩), .int .i64 n] w3 fun e w4 => e = .returned (.int .i64 (backA N n).2) ∧ SideGrew w w4 a b S M (backA N n).1 z := by
  obtain ⟨za, zx, hP, hR, hd, hzz⟩ := h.ex
  have hP1 := hP.move hb.size (fun k hk => hb.block k (hP.zlt k hk))
  have hP1' := hP1
  obtain ⟨L, nv, sv, mb, cz, p, e1, e2⟩ := hP1'
  subst e1
  refine (back_pa p n).mono fun e w2 ⟨he, hg⟩ => ⟨he, fun k hk1 hk2 => ?_, fun w3 h3 => ?_⟩
  · obtain ⟨za', p2, m2, s2⟩ := hg
    exact m2.block k hk2 (fun e => by have := hP.zlt k (e2 ▸ e); omega)
  subst e2
  obtain ⟨za', p2, m2, s2⟩ := id hg
  have hs := hb.size
  have hR3 : RAt w3 b S M (nds L) zx := hR.move (by have := m2.size; have := h3.size; omega) (fun k hk => by
    have h5 := hR.zlt k hk
    rw [h3.block k (by have := m2.size; omega), m2.block k (by omega) (fun e => hd k e hk), hb.block k h5])
  have hR3' := hR3
  obtain ⟨L', nv', sv', v', rows', cz', r, e3, e4⟩ := hR3'
  have hb2 := back_ra r n
  rw [e3] at hb2
  rw [← e4] at hb2
  exact hb2.mono fun e w4 ⟨he4, hg4⟩ => ⟨he4, SideAt.both hP hR hd hzz hb hg h3 hg4⟩
set_option maxRecDepth 100000 in
set_option maxHeartbeats 2000000 in
theorem step_back (hB : B ≤ w.heap.size) (h : SideAt w a b S M N z) (ho : OpOk w B o) (hb : LBook w bw hd lv es) (hd0 : ∀ k ∈ z, ¬ bookZ bw lv k ∧ ¬ OwnB es k) (hw : o.what = 7) :
    Calls Try.prog 8 #[.pointer (some ⟨bw, 0, none⟩), .agg #[.pointer (some ⟨a, 0, none⟩), .pointer (some ⟨b, 0, none⟩)], o.agg] w (LeftPost w a b S M z bw hd lv es) := by
  have hbx := Boxed.mk_ w a b o
  have hn0 := ho.n0
  obtain ⟨ot, nr, wh, n, A, c, ks⟩ := o
  unfold OpV.agg
  simp only at hbx hw
  subst hw
  obtain ⟨w1, hw1⟩ : ∃ w1, w1 = (w.alloc (.cells #[.pointer (some ⟨a, 0, none⟩), .pointer (some ⟨b, 0, none⟩)] 34)).alloc (.cells #[.bool ot, .bool nr, .int .i64 7, .int .i64 n, .slice A ks.length c] 40) := ⟨_, rfl⟩
  obtain ⟨bs, hbs⟩ : ∃ bs, bs = w.heap.size := ⟨_, rfl⟩
  obtain ⟨bo, hbo⟩ : ∃ bo, bo = w.heap.size + 1 := ⟨_, rfl⟩
  rw [← hw1, ← hbo, ← hbs] at hbx
  have HBX := Hid.mk_ hbx
  have HW1 := Hid.mk_ hw1
  have HBS := Hid.mk_ hbs
  have HBO := Hid.mk_ hbo
  have HLQ := Hid.mk_ (fun q => (h.new hbx.below).len_q q)
  have HPQ := Hid.mk_ (fun q => pick_quiet (c := n) (n := 4) rfl (by omega) hn0 w1 q)
  have hpi := pickI_range n 4 (by omega)
  obtain ⟨pn, hpn⟩ : ∃ pn, pn = pickI n 4 := ⟨_, rfl⟩
  rw [← hpn] at HPQ hpi
  have hN := h.good.len2
  obtain ⟨Nl, hNl⟩ : ∃ l, l = N.length := ⟨_, rfl⟩
  rw [← hNl] at HLQ hN
  obtain ⟨x0, x1⟩ := hbx.s w1 (Below.refl _ _)
  obtain ⟨x2, x3, x4, x5, x6⟩ := hbx.o w1 (Below.refl _ _)
  have HH := Hid.mk_ h
  have HBK := Hid.mk_ hb
  have HD0 := Hid.mk_ hd0
  clear hbx hw1 hbs hbo h ho hb hd0 hB hpn hNl
  simp only at x2 x3 x4 x5 x6
  go_enter Try.func8, Try.ntmps8
  go_upto_region 1 with fail
  rw [← HBO.out, ← HBS.out, ← HW1.out]
  go_upto_if 109 with fail
  go_cut [7] from 108 to 117 (fun x7 wx => ∃ (m : Int) (q : Nat), x7 = .int .i64 m ∧ wx = w1.drewN q)
  case first =>
    cases nr with
    | true =>
      have hsub : IntKind.i64.wrap ((Nl : Int) - pn) = Nl - pn := by rw [IntKind.wrap_i64]; omega
      go_wp2_with fail
      go_big_quiet ((first | (go_at_call 11; with_reducible exact HPQ.out _) | (go_at_call 10; with_reducible exact HLQ.out _)))
      go_wp2_with fail
      all_goals (
        go_meet
        exact ⟨_, _, rfl, rfl⟩)
    | false =>
      go_wp2_with fail
      go_meet
      exact ⟨n, 0, rfl, rfl⟩
  case rest =>
    obtain ⟨m, q, rfl, hwc⟩ := hcut
    have hbw : Below w1.heap.size w1 wc := by rw [hwc]; exact Drawn_below _ _
    have hbwc : Below w.heap.size w wc := HBX.out.below.trans (hbw.mono HBX.out.below.size)
    have HBA := Hid.mk_ (HH.out.back m hbwc)
    obtain ⟨y0, y1⟩ := HBX.out.s wc hbw
    have HBWC := Hid.mk_ hbwc
    have HSP := Hid.mk_ (And.intro HBX.out.new (hbw.size))
    have HY1 := Hid.mk_ y1
    obtain ⟨r, hr⟩ : ∃ r, r = (backA N m).2 := ⟨_, rfl⟩
    rw [← hr] at HBA
    have t1 : (r == r) = true := by simp
    clear hwc hbw hbwc x0 x1 x2 x3 x4 x5 x6 HLQ HPQ hpi hr y1
    go_upto_region 21 with (go_at_call 27; (with_reducible refine HBA.out.mono ?_); rintro e w2 ⟨rfl, hk2, hnx⟩; have HNX := Hid.mk_ (hnx w2 (Below.refl _ _)); have HK2 := Hid.mk_ hk2; clear hnx hk2)
    have z1 : w2.cell? ⟨bs, 1, none⟩ = some (.pointer (some ⟨b, 0, none⟩)) := by
      obtain ⟨h1, h2⟩ := HSP.out
      exact (World.cell?_of_block (a := ⟨bs, 1, none⟩) (HK2.out bs h1.1 (by omega))).trans HY1.out
    go_wp2_with (go_at_call 28; (with_reducible refine HNX.out.mono ?_); rintro e w4 ⟨rfl, hg⟩)
    go_ret
    exact ⟨rfl, Left.of_side (Below.refl _ _) HD0.out HH.out.zlt HBK.out hg⟩
end
end Go.Proofs.Ytccgamaijjeafaa
