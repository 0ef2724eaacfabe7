/- A step of two writers side by side; do they say the same. -/
import Derived.Test.YtdccgmfhnofabaaDoorE4
namespace Go.Proofs.YtdccgmfhnofabaaDoor
open Go.RowKit
set_option linter.unusedVariables false
set_option linter.unusedSimpArgs false
def Wr.step (r : Wr) (op : OpC) : Wr := if op.kind = 1 then r.num op.size op.n else if op.kind = 2 then r.text op.s else if op.kind = 3 then r.raw op.s else r
theorem lay_len (r : Wr) (s : List UInt8) (e : Int) : (r.lay s e).l.length ≤ r.l.length + s.length := by
  unfold Wr.lay
  split
  · omega
  · split
    · exact Nat.le_add_right _ _
    · split
      · exact Nat.le_add_right _ _
      · simp
theorem num_len (r : Wr) (size n : Int) : (r.num size n).l.length ≤ r.l.length + 8 := by
  unfold Wr.num
  split
  · rename_i h
    have := lay_len r (byL size.toNat n.toNat) 0
    rw [byL_length] at this
    have := fits_nat h
    omega
  · have := lay_len r [] 10
    simp at this
    omega
theorem step_len (r : Wr) (op : OpC) : (r.step op).l.length ≤ r.l.length + 100 + op.s.length := by
  unfold Wr.step
  split
  · have := num_len r op.size op.n; omega
  · split
    · unfold Wr.text
      split
      · have := lay_len r [] 11
        simp at this
        omega
      · have := lay_len r (byL 2 op.s.length ++ op.s) 0
        rw [List.length_append, byL_length] at this
        omega
    · split
      · have := lay_len r op.s 0
        unfold Wr.raw
        omega
      · omega
def BothW (w : World) (o : Nat → Nat) (i j b c : Nat) (r : Wr) : Prop := WSt w o i b r ∧ XWSt w o j c r
def WritesPost (w : World) (o : Nat → Nat) (i j b c : Nat) (r : Wr) (e : Ending) (w' : World) : Prop := e = .returned (.tuple #[]) ∧ ∃ o', Ch (fun x => x = i ∨ x = j) o o' w w' ∧ BothW w' o' i j b c r
section
variable {w w' : World} {o : Nat → Nat} {i j b c : Nat} {r : Wr} {op : OpC}
theorem WOp.then_x {r2 : Wr} {e : Ending} {w1 : World} (hij : i ≠ j) (hA : WOp w o i b r2 e w1) (hB : XWSt w o j c r) : XWSt w1 (upd o w.heap.size i) j c r := hB.other (Ne.symm hij) hA.2.2
theorem join_w {r2 : Wr} {e1 e2 : Ending} {w1 w2 : World} (hij : i ≠ j) (hA : WOp w o i b r2 e1 w1) (hB : XWOp w1 (upd o w.heap.size i) j c r2 e2 w2) : ∃ o', Ch (fun x => x = i ∨ x = j) o o' w w2 ∧ BothW w2 o' i j b c r2 :=
  ⟨_, (Ch.one hA.2.2).mono (fun _ e => .inl e) |>.trans ((Ch.one hB.2.2).mono (fun _ e => .inr e)), hA.2.1.other hij hB.2.2, hB.2.1⟩
set_option maxRecDepth 100000 in
set_option maxHeartbeats 4000000 in
theorem writes_st (hA : WSt w o i b r) (hB : XWSt w o j c r) (hij : i ≠ j) (hi8 : i ≠ 8) (ho : OpOk op) (hlen : r.l.length + op.s.length ≤ 140737488355300) :
    Calls Tryd.prog 16 #[.pointer (some ⟨b, 0, none⟩), .pointer (some ⟨c, 0, none⟩), op.agg] w (WritesPost w o i j b c (r.step op)) := by
  obtain ⟨w1, hw1⟩ : ∃ w1, w1 = w.alloc (.cells op.cells.toArray 36) := ⟨_, rfl⟩
  obtain ⟨o1, ho1⟩ : ∃ o1, o1 = upd o w.heap.size 8 := ⟨_, rfl⟩
  have hb1 : Below w.heap.size w w1 := by rw [hw1]; exact (Below.refl _ _).alloc (Nat.le_refl _) _
  have hk := Blk.new w op.cells 36
  rw [← hw1] at hk
  have hcf : ∀ P, Ch P o o1 w w1 := fun P => by rw [ho1]; exact Ch.fresh P 8 hb1
  have hne : ¬ o1 w.heap.size = i := by rw [ho1, upd_new (Nat.le_refl _)]; exact fun e => hi8 e.symm
  obtain ⟨ws, hws⟩ : ∃ ws, ws = w.heap.size := ⟨_, rfl⟩
  rw [← hws] at hk hne
  have HWS := Hid.mk_ hws
  have HNE := Hid.mk_ hne
  have HA := Hid.mk_ (hA.ch (hcf (fun _ => False)) id)
  have HB := Hid.mk_ (hB.ch (hcf (fun _ => False)) id)
  have HO := Hid.mk_ ho
  have HQ := Hid.mk_ (hcf (fun x => x = i ∨ x = j))
  have c0 := hk.cell 0
  have c2 := hk.cell 2
  have c3 := hk.cell 3
  have c4 := hk.cell 4
  have hkl := hk.lt
  have HFIN : Hid (∀ (r2 : Wr) e1 e2 W1 W2, WOp w1 o1 i b r2 e1 W1 → XWOp W1 (upd o1 w1.heap.size i) j c r2 e2 W2 → ∃ o', Ch (fun x => x = i ∨ x = j) o o' w W2 ∧ BothW W2 o' i j b c r2) := fun r2 e1 e2 W1 W2 h1 h2 => by
    obtain ⟨o', h3, h4⟩ := join_w hij h1 h2
    exact ⟨o', HQ.out.trans h3, h4⟩
  have HX : Hid (∀ (r2 : Wr) e1 W1, WOp w1 o1 i b r2 e1 W1 → XWSt W1 (upd o1 w1.heap.size i) j c r) := fun r2 e1 W1 h1 => WOp.then_x hij h1 HB.out
  obtain ⟨kd, on, sz, n, s⟩ := op
  simp only [OpC.cells] at c0 c2 c3 c4 hw1
  simp only at hlen
  have HW1 := Hid.mk_ hw1
  have HK := Hid.mk_ (show Blk w1 ws [.int .i64 kd, .int .i64 on, .int .i64 sz, .int .i64 n, str s] 36 from hk)
  unfold OpC.agg
  clear hA hB ho hb1 hw1 hk hcf hne hws ho1
  by_cases k1 : kd = 1
  · subst k1
    have E := Hid.mk_ (show r.step ⟨1, on, sz, n, s⟩ = r.num sz n from if_pos rfl)
    have H1 := Hid.mk_ (wnum_st HA.out sz n HO.out.size HO.out.n (by omega))
    go_enter Tryd.func16, Tryd.ntmps16
    go_upto_region 1 with fail
    rw [← HW1.out, ← HWS.out]
    go_upto_region 4 with (go_at_call 32; (with_reducible refine H1.out.mono ?_); rintro e W1 h1; have he := h1.1; subst he; have H1P := Hid.mk_ h1; clear h1)
    have hk2 := HK.out.mods H1P.out.2.2 HNE.out
    have hkl2 := hk2.lt
    have d2 := hk2.cell 2
    have d3 := hk2.cell 3
    have H2 := Hid.mk_ (xnum_st (HX.out _ _ _ H1P.out) sz n HO.out.size HO.out.n (by omega))
    clear hk2
    go_wp2_with (go_at_call 36; (with_reducible refine H2.out.mono ?_); rintro e W2 h2; have he := h2.1; subst he; have H2P := Hid.mk_ h2; clear h2)
    go_end0
    rw [E.out]
    exact ⟨rfl, HFIN.out _ _ _ _ _ H1P.out H2P.out⟩
  by_cases k2 : kd = 2
  · subst k2
    have E := Hid.mk_ (show r.step ⟨2, on, sz, n, s⟩ = r.text s from by unfold Wr.step; rw [if_neg (by simp), if_pos rfl])
    have H1 := Hid.mk_ (wtext_st HA.out s hlen)
    go_enter Tryd.func16, Tryd.ntmps16
    go_upto_region 1 with fail
    rw [← HW1.out, ← HWS.out]
    go_upto_region 7 with (go_at_call 33; (with_reducible refine H1.out.mono ?_); rintro e W1 h1; have he := h1.1; subst he; have H1P := Hid.mk_ h1; clear h1)
    have hk2 := HK.out.mods H1P.out.2.2 HNE.out
    have hkl2 := hk2.lt
    have d4 := hk2.cell 4
    have H2 := Hid.mk_ (xtext_st (HX.out _ _ _ H1P.out) s hlen)
    clear hk2
    go_wp2_with (go_at_call 37; (with_reducible refine H2.out.mono ?_); rintro e W2 h2; have he := h2.1; subst he; have H2P := Hid.mk_ h2; clear h2)
    go_end0
    rw [E.out]
    exact ⟨rfl, HFIN.out _ _ _ _ _ H1P.out H2P.out⟩
  by_cases k3 : kd = 3
  · subst k3
    have E := Hid.mk_ (show r.step ⟨3, on, sz, n, s⟩ = r.raw s from by unfold Wr.step; rw [if_neg (by simp), if_neg (by simp), if_pos rfl])
    have H1 := Hid.mk_ (wraw_st HA.out s (by omega))
    go_enter Tryd.func16, Tryd.ntmps16
    go_upto_region 1 with fail
    rw [← HW1.out, ← HWS.out]
    go_upto_region 10 with (go_at_call 34; (with_reducible refine H1.out.mono ?_); rintro e W1 h1; have he := h1.1; subst he; have H1P := Hid.mk_ h1; clear h1)
    have hk2 := HK.out.mods H1P.out.2.2 HNE.out
    have hkl2 := hk2.lt
    have d4 := hk2.cell 4
    have H2 := Hid.mk_ ((show Calls Tryd.prog 38 #[.pointer (some ⟨c, 0, none⟩), str s] W1 (XWOp W1 (upd o1 w1.heap.size i) j c (r.raw s)) from xraw_st (HX.out _ _ _ H1P.out) s (by omega)))
    clear hk2
    go_wp2_with (go_at_call 38; (with_reducible refine H2.out.mono ?_); rintro e W2 h2; have he := h2.1; subst he; have H2P := Hid.mk_ h2; clear h2)
    go_end0
    rw [E.out]
    exact ⟨rfl, HFIN.out _ _ _ _ _ H1P.out H2P.out⟩
  · have E := Hid.mk_ (show r.step ⟨kd, on, sz, n, s⟩ = r from by unfold Wr.step; rw [if_neg k1, if_neg k2, if_neg k3])
    have t1 : (kd == 1) = false := by simpa using k1
    have t2 : (kd == 2) = false := by simpa using k2
    have t3 : (kd == 3) = false := by simpa using k3
    clear k1 k2 k3
    go_enter Tryd.func16, Tryd.ntmps16
    go_upto_region 1 with fail
    rw [← HW1.out, ← HWS.out]
    go_wp2_with fail
    go_end0
    rw [E.out]
    exact ⟨rfl, o1, HQ.out, HA.out, HB.out⟩
def WrittenPost (w : World) (o : Nat → Nat) (i j b c : Nat) (r : Wr) (e : Ending) (w' : World) : Prop := e = .returned (.bool true) ∧ ∃ o', Ch (fun x => x = i ∨ x = j) o o' w w' ∧ BothW w' o' i j b c r
theorem written_st (hG : Glob w) (hA : WSt w o i b r) (hB : XWSt w o j c r) (hij : i ≠ j) : Calls Tryd.prog 17 #[.pointer (some ⟨b, 0, none⟩), .pointer (some ⟨c, 0, none⟩)] w (WrittenPost w o i j b c r) := by
  have H1 := Hid.mk_ (wdone_st hG hA)
  have HB := Hid.mk_ hB
  have t2 : (r.done.2 == r.done.2) = true := by simp
  obtain ⟨d1, hd1⟩ : ∃ d, d = r.done.1 := ⟨_, rfl⟩
  obtain ⟨d2, hd2⟩ : ∃ d, d = r.done.2 := ⟨_, rfl⟩
  unfold WDone at H1
  have H2 : Hid (∀ W O, XWSt W O j c r → Calls Tryd.prog 39 #[.pointer (some ⟨c, 0, none⟩)] W fun e w' => e = .returned (.tuple #[str d1, .int .i64 d2]) ∧ Below W.heap.size W w') := fun W O h => by rw [hd1, hd2]; exact xdone_st h
  rw [← hd1] at H1
  rw [← hd2] at t2 H1
  clear hd1 hd2 hA hB hG
  go_enter Tryd.func17, Tryd.ntmps17
  go_upto_region 2 with (go_at_call 27; (with_reducible refine H1.out.mono ?_); rintro e W1 ⟨rfl, h1, hm⟩)
  have hx := HB.out.other (Ne.symm hij) hm
  have H3 := Hid.mk_ (H2.out _ _ hx)
  have HP := Hid.mk_ h1
  have HXX := Hid.mk_ hx
  have HM := Hid.mk_ hm
  clear hx h1 hm
  go_wp2_with (go_at_call 39; (with_reducible refine H3.out.mono ?_); rintro e W2 ⟨rfl, hb⟩)
  go_ret
  exact ⟨rfl, _, ((Ch.one HM.out).mono (fun _ e => .inl e)).trans (Ch.quiet _ hb), HP.out.new hb, HXX.out.new hb⟩
end
end Go.Proofs.YtdccgmfhnofabaaDoor
