/- CodecReads: a step of two readers side by side; the walk. -/
import Derived.Test.YtdccgmfhnofabaaDoorE6
namespace Go.Proofs.YtdccgmfhnofabaaDoor
open Go.RowKit
set_option linter.unusedVariables false
set_option linter.unusedSimpArgs false
def Rd.step (r : Rd) (op : OpC) : Rd := if op.kind = 1 then (r.num op.size).2 else if op.kind = 2 then (r.text op.n).2 else if op.kind = 3 then (r.raw op.n).2 else r
def BothR (w : World) (o : Nat → Nat) (i j b c : Nat) (r : Rd) : Prop := RSt w o i b r ∧ XSt w o j c r
def ReadsPost (w : World) (o : Nat → Nat) (i j b c : Nat) (r : Rd) (e : Ending) (w' : World) : Prop := e = .returned (.bool true) ∧ ∃ o', Ch (fun x => x = i ∨ x = j) o o' w w' ∧ BothR w' o' i j b c r
section
variable {w w' : World} {o : Nat → Nat} {i j b c : Nat} {r : Rd} {op : OpC}
theorem join_r {v1 v2 : Value} {r2 : Rd} {e1 e2 : Ending} {w1 w2 : World} (hij : i ≠ j) (hA : ROp w o i b v1 r2 e1 w1) (hB : XOp w1 (upd o w.heap.size i) j c v2 r2 e2 w2) : ∃ o', Ch (fun x => x = i ∨ x = j) o o' w w2 ∧ BothR w2 o' i j b c r2 :=
  ⟨_, (Ch.one hA.2.2).mono (fun _ e => .inl e) |>.trans ((Ch.one hB.2.2).mono (fun _ e => .inr e)), hA.2.1.other hij hB.2.2, hB.2.1⟩
set_option maxRecDepth 100000 in
set_option maxHeartbeats 4000000 in
theorem reads_st (hA : RSt w o i b r) (hB : XSt w o j c r) (hij : i ≠ j) (hi8 : i ≠ 8) :
    Calls Tryd.prog 21 #[.pointer (some ⟨b, 0, none⟩), .pointer (some ⟨c, 0, none⟩), op.agg] w (ReadsPost w o i j b c (r.step op)) := by
  obtain ⟨w1, hw1⟩ : ∃ w1, w1 = w.alloc (.cells op.cells.toArray 36) := ⟨_, rfl⟩
  obtain ⟨o1, ho1⟩ : ∃ o1, o1 = upd o w.heap.size 8 := ⟨_, rfl⟩
  have hb1 : Below w.heap.size w w1 := by rw [hw1]; exact (Below.refl _ _).alloc (Nat.le_refl _) _
  have hk := Blk.new w op.cells 36
  rw [← hw1] at hk
  have hcf : ∀ P, Ch P o o1 w w1 := fun P => by rw [ho1]; exact Ch.fresh P 8 hb1
  have hne : ¬ o1 w.heap.size = i := by rw [ho1, upd_new (Nat.le_refl _)]; exact fun e => hi8 e.symm
  obtain ⟨ws, hws⟩ : ∃ ws, ws = w.heap.size := ⟨_, rfl⟩
  rw [← hws] at hk hne
  have HWS := Hid.mk_ hws
  have HNE := Hid.mk_ hne
  have HA := Hid.mk_ (hA.ch (hcf (fun _ => False)) id)
  have HB := Hid.mk_ (hB.ch (hcf (fun _ => False)) id)
  have HQ := Hid.mk_ (hcf (fun x => x = i ∨ x = j))
  have c0 := hk.cell 0
  have c2 := hk.cell 2
  have c3 := hk.cell 3
  have hkl := hk.lt
  have HFIN : Hid (∀ (v1 v2 : Value) (r2 : Rd) e1 e2 W1 W2, ROp w1 o1 i b v1 r2 e1 W1 → XOp W1 (upd o1 w1.heap.size i) j c v2 r2 e2 W2 → ∃ o', Ch (fun x => x = i ∨ x = j) o o' w W2 ∧ BothR W2 o' i j b c r2) := fun v1 v2 r2 e1 e2 W1 W2 h1 h2 => by
    obtain ⟨o', h3, h4⟩ := join_r hij h1 h2
    exact ⟨o', HQ.out.trans h3, h4⟩
  have HX : Hid (∀ (v1 : Value) (r2 : Rd) e1 W1, ROp w1 o1 i b v1 r2 e1 W1 → XSt W1 (upd o1 w1.heap.size i) j c r) := fun v1 r2 e1 W1 h1 => HB.out.other (Ne.symm hij) h1.2.2
  obtain ⟨kd, on, sz, n, s⟩ := op
  simp only [OpC.cells] at c0 c2 c3 hw1
  have HW1 := Hid.mk_ hw1
  have HK := Hid.mk_ (show Blk w1 ws [.int .i64 kd, .int .i64 on, .int .i64 sz, .int .i64 n, str s] 36 from hk)
  unfold OpC.agg
  clear hA hB hb1 hw1 hk hcf hne hws ho1
  by_cases k1 : kd = 1
  · subst k1
    have E := Hid.mk_ (show r.step ⟨1, on, sz, n, s⟩ = (r.num sz).2 from if_pos rfl)
    obtain ⟨v, hv⟩ : ∃ v, v = (r.num sz).1 := ⟨_, rfl⟩
    have H1 := Hid.mk_ (rnum_st HA.out sz)
    have HXC : Hid (∀ W O, XSt W O j c r → Calls Tryd.prog 40 #[.pointer (some ⟨c, 0, none⟩), .int .i64 sz] W (XOp W O j c (.int .i64 v) (r.num sz).2)) := fun W O h => by rw [hv]; exact xnumr_st h sz
    rw [← hv] at H1
    have t1 : (v == v) = true := by simp
    clear hv
    go_enter Tryd.func21, Tryd.ntmps21
    go_upto_region 1 with fail
    rw [← HW1.out, ← HWS.out]
    go_upto_region 4 with (go_at_call 30; (with_reducible refine H1.out.mono ?_); rintro e W1 h1; have he := h1.1; subst he; have H1P := Hid.mk_ h1; clear h1)
    have hk2 := HK.out.mods H1P.out.2.2 HNE.out
    have hkl2 := hk2.lt
    have d2 := hk2.cell 2
    have H2 := Hid.mk_ (HXC.out _ _ (HX.out _ _ _ _ H1P.out))
    clear hk2
    go_wp2_with (go_at_call 40; (with_reducible refine H2.out.mono ?_); rintro e W2 h2; have he := h2.1; subst he; have H2P := Hid.mk_ h2; clear h2)
    go_ret
    rw [E.out]
    exact ⟨rfl, HFIN.out _ _ _ _ _ _ _ H1P.out H2P.out⟩
  by_cases k2 : kd = 2
  · subst k2
    have E := Hid.mk_ (show r.step ⟨2, on, sz, n, s⟩ = (r.text n).2 from by unfold Rd.step; rw [if_neg (by simp), if_pos rfl])
    obtain ⟨v, hv⟩ : ∃ v, v = (r.text n).1 := ⟨_, rfl⟩
    have H1 := Hid.mk_ (rtext_st HA.out n)
    have HXC : Hid (∀ W O, XSt W O j c r → Calls Tryd.prog 41 #[.pointer (some ⟨c, 0, none⟩), .int .i64 n] W (XOp W O j c (str v) (r.text n).2)) := fun W O h => by rw [hv]; exact xtextr_st h n
    rw [← hv] at H1
    have t1 : (v == v) = true := by simp
    clear hv
    go_enter Tryd.func21, Tryd.ntmps21
    go_upto_region 1 with fail
    rw [← HW1.out, ← HWS.out]
    go_upto_region 7 with (go_at_call 35; (with_reducible refine H1.out.mono ?_); rintro e W1 h1; have he := h1.1; subst he; have H1P := Hid.mk_ h1; clear h1)
    have hk2 := HK.out.mods H1P.out.2.2 HNE.out
    have hkl2 := hk2.lt
    have d3 := hk2.cell 3
    have H2 := Hid.mk_ (HXC.out _ _ (HX.out _ _ _ _ H1P.out))
    clear hk2
    go_wp2_with (go_at_call 41; (with_reducible refine H2.out.mono ?_); rintro e W2 h2; have he := h2.1; subst he; have H2P := Hid.mk_ h2; clear h2)
    go_ret
    rw [E.out]
    exact ⟨rfl, HFIN.out _ _ _ _ _ _ _ H1P.out H2P.out⟩
  by_cases k3 : kd = 3
  · subst k3
    have E := Hid.mk_ (show r.step ⟨3, on, sz, n, s⟩ = (r.raw n).2 from by unfold Rd.step; rw [if_neg (by simp), if_neg (by simp), if_pos rfl])
    obtain ⟨v, hv⟩ : ∃ v, v = (r.raw n).1 := ⟨_, rfl⟩
    have H1 := Hid.mk_ (rraw_st HA.out n)
    have HXC : Hid (∀ W O, XSt W O j c r → Calls Tryd.prog 42 #[.pointer (some ⟨c, 0, none⟩), .int .i64 n] W (XOp W O j c (str v) (r.raw n).2)) := fun W O h => by rw [hv]; exact xrawr_st h n
    rw [← hv] at H1
    have t1 : (v == v) = true := by simp
    clear hv
    go_enter Tryd.func21, Tryd.ntmps21
    go_upto_region 1 with fail
    rw [← HW1.out, ← HWS.out]
    go_upto_region 10 with (go_at_call 31; (with_reducible refine H1.out.mono ?_); rintro e W1 h1; have he := h1.1; subst he; have H1P := Hid.mk_ h1; clear h1)
    have hk2 := HK.out.mods H1P.out.2.2 HNE.out
    have hkl2 := hk2.lt
    have d3 := hk2.cell 3
    have H2 := Hid.mk_ (HXC.out _ _ (HX.out _ _ _ _ H1P.out))
    clear hk2
    go_wp2_with (go_at_call 42; (with_reducible refine H2.out.mono ?_); rintro e W2 h2; have he := h2.1; subst he; have H2P := Hid.mk_ h2; clear h2)
    go_ret
    rw [E.out]
    exact ⟨rfl, HFIN.out _ _ _ _ _ _ _ H1P.out H2P.out⟩
  · have E := Hid.mk_ (show r.step ⟨kd, on, sz, n, s⟩ = r from by unfold Rd.step; rw [if_neg k1, if_neg k2, if_neg k3])
    have t1 : (kd == 1) = false := by simpa using k1
    have t2 : (kd == 2) = false := by simpa using k2
    have t3 : (kd == 3) = false := by simpa using k3
    clear k1 k2 k3
    go_enter Tryd.func21, Tryd.ntmps21
    go_upto_region 1 with fail
    rw [← HW1.out, ← HWS.out]
    go_wp2_with fail
    go_ret
    rw [E.out]
    exact ⟨rfl, o1, HQ.out, HA.out, HB.out⟩
end
end Go.Proofs.YtdccgmfhnofabaaDoor
