/- The document's writer as it lies in memory: its calls walked. -/
import Derived.Test.YtdccgmfhnofabaaDoorD2
namespace Go.Proofs.YtdccgmfhnofabaaDoor
open Go.RowKit
set_option linter.unusedVariables false
set_option linter.unusedSimpArgs false
structure XW (w : World) (b : Nat) (r : Wr) (v : Value) : Prop where
  blk : Blk w b [v, .int .i64 (r.room + r.l.length), .int .i64 r.e] 78
  own : w.ownsRowF 0 5 1 v r.l.length (Lib.byteCells r.l)
  room0 : 0 ≤ r.room
  room1 : r.room + r.l.length ≤ 9223372036854775807
  b0 : 0 < b
  own0 : ∀ k, v.ownBlock = some k → 0 < k
def XWPost (w : World) (b : Nat) (v : Value) (r : Wr) (e : Ending) (w' : World) : Prop :=
  e = .returned (.tuple #[]) ∧ ∃ v', XW w' b r v' ∧ Mods (zW b v) w w' ∧ ∀ k, zW b v' k → zW b v k ∨ w.heap.size ≤ k
def Wr.fail (r : Wr) (n : Int) : Wr := if r.e = 0 then ⟨r.room, r.l, n⟩ else r
section
variable {w w' w1 : World} {b : Nat} {r : Wr} {v : Value} {l s : List UInt8}
theorem XW.lt (h : XW w b r v) : ∀ k, zW b v k → k < w.heap.size := fun k hk => by
  rcases hk with rfl | hk
  · exact h.blk.lt
  · exact (h.own.lt k hk).2
theorem XW.pos (h : XW w b r v) : ∀ k, zW b v k → 0 < k := fun k hk => by
  rcases hk with rfl | hk
  · exact h.b0
  · exact h.own0 k hk
theorem XW.move (h : XW w b r v) (hm : ∀ k, zW b v k → w'.heap[k]? = w.heap[k]?) : XW w' b r v :=
  ⟨h.blk.move (hm b (.inl rfl)), ownF_move h.own (fun k hk => hm k (.inr hk)), h.room0, h.room1, h.b0, h.own0⟩
theorem XW.new (h : XW w b r v) (hb : Below w.heap.size w w') : XW w' b r v := h.move (fun k hk => hb.block k (h.lt k hk))
theorem XW.post (h : XW w b r v) (hb : Below w.heap.size w w') : XWPost w b v r (.returned (.tuple #[])) w' := ⟨rfl, v, h.new hb, Mods.of_new hb, fun k hk => .inl hk⟩
theorem XWPost.after {e : Ending} (h : XWPost w1 b v r e w') (hb : Below w.heap.size w w1) : XWPost w b v r e w' := by
  obtain ⟨h1, v', h2, h3, h4⟩ := h
  refine ⟨h1, v', h2, (Mods.of_new hb).trans h3 (fun k _ e => e), fun k hk => ?_⟩
  rcases h4 k hk with e | e
  · exact .inl e
  · exact .inr (Nat.le_trans hb.size e)
theorem xfail_any (h : XW w b r v) (n : Int) : Calls Tryd.prog 53 #[.pointer (some ⟨b, 0, none⟩), .int .i64 n] w (fun e w' => e = .returned (.tuple #[]) ∧ XW w' b (r.fail n) v ∧ Mods (fun k => k = b) w w' ∧ w'.heap.size = w.heap.size) := by
  have c2 := h.blk.cell 2
  have f2 := h.blk.free 2
  have hl := h.blk.lt
  have HH := Hid.mk_ h
  obtain ⟨e, hee⟩ : ∃ e, e = r.e := ⟨_, rfl⟩
  rw [← hee] at c2
  have HE := Hid.mk_ hee
  by_cases he : e = 0
  · subst he
    have e2 : r.fail n = ⟨r.room, r.l, n⟩ := by unfold Wr.fail; rw [if_pos hee.symm]
    have E2 := Hid.mk_ e2
    have hne := ownF_ne h.own h.blk (by decide)
    clear h e2 hee
    go_enter Tryd.func53, Tryd.ntmps53
    go_wp2_with fail
    go_end0
    rw [E2.out]
    refine ⟨rfl, ⟨HH.out.blk.set 2 _, ownF_move HH.out.own (fun k hk => Below.heap_setCell _ _ _ _ (fun e => hne (by have e2 : k = b := e; rw [← e2]; exact hk))), HH.out.room0, HH.out.room1, HH.out.b0, HH.out.own0⟩, (Mods.refl (fun k => k = b) w).setCell (p := ⟨b, 2, none⟩) (fun _ => rfl) _, by simp [World.setCell]⟩
  · have e2 : r.fail n = r := by unfold Wr.fail; rw [if_neg (by rw [← hee]; exact he)]
    have E2 := Hid.mk_ e2
    have t0 : (e == 0) = false := by simpa using he
    clear h e2 hee
    go_enter Tryd.func53, Tryd.ntmps53
    go_wp2_with fail
    go_end0
    rw [E2.out]
    exact ⟨rfl, HH.out, Mods.refl _ _, rfl⟩
theorem lay_long {r : Wr} {s : List UInt8} (h : r.room < (s.length : Int)) : r.lay s 0 = r.fail 11 := by
  unfold Wr.lay Wr.fail
  by_cases he : r.e = 0
  · rw [if_neg (by simp [he]), if_neg (by simp), if_pos h, if_pos he]
  · rw [if_pos he, if_neg he]
theorem Wr.fail_e {r : Wr} {n : Int} (h : n ≠ 0) : (r.fail n).e ≠ 0 := by unfold Wr.fail; split <;> assumption
set_option maxRecDepth 20000 in
theorem xraw_w (h : XW w b r v) (s : List UInt8) (hlen : r.l.length + s.length ≤ 140737488355328) :
    Calls Tryd.prog 38 #[.pointer (some ⟨b, 0, none⟩), str s] w (XWPost w b v (r.lay s 0)) := by
  obtain ⟨i0, hi, hz0, hz1, hz2⟩ := info_parts Tryd.info5
  have HH := Hid.mk_ h
  have HF := Hid.mk_ (fun q n => xfail_any (w := w.drewN q) (h.move (fun _ _ => rfl)) n)
  obtain ⟨A, c, hv⟩ := ownF_shape h.own
  subst hv
  have c0 := h.blk.cell 0
  have c1 := h.blk.cell 1
  have c2 := h.blk.cell 2
  have hl := h.blk.lt
  have r0 := h.room0
  have r1 := h.room1
  have hw : IntKind.i64.wrap (r.room + (r.l.length : Int) - (r.l.length : Int)) = r.room := by rw [IntKind.wrap_i64]; omega
  by_cases hr : r.room < (s.length : Int)
  · have E2 := Hid.mk_ (lay_long hr)
    clear h
    go_enter Tryd.func38, Tryd.ntmps38
    go_wp2_with fail
    go_big_quiet (fail)
    go_upto_region 2 with (go_at_call 53; (with_reducible refine (HF.out _ 11).mono ?_); rintro e w1 ⟨rfl, hx, hm, hs⟩)
    obtain ⟨e, hee⟩ : ∃ e, e = (r.fail 11).e := ⟨_, rfl⟩
    have d2 := hx.blk.cell 2
    rw [← hee] at d2
    have hen : e ≠ 0 := by rw [hee]; exact Wr.fail_e (by omega)
    have t2 : (e == 0) = false := by simpa using hen
    clear hee c0 c1 c2 hl
    go_wp2_with fail
    go_end0
    rw [E2.out]
    exact ⟨rfl, _, hx, ((Mods.refl (zW b (.slice A r.l.length c)) w).drewN nq).trans hm (fun k _ e => .inl e), fun k hk => .inl hk⟩
  · obtain ⟨e, hee⟩ : ∃ e, e = r.e := ⟨_, rfl⟩
    rw [← hee] at c2
    by_cases he : e = 0
    · subst he
      have e2 : r.lay s 0 = ⟨r.room - s.length, r.l ++ s, 0⟩ := by unfold Wr.lay; rw [if_neg (by simp [← hee]), if_neg (by simp), if_neg hr]
      have E2 := Hid.mk_ e2
      have HE := Hid.mk_ hee
      have hne := ownF_ne h.own h.blk (by decide)
      have hsz : (⟨s.toArray⟩ : ByteArray).size = s.length := size_l s
      have f0 := h.blk.free 0
      have HK := Hid.mk_ h.blk
      have HO := Hid.mk_ h.own
      clear h e2 hee
      go_enter Tryd.func38, Tryd.ntmps38
      go_wp2_with fail
      go_big_quiet (fail)
      go_wp2_with (at_builtin; refine wpList_append_strF _ rfl (.tmp 28) (.tmp 29) 40 9 rfl 5 i0 Tryd.underlying40 Tryd.underlying9 hi hz0 hz1 hz2 (.slice A r.l.length c) r.l.length (Lib.byteCells r.l) rfl (ownF_move HO.out (fun _ _ => rfl)) ⟨s.toArray⟩ rfl (by rw [hsz]; unfold maxLen; omega) (by rw [hsz]; exact hlen) ?_; intro v2 w2 hown2 hgrow2 hloc2; obtain ⟨A2, c2', rfl⟩ := ownF_shape hown2; have hk2 := (HK.out.drewN nq).grown hgrow2 (fun e => hne e.symm); have g0 := hk2.free 0; have d0 := hk2.cell 0; have l2 := hk2.lt)
      go_end0
      have hne2 := ownF_ne hown2 hk2 (by decide)
      rw [hsz] at hown2
      rw [E2.out]
      have hb2 := hk2.set 0 (.slice A2 (r.l.length + s.length) c2')
      refine ⟨rfl, .slice A2 (r.l.length + s.length) c2', ⟨?_, ?_, by show 0 ≤ r.room - s.length; omega, by show r.room - (s.length : Int) + ((r.l ++ s).length : Int) ≤ _; rw [List.length_append]; omega, HH.out.b0, fun k hk3 => ?_⟩, ?_, fun k hk3 => ?_⟩
      · show Blk _ b [_, .int .i64 (r.room - (s.length : Int) + ((r.l ++ s).length : Int)), .int .i64 0] 78
        rw [show r.room - (s.length : Int) + ((r.l ++ s).length : Int) = r.room + r.l.length by rw [List.length_append]; omega]
        have hb3 := hb2
        rw [← HE.out] at hb3
        exact hb3
      · have e : Lib.byteCells (r.l ++ s) = Lib.byteCells r.l ++ Lib.strCells ⟨s.toArray⟩ := by
          rw [Lib.byteCells_append, Lib.strCells_eq]
        show World.ownsRowF _ 0 5 1 _ (r.l ++ s).length (Lib.byteCells (r.l ++ s))
        rw [e, List.length_append]
        exact ownF_move hown2 (fun k hk3 => Below.heap_setCell _ _ _ _ (fun e => hne2 (by have e2 : k = b := e; rw [← e2]; exact hk3)))
      · rcases hloc2 k hk3 with e | e
        · exact HH.out.own0 k e
        · have : w.heap.size ≤ k := e
          omega
      · exact (((Mods.refl (zW b (.slice A r.l.length c)) w).drewN nq).grown hgrow2 (fun k e _ => .inr e)).setCell (p := ⟨b, 0, none⟩) (fun _ => .inl rfl) _
      · rcases hk3 with e | e
        · exact .inl (.inl e)
        · rcases hloc2 k e with e | e
          · exact .inl (.inr e)
          · exact .inr e
    · have e2 : r.lay s 0 = r := by unfold Wr.lay; rw [if_pos (by rw [← hee]; exact he)]
      have E2 := Hid.mk_ e2
      have t0 : (e == 0) = false := by simpa using he
      clear h e2 hee
      go_enter Tryd.func38, Tryd.ntmps38
      go_wp2_with fail
      go_big_quiet (fail)
      go_wp2_with fail
      go_end0
      rw [E2.out]
      exact HH.out.post (Drawn_below _ _)
end
end Go.Proofs.YtdccgmfhnofabaaDoor
