/- side.step: Map of all labels. -/
import Derived.Test.YtphmmpdeehfhjaaR6
namespace Go.Proofs.Ytphmmpdeehfhjaa
open Go.RowKit
set_option linter.unusedVariables false
set_option linter.unusedSimpArgs false
section
variable {w : World} {sb a b : Nat} {t : Tr} {fp fr : List Nat} {l : List Cut}
set_option maxHeartbeats 8000000 in
set_option maxRecDepth 100000 in
theorem step_each (h : Side w sb t a fp b fr l) (o : OpV) (ho : o.kind = 7) (bv : Value) (hn : i64 o.n) :
    Calls Try.prog 12 #[.pointer (some ⟨sb, 0, none⟩), o.val, bv] w (SideEnd w sb fp fr) := by
  obtain ⟨kind, on, n, pa, pb, LA, lc, xs, RA, rc, rows⟩ := o
  simp only at ho hn
  subst ho
  unfold OpV.val
  simp only
  obtain ⟨bx, hbx⟩ : ∃ bx, bx = w.heap.size := ⟨_, rfl⟩
  obtain ⟨W, hW⟩ : ∃ W, W = w.alloc (.cells #[.int .i64 7, .int .i64 on, .int .i64 n, .int .i64 pa, .int .i64 pb, .slice LA xs.length lc, .slice RA rows.length rc] 46) := ⟨_, rfl⟩
  have hB : Below w.heap.size w W := by rw [hW]; exact (Below.refl _ _).alloc (Nat.le_refl _) _
  have hbl : Blk W bx [.int .i64 7, .int .i64 on, .int .i64 n, .int .i64 pa, .int .i64 pb, .slice LA xs.length lc, .slice RA rows.length rc] 46 := by rw [hW, hbx]; exact Blk.new w _ 46
  have hS := h.new hB
  have cb0 : W.cell? ⟨bx, 0, none⟩ = some (.int .i64 7) := hbl.cell 0
  have hbxl : bx < W.heap.size := hbl.lt
  have HW := Hid.mk_ hW
  have HB := Hid.mk_ hB
  have HX := Hid.mk_ hbx
  have HS := Hid.mk_ hS
  have H := Hid.mk_ h
  have HL := Hid.mk_ hbl
  have HN := Hid.mk_ hn
  obtain ⟨pn, hpn⟩ : ∃ p, p = pickI n 65536 := ⟨_, rfl⟩
  have hp := pickI_range n 65536 (by decide)
  rw [← hpn] at hp
  obtain ⟨p0, p1⟩ := hp
  have HPN := Hid.mk_ hpn
  obtain ⟨i0, hi0, hz0, hz1, hz2⟩ := info_parts Try.info3
  clear hS hW hB hbx hbl h hn hpn
  go_enter Try.func12, Try.ntmps12
  go_upto_region 1 with fail
  rw [← HW.out, ← HX.out]
  go_wp2_with fail
  go_loopw [12, 13] (fun x12 x13 wr => ∃ (k : Nat) (ys : List Int), k ≤ 65536 ∧ ys.length = k ∧ x13 = .int .i64 (k : Int) ∧ wr.ownsRow W.heap.size 3 1 x12 k (ys.map (Value.int .i64)) ∧ Hid (Below W.heap.size W wr)) (fun _ x _ => 65536 - (intOf x).toNat)
  case atStart => exact ⟨0, [], by omega, rfl, rfl, World.ownsRow_nil _ _ _ _, Below.refl _ _⟩
  case round =>
    obtain ⟨k, ys, hk, hys, rfl, hown, HBK⟩ := hrel
    obtain ⟨Ax, cx, rfl⟩ := own_shape hown
    have HOWN := Hid.mk_ hown
    have HYS := Hid.mk_ hys
    have hsz := HBK.out.size
    have c2 : wr.cell? ⟨bx, 2, none⟩ = some (.int .i64 n) := (HL.out.below HBK.out HL.out.lt).cell 2
    have hbx2 : bx < wr.heap.size := by omega
    clear hown hys
    by_cases hk6 : k < 65536
    · have hk7 : (k : Int) < 65536 := by omega
      obtain ⟨X1, hX1⟩ : ∃ X, X = pickI ((k : Int) + pn) 65536 := ⟨_, rfl⟩
      have i1 : i64 ((k : Int) + pn) := ⟨by omega, by omega⟩
      have hr := pickI_range ((k : Int) + pn) 65536 (by decide)
      rw [← hX1] at hr
      obtain ⟨x0, x1⟩ := hr
      have HX1 := Hid.mk_ hX1
      have I1 := Hid.mk_ i1
      have hwk : IntKind.i64.wrap ((k : Int) + pn) = k + pn := by rw [IntKind.wrap_i64]; omega
      clear hX1 i1
      go_wp2_with (first
        | (go_at_call 11; (with_reducible refine (pick_at HPN.out (by decide) HN.out _).mono ?_); rintro e w' ⟨rfl, rfl⟩)
        | (go_at_call 11; (with_reducible refine (pick_at HX1.out (by decide) I1.out _).mono ?_); rintro e w' ⟨rfl, rfl⟩)
        | (at_builtin; refine wpList_append_own_at _ rfl _ _ 43 rfl W.heap.size 3 i0 _ 1 8 Try.underlying43 hi0 hz0 hz1 hz2 rfl (by omega) _ _ _ rfl (HOWN.out.alloc _) ⟨_, 0, none⟩ 1 1 [.int .i64 (X1 / 3)] rfl rfl (one_cells_at _ _ _ (by simp)) (by simp [Value.oneCell']) (by unfold maxLen; omega) (by omega) (by simp; omega) ?_; intro v1 w8 hown1 hgrow1 hnil1 hloc1; have HB8 := Hid.mk_ ((HBK.out.alloc hsz _).grown hgrow1 (by simp; omega) (fun q hq => (HOWN.out.lt q hq).1))))
      exact ⟨⟨k + 1, ys ++ [X1 / 3], by omega, by rw [List.length_append, HYS.out]; rfl, by go_num, by rw [List.map_append]; exact hown1, HB8⟩, by simp [intOf]; omega⟩
    · obtain rfl : k = 65536 := by omega
      obtain ⟨gx, cx', e1, hgx, hgxl, hL⟩ := own_labs HOWN.out (by omega) (by omega)
      cases e1
      have hin : IntsIn wr (some ⟨gx, 0, none⟩) ys := by
        refine ⟨by rw [HYS.out]; omega, fun _ => ⟨gx, 0, rfl, hgxl, fun j hj => ?_⟩⟩
        obtain ⟨g2, o2, e2, _, hc⟩ := hL.2.2 (by omega)
        cases e2
        rw [hc j (by rw [← HYS.out]; exact hj)]
        simp [List.getD, hj]
      have hm := maps_any (c := cx) (HS.out.new HBK.out) hin (fun g o e _ hg => by cases e; have := HS.out.lt _ hg; omega)
      rw [HYS.out] at hm
      have HM := Hid.mk_ hm
      clear hm hin hL
      go_wp2_with (first | (go_at_call 30; (with_reducible refine HM.out.mono ?_); rintro e w2 ⟨rfl, t2, fp2, fr2, l2, r1, r2, r3⟩))
      go_ret
      have hfin := HB.out.trans (HBK.out.mono HB.out.size)
      exact ⟨rfl, _, _, _, _, _, _, r1, fun k hk => (r2 k hk).imp_right (fun h => Nat.le_trans hfin.size h), (Mods.of_new (S := fun k => k ∈ sz sb fp fr) hfin).trans r3 (fun _ _ h => h)⟩
end
end Go.Proofs.Ytphmmpdeehfhjaa
