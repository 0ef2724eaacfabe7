/- The builder's String. -/
import Derived.Test.YtdccgmfhnofabaaDoorC8
import Derived.RegionTactic
import Derived.BigRegion
import Derived.ChangeAlike
namespace Go.Proofs.YtdccgmfhnofabaaDoor
open Go.RowKit
set_option linter.unusedVariables false
set_option linter.unusedSimpArgs false
section
variable {w w' : World} {b : Nat} {room : Int} {p v ev : Value} {l s : List UInt8}
theorem mods_froze (w : World) (g n : Nat) : Mods (fun k => k = g) w (w.freeze ⟨g, 0, none⟩ n) := by
  unfold World.freeze
  split
  · exact Mods.refl _ _
  · refine ⟨rfl, rfl, rfl, by simp, fun k hk hne => ?_⟩
    simp only [Array.getElem?_modify]
    rw [if_neg (fun e => hne e.symm)]
theorem ownF_froze {e : TypeId} {g n c : Nat} {xs : List Value} (h : w.ownsRowF 0 e 1 (.slice (some ⟨g, 0, none⟩) n c) n xs) : (w.freeze ⟨g, 0, none⟩ n).ownsRowF 0 e 1 (.slice (some ⟨g, 0, none⟩) n c) n xs := by
  unfold World.freeze
  split
  · exact h
  · refine ⟨h.1, ?_⟩
    rcases h.2 with ⟨hv, _⟩ | ⟨g', cap', cur, fz, hv, hbg, hg, hfz, rest⟩
    · cases hv
    · injection hv with ha _ hcap
      injection ha with ha
      injection ha with hgg _ _
      subst hgg
      subst hcap
      obtain ⟨lo, hi⟩ := fz
      refine .inr ⟨g, _, cur, (if lo == hi then (0, 0 + n) else (min lo 0, max hi (0 + n))), rfl, hbg, ?_, ?_, rest⟩
      · simp [Array.getElem?_modify, hg]
      · simp only at hfz
        split <;> simp <;> omega
def StPost (w : World) (b : Nat) (cs : List Value) (v : Value) (l : List UInt8) (e : Ending) (w' : World) : Prop :=
  e = .returned (str l) ∧ Blk w' b cs 76 ∧ w'.ownsRowF 0 5 1 v l.length (Lib.byteCells l) ∧ Mods (fun k => v.ownBlock = some k) w w'
theorem Tryd.cells5 : Tryd.prog.cellsOf 5 = 1 := by kernel_rfl
set_option maxRecDepth 100000 in
set_option maxHeartbeats 1000000 in
theorem st_some (h : Blk w b [.int .i64 room, p, v, ev] 76) (hown : w.ownsRowF 0 5 1 v l.length (Lib.byteCells l)) (h0 : l ≠ []) :
    Calls Tryd.prog 46 #[.pointer (some ⟨b, 1, none⟩)] w (StPost w b [.int .i64 room, p, v, ev] v l) := by
  have hl0 : l.length ≠ 0 := by simpa using h0
  have hne := ownF_ne hown h (by decide)
  have hl := h.lt
  obtain ⟨g, cap, cur, fz, rfl, hbg, hg, hfz, hnc, hcm, hcs, htake⟩ : ∃ g cap cur fz, v = .slice (some ⟨g, 0, none⟩) l.length cap ∧ 0 ≤ g ∧ w.heap[g]? = some (.cells cur 5 fz) ∧ fz.2 ≤ l.length * 1 ∧ l.length ≤ cap ∧ cap ≤ maxLen ∧ cur.size = cap * 1 ∧ cur.toList.take (l.length * 1) = Lib.byteCells l := by
    rcases hown.2 with ⟨_, hz⟩ | ⟨g, cap, cur, fz, hv, r⟩
    · exact absurd hz hl0
    · exact ⟨g, cap, cur, fz, hv, r⟩
  have c1 := h.cell 2
  have hSD : (Builtin.unsafeSliceData_ #[40] 98 #[.slice (some ⟨g, 0, none⟩) l.length cap]).run Tryd.prog w.drew = .ok (.pointer (some ⟨g, 0, none⟩)) w.drew :=
    Lib.run_unsafeSliceData_row _ _ _ _ _ _ (by omega)
  have hUS : (Builtin.unsafeString_ #[98, 3] 9 #[.pointer (some ⟨g, 0, none⟩), .int .i64 l.length]).run Tryd.prog w.drew = .ok (.string ⟨l.toArray⟩) (w.drew.freeze ⟨g, 0, none⟩ l.length) := by
    refine Lib.run_unsafeString_row w.drew 98 3 9 5 Tryd.underlying98 Tryd.cells5 g cur.size (by have hg' : w.drew.heap[g]? = some (.cells cur 5 fz) := hg; simp [World.shape?, hg']) l h0 (by omega) (by unfold maxLen at hcm; omega) ?_
    intro j x hx
    exact hown.cells (g := g) rfl j (.int .u8 x.toNat) (by simp [Lib.byteCells, hx])
  have HB : Hid (Blk (w.drew.freeze ⟨g, 0, none⟩ l.length) b [.int .i64 room, p, .slice (some ⟨g, 0, none⟩) l.length cap, ev] 76) := h.drew.mods (mods_froze _ g _) (fun e => hne (by rw [e]; rfl))
  have HO : Hid ((w.drew.freeze ⟨g, 0, none⟩ l.length).ownsRowF 0 5 1 (.slice (some ⟨g, 0, none⟩) l.length cap) l.length (Lib.byteCells l)) := ownF_froze (w := w.drew) hown
  have HM : Hid (Mods (fun k => (Value.slice (some ⟨g, 0, none⟩) l.length cap).ownBlock = some k) w (w.drew.freeze ⟨g, 0, none⟩ l.length)) := ((Mods.refl (fun k => (Value.slice (some ⟨g, 0, none⟩) l.length cap).ownBlock = some k) w).drew).trans (mods_froze _ g _) (fun k _ e => by rw [e]; rfl)
  clear hown h hg htake hcs hfz hne hcm hbg hl0 h0
  go_enter Tryd.func46, Tryd.ntmps46
  go_wp2_with fail
  go_region
  all_goals (go_wp2_with fail; go_ret; exact ⟨rfl, HB.out, HO.out, HM.out⟩)
set_option maxRecDepth 100000 in
set_option maxHeartbeats 2000000 in
theorem st_none (h : Blk w b [.int .i64 room, p, v, ev] 76) (hown : w.ownsRowF 0 5 1 v 0 []) :
    Calls Tryd.prog 46 #[.pointer (some ⟨b, 1, none⟩)] w (StPost w b [.int .i64 room, p, v, ev] v []) := by
  have hUS := fun W q => Lib.run_unsafeString_none (P := Tryd.prog) W 98 3 9 q
  have hl := h.lt
  have HH := Hid.mk_ h
  have HO := Hid.mk_ hown
  have c0 := h.cell 2
  rcases hown.2 with ⟨rfl, _⟩ | ⟨g, cap, cur, fz, rfl, hbg, hg, _⟩
  · have hSD : (Builtin.unsafeSliceData_ #[40] 98 #[.slice none 0 0]).run Tryd.prog w.drew = .ok (.pointer none) w.drew := rfl
    clear h hown
    go_enter Tryd.func46, Tryd.ntmps46
    go_wp2_with fail
    go_region
    all_goals (go_wp2_with fail; go_ret; exact ⟨rfl, HH.out.drew, HO.out, (Mods.refl _ w).drew⟩)
  · by_cases hc0 : cap = 0
    · subst hc0
      have hSD : (Builtin.unsafeSliceData_ #[40] 98 #[.slice (some ⟨g, 0, none⟩) 0 0]).run Tryd.prog w.drew = .ok (.pointer (some ⟨w.drew.heap.size, 0, none⟩)) (w.drew.alloc (.view ⟨g, 0, none⟩ 5)) :=
        Lib.run_unsafeSliceData_zero w.drew _ _ 5 Tryd.underlying98 ⟨g, 0, none⟩ 0 (5, cur.size) (by have hg' : w.drew.heap[g]? = some (.cells cur 5 fz) := hg; simp [World.shape?, hg'])
      have c2 : (w.drew.alloc (.view ⟨g, 0, none⟩ 5)).cell? ⟨b, 2, none⟩ = some (.slice (some ⟨g, 0, none⟩) 0 0) := (h.drew.alloc _).cell 2
      have c3 : (w.alloc (.view ⟨g, 0, none⟩ 5)).drew.cell? ⟨b, 2, none⟩ = some (.slice (some ⟨g, 0, none⟩) 0 0) := c2
      have hgl : g < w.heap.size := (Array.getElem?_eq_some_iff.1 hg).1
      clear h hown hg
      go_enter Tryd.func46, Tryd.ntmps46
      go_wp2_with fail
      go_region
      all_goals (go_wp2_with fail; go_ret; exact ⟨rfl, HH.out.drew.alloc _, ownF_move HO.out (fun k hk => Below.heap_alloc w.drew _ k (by have e : g = k := Option.some.inj hk; rw [← e]; exact hgl)), ((Mods.refl _ w).drew).alloc _⟩)
    · have hSD : (Builtin.unsafeSliceData_ #[40] 98 #[.slice (some ⟨g, 0, none⟩) 0 cap]).run Tryd.prog w.drew = .ok (.pointer (some ⟨g, 0, none⟩)) w.drew :=
        Lib.run_unsafeSliceData_row _ _ _ _ _ _ hc0
      clear h hown hg hc0
      go_enter Tryd.func46, Tryd.ntmps46
      go_wp2_with fail
      go_region
      all_goals (go_wp2_with fail; go_ret; exact ⟨rfl, HH.out.drew, HO.out, (Mods.refl _ w).drew⟩)
theorem st_any (h : Blk w b [.int .i64 room, p, v, ev] 76) (hown : w.ownsRowF 0 5 1 v l.length (Lib.byteCells l)) :
    Calls Tryd.prog 46 #[.pointer (some ⟨b, 1, none⟩)] w (StPost w b [.int .i64 room, p, v, ev] v l) := by
  cases l with
  | nil => exact st_none h hown
  | cons c l => exact st_some h hown (by simp)
end
end Go.Proofs.YtdccgmfhnofabaaDoor
