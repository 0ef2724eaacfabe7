/- The program's writer as it lies in memory: its calls walked. -/
import Derived.Test.YtdccgmfhnofabaaDoorC9
namespace Go.Proofs.YtdccgmfhnofabaaDoor
open Go.RowKit
set_option linter.unusedVariables false
set_option linter.unusedSimpArgs false
/-- the program's writer at block b -/
structure WP (w : World) (b : Nat) (r : Wr) (p v ev : Value) : Prop where
  blk : Blk w b [.int .i64 r.room, p, v, ev] 76
  ptr : p = .pointer none ∨ p = .pointer (some ⟨b, 1, none⟩)
  own : w.ownsRowF 0 5 1 v r.l.length (Lib.byteCells r.l)
  err : Er w r.e ev
  room0 : 0 ≤ r.room
  room1 : r.room ≤ 9223372036854775807
  b0 : 0 < b
  own0 : ∀ k, v.ownBlock = some k → 0 < k
def WPost (w : World) (b : Nat) (v ev : Value) (r : Wr) (e : Ending) (w' : World) : Prop :=
  e = .returned (.tuple #[]) ∧ ∃ p' v' ev', WP w' b r p' v' ev' ∧ Mods (zW b v) w w' ∧ (∀ k, zW b v' k → zW b v k ∨ w.heap.size ≤ k) ∧ ∀ g, errB ev' = some g → errB ev = some g ∨ w.heap.size ≤ g
section
variable {w w' : World} {b : Nat} {r : Wr} {p v ev : Value} {l s : List UInt8}
theorem WP.lt (h : WP w b r p v ev) : ∀ k, zW b v k → k < w.heap.size := fun k hk => by
  rcases hk with rfl | hk
  · exact h.blk.lt
  · exact (h.own.lt k hk).2
theorem WP.pos (h : WP w b r p v ev) : ∀ k, zW b v k → 0 < k := fun k hk => by
  rcases hk with rfl | hk
  · exact h.b0
  · exact h.own0 k hk
theorem WP.move (h : WP w b r p v ev) (hm : ∀ k, zW b v k → w'.heap[k]? = w.heap[k]?) (he : ∀ g, Blk w g [.int .i64 r.e] 97 → w'.heap[g]? = w.heap[g]?) : WP w' b r p v ev :=
  ⟨h.blk.move (hm b (.inl rfl)), h.ptr, ownF_move h.own (fun k hk => hm k (.inr hk)), h.err.move he, h.room0, h.room1, h.b0, h.own0⟩
theorem WP.new (h : WP w b r p v ev) (hb : Below w.heap.size w w') : WP w' b r p v ev := h.move (fun k hk => hb.block k (h.lt k hk)) (fun g hg => hb.block g hg.lt)
theorem WP.post (h : WP w b r p v ev) (hb : Below w.heap.size w w') : WPost w b v ev r (.returned (.tuple #[])) w' := ⟨rfl, p, v, ev, h.new hb, Mods.of_new hb, fun k hk => .inl hk, fun g hg => .inl hg⟩
theorem WP.e_ne (h : WP w b r p v ev) (he : r.e ≠ 0) : ∃ g, ev = .iface 93 (.pointer (some ⟨g, 0, none⟩)) ∧ Blk w g [.int .i64 r.e] 97 := by
  rcases h.err with h1 | ⟨_, h1⟩
  · exact absurd h1.1 he
  · exact h1
theorem WP.e_eq (h : WP w b r p v ev) (he : r.e = 0) : ev = .nilIface := by
  rcases h.err with h1 | h1
  · exact h1.2
  · exact absurd he h1.1
/-- something is wrong from now on -/
theorem WP.wrong (h : WP w b r p v ev) (n : Int) (hn : n ≠ 0) : WPost w b v ev ⟨r.room, r.l, n⟩ (.returned (.tuple #[])) ((w.setCell ⟨b, 3, none⟩ (.iface 93 (.pointer (some ⟨w.heap.size, 0, none⟩)))).alloc (.cells #[.int .i64 n] 97)) := by
  have hs : (w.setCell ⟨b, 3, none⟩ (.iface 93 (.pointer (some ⟨w.heap.size, 0, none⟩)))).heap.size = w.heap.size := by simp [World.setCell]
  have hb := Blk.new (w.setCell ⟨b, 3, none⟩ (.iface 93 (.pointer (some ⟨w.heap.size, 0, none⟩)))) [.int .i64 n] 97
  rw [hs] at hb
  have hne := ownF_ne h.own h.blk (by decide)
  refine ⟨rfl, p, v, _, ⟨(h.blk.set 3 _).alloc _, h.ptr, ownF_move h.own (fun k hk => ?_), .inr ⟨hn, w.heap.size, rfl, hb⟩, h.room0, h.room1, h.b0, h.own0⟩, ((Mods.refl (zW b v) w).setCell (p := ⟨b, 3, none⟩) (fun _ => .inl rfl) _).alloc _, fun k hk => .inl hk, fun g hg => .inr (Nat.le_of_eq (Option.some.inj hg))⟩
  have hkl := (h.own.lt k hk).2
  rw [Below.heap_alloc _ _ _ (by rw [hs]; exact hkl), Below.heap_setCell _ _ _ _ (fun e => hne (by have e2 : k = b := e; rw [← e2]; exact hk))]
set_option maxRecDepth 20000 in
theorem lays_any (h : WP w b r p v ev) (s : List UInt8) (n : Int) (hlen : r.l.length + s.length ≤ 140737488355328) :
    Calls Tryd.prog 50 #[.pointer (some ⟨b, 0, none⟩), str s, .int .i64 n] w (WPost w b v ev (r.lay s n)) := by
  have c0 := h.blk.cell 0
  have c3 := h.blk.cell 3
  have f0 := h.blk.free 0
  have f3 := h.blk.free 3
  have hl := h.blk.lt
  have HH := Hid.mk_ h
  have r0 := h.room0
  have r1 := h.room1
  by_cases he : r.e = 0
  · have hev := h.e_eq he
    subst hev
    by_cases hn : n = 0
    · subst hn
      by_cases hr : r.room < (s.length : Int)
      · have e2 : r.lay s 0 = ⟨r.room, r.l, 11⟩ := by unfold Wr.lay; rw [if_neg (by simp [he]), if_neg (by simp), if_pos hr]
        have E2 := Hid.mk_ e2
        clear h he e2
        go_enter Tryd.func50, Tryd.ntmps50
        go_wp2_with fail
        go_end0
        rw [E2.out]
        exact HH.out.wrong 11 (by omega)
      · have e2 : r.lay s 0 = ⟨r.room - s.length, r.l ++ s, 0⟩ := by unfold Wr.lay; rw [if_neg (by simp [he]), if_neg (by simp), if_neg hr]
        have E2 := Hid.mk_ e2
        have hne := ownF_ne h.own h.blk (by decide)
        have HO : Hid ((w.setCell ⟨b, 0, none⟩ (.int .i64 (r.room - s.length))).ownsRowF 0 5 1 v r.l.length (Lib.byteCells r.l)) := ownF_move h.own (fun k hk => Below.heap_setCell _ _ _ _ (fun e => hne (by have e2 : k = b := e; rw [← e2]; exact hk)))
        have HW := Hid.mk_ (ws_any (s := s) (h.blk.set 0 (.int .i64 (r.room - s.length))) h.ptr HO.out hlen)
        clear h he e2
        go_enter Tryd.func50, Tryd.ntmps50
        go_wp2_with (go_at_call 58; (with_reducible refine HW.out.mono ?_); rintro e w1 ⟨rfl, v', hk, ho, hm, hloc⟩)
        go_end0
        rw [E2.out]
        refine ⟨rfl, _, v', _, ⟨hk, .inr rfl, ho, .inl ⟨rfl, rfl⟩, by show 0 ≤ r.room - s.length; omega, by show r.room - s.length ≤ _; omega, HH.out.b0, fun k hk2 => ?_⟩, ?_, fun k hk2 => ?_, fun g hg => by simp [errB] at hg⟩
        · rcases hloc k hk2 with e | e
          · exact HH.out.own0 k e
          · simp [World.setCell] at e; omega
        · exact ((Mods.refl (zW b v) w).setCell (p := ⟨b, 0, none⟩) (fun _ => .inl rfl) _).trans hm (fun k _ e => e)
        · rcases hk2 with e | e
          · exact .inl (.inl e)
          · rcases hloc k e with e2 | e2
            · exact .inl (.inr e2)
            · exact .inr (by simpa [World.setCell] using e2)
    · have e2 : r.lay s n = ⟨r.room, r.l, n⟩ := by unfold Wr.lay; rw [if_neg (by simp [he]), if_pos hn]
      have E2 := Hid.mk_ e2
      have t0 : (n != 0) = true := by simpa using hn
      have HN := Hid.mk_ hn
      clear h he e2 hn
      go_enter Tryd.func50, Tryd.ntmps50
      go_wp2_with fail
      go_end0
      rw [E2.out]
      exact HH.out.wrong n HN.out
  · obtain ⟨g, rfl, hg⟩ := h.e_ne he
    have e2 : r.lay s n = r := by unfold Wr.lay; rw [if_pos he]
    have E2 := Hid.mk_ e2
    clear h he e2 hg
    go_enter Tryd.func50, Tryd.ntmps50
    go_wp2_with fail
    go_end0
    rw [E2.out]
    exact HH.out.post (Below.refl _ _)
end
end Go.Proofs.YtdccgmfhnofabaaDoor
