/- Several readers and writers side by side: each block has an owner. -/
import Derived.Test.YtdccgmfhnofabaaDoorD4
namespace Go.Proofs.YtdccgmfhnofabaaDoor
open Go.RowKit
set_option linter.unusedVariables false
set_option linter.unusedSimpArgs false
/-- who owns a block, behind a step of i: what is new is i's -/
def upd (o : Nat → Nat) (n i k : Nat) : Nat := if k < n then o k else i
theorem upd_old {o : Nat → Nat} {n i k : Nat} (h : k < n) : upd o n i k = o k := if_pos h
theorem upd_new {o : Nat → Nat} {n i k : Nat} (h : n ≤ k) : upd o n i k = i := if_neg (by omega)
structure Sys (w0 w : World) (o : Nat → Nat) : Prop where
  below : Below w0.heap.size w0 w
  out : ∀ k, k < w0.heap.size → o k = 0
  glob : Glob w
  pos : 0 < w0.heap.size
section
variable {w0 w w' : World} {o : Nat → Nat} {i j b : Nat} {r : Wr} {rr : Rd} {s : List UInt8}
theorem Sys.step (h : Sys w0 w o) (hi : i ≠ 0) (hm : Mods (fun k => o k = i) w w') : Sys w0 w' (upd o w.heap.size i) := by
  have hs := h.below.size
  have hp := h.pos
  refine ⟨h.below.trans (hm.below hs (fun k _ e => ?_)), fun k hk => ?_, h.glob.move (hm.block 0 (by omega) (fun e => ?_)), hp⟩
  · rcases Nat.lt_or_ge k w0.heap.size with h1 | h1
    · have := h.out k h1
      omega
    · exact h1
  · rw [upd_old (by omega)]; exact h.out k hk
  · have := h.out 0 h.pos
    omega
theorem Sys.new (h : Sys w0 w o) (hb : Below w.heap.size w w') : Sys w0 w' o := ⟨h.below.trans (hb.mono h.below.size), h.out, h.glob.new hb, h.pos⟩
theorem Sys.start (h : Glob w) : Sys w w (fun _ => 0) := ⟨Below.refl _ _, fun _ _ => rfl, h, h.pos⟩
theorem Er.move' {e : Int} {ev : Value} (h : Er w e ev) (hm : ∀ g, errB ev = some g → g < w.heap.size → w'.heap[g]? = w.heap[g]?) : Er w' e ev := by
  rcases h with h | ⟨h1, g, h2, h3⟩
  · exact .inl h
  · exact .inr ⟨h1, g, h2, h3.move (hm g (by rw [h2]; rfl) h3.lt)⟩
/-- the program's writer, all of it i's -/
def WSt (w : World) (o : Nat → Nat) (i b : Nat) (r : Wr) : Prop := ∃ p v ev, WP w b r p v ev ∧ (∀ k, zW b v k → o k = i) ∧ ∀ g, errB ev = some g → o g = i
theorem WSt.other (h : WSt w o j b r) (hij : j ≠ i) (hm : Mods (fun k => o k = i) w w') : WSt w' (upd o w.heap.size i) j b r := by
  obtain ⟨p, v, ev, h1, h2, h3⟩ := h
  have e1 : ∀ g, errB ev = some g → g < w.heap.size := fun g hg => by
    rcases h1.err with ⟨_, e⟩ | ⟨_, g', e, hk⟩
    · rw [e] at hg; simp [errB] at hg
    · rw [e] at hg; simp [errB] at hg; subst hg; exact hk.lt
  have hz : ∀ k, zW b v k → w'.heap[k]? = w.heap[k]? := fun k hk => hm.block k (h1.lt k hk) (by rw [h2 k hk]; exact hij)
  refine ⟨p, v, ev, ⟨h1.blk.move (hz b (.inl rfl)), h1.ptr, ownF_move h1.own (fun k hk => hz k (.inr hk)), h1.err.move' (fun g hg hl => hm.block g hl (by rw [h3 g hg]; exact hij)), h1.room0, h1.room1, h1.b0, h1.own0⟩, fun k hk => ?_, fun g hg => ?_⟩
  · rw [upd_old (h1.lt k hk)]; exact h2 k hk
  · rw [upd_old (e1 g hg)]; exact h3 g hg
theorem WSt.new (h : WSt w o j b r) (hb : Below w.heap.size w w') : WSt w' o j b r := by
  obtain ⟨p, v, ev, h1, h2, h3⟩ := h
  exact ⟨p, v, ev, h1.new hb, h2, h3⟩
def WOp (w : World) (o : Nat → Nat) (i b : Nat) (r : Wr) (e : Ending) (w' : World) : Prop := e = .returned (.tuple #[]) ∧ WSt w' (upd o w.heap.size i) i b r ∧ Mods (fun k => o k = i) w w'
theorem WPost.st {v ev : Value} {e : Ending} (h : WPost w b v ev r e w') (hz : ∀ k, zW b v k → o k = i) (he : ∀ g, errB ev = some g → o g = i) : WOp w o i b r e w' := by
  obtain ⟨h1, p', v', ev', h2, h3, h4, h5⟩ := h
  have key : ∀ k, (o k = i ∨ w.heap.size ≤ k) → upd o w.heap.size i k = i := fun k hk => by
    rcases Nat.lt_or_ge k w.heap.size with h | h
    · rw [upd_old h]; rcases hk with e | e
      · exact e
      · omega
    · exact upd_new h
  refine ⟨h1, ⟨p', v', ev', h2, fun k hk => key k ?_, fun g hg => key g ?_⟩, h3.mono (fun k _ e => hz k e)⟩
  · rcases h4 k hk with e | e
    · exact .inl (hz k e)
    · exact .inr e
  · rcases h5 g hg with e | e
    · exact .inl (he g e)
    · exact .inr e
theorem wnum_st (h : WSt w o i b r) (size n : Int) (h1 : i64 size) (h2 : i64 n) (hlen : r.l.length ≤ 140737488355320) : Calls Tryd.prog 32 #[.pointer (some ⟨b, 0, none⟩), .int .i64 size, .int .i64 n] w (WOp w o i b (r.num size n)) := by
  obtain ⟨p, v, ev, a1, a2, a3⟩ := h
  exact (wnum_any a1 size n h1 h2 hlen).mono fun e w' hp => hp.st a2 a3
theorem wtext_st (h : WSt w o i b r) (s : List UInt8) (hlen : r.l.length + s.length ≤ 140737488355300) : Calls Tryd.prog 33 #[.pointer (some ⟨b, 0, none⟩), str s] w (WOp w o i b (r.text s)) := by
  obtain ⟨p, v, ev, a1, a2, a3⟩ := h
  exact (wtext_any a1 s hlen).mono fun e w' hp => hp.st a2 a3
theorem wraw_st (h : WSt w o i b r) (s : List UInt8) (hlen : r.l.length + s.length ≤ 140737488355328) : Calls Tryd.prog 34 #[.pointer (some ⟨b, 0, none⟩), str s] w (WOp w o i b (r.raw s)) := by
  obtain ⟨p, v, ev, a1, a2, a3⟩ := h
  exact (wraw_any a1 s hlen).mono fun e w' hp => hp.st a2 a3
def WDone (w : World) (o : Nat → Nat) (i b : Nat) (r : Wr) (e : Ending) (w' : World) : Prop := e = .returned (.tuple #[str r.done.1, .int .i64 r.done.2]) ∧ WSt w' (upd o w.heap.size i) i b r ∧ Mods (fun k => o k = i) w w'
theorem wdone_st (hG : Glob w) (h : WSt w o i b r) : Calls Tryd.prog 27 #[.pointer (some ⟨b, 0, none⟩)] w (WDone w o i b r) := by
  obtain ⟨p, v, ev, a1, a2, a3⟩ := h
  have e1 : ∀ g, errB ev = some g → g < w.heap.size := fun g hg => by
    rcases a1.err with ⟨_, e⟩ | ⟨_, g', e, hk⟩
    · rw [e] at hg; simp [errB] at hg
    · rw [e] at hg; simp [errB] at hg; subst hg; exact hk.lt
  refine (wdone_any hG a1).mono fun e w' ⟨h1, h2, h3⟩ => ⟨h1, ⟨p, v, ev, h2, fun k hk => ?_, fun g hg => ?_⟩, h3.mono (fun k _ e => a2 k e)⟩
  · rw [upd_old (a1.lt k hk)]; exact a2 k hk
  · rw [upd_old (e1 g hg)]; exact a3 g hg
def WNew (w : World) (o : Nat → Nat) (i : Nat) (r : Wr) (e : Ending) (w' : World) : Prop := ∃ b, e = .returned (.pointer (some ⟨b, 0, none⟩)) ∧ WSt w' (upd o w.heap.size i) i b r ∧ Mods (fun k => o k = i) w w'
theorem wnew_st (most : Int) (hm : i64 most) (hG : Glob w) (o : Nat → Nat) (i : Nat) : Calls Tryd.prog 13 #[.int .i64 most] w (WNew w o i ⟨max most 0, [], 0⟩) :=
  (wnew_any most hm hG).mono fun e w' ⟨b, h1, h2, h3, h4⟩ => ⟨b, h1, ⟨_, _, _, h2, fun k hk => by
    rcases hk with e | e
    · rw [upd_new (by omega)]
    · simp [Value.ownBlock] at e, fun g hg => by simp [errB] at hg⟩, Mods.of_new h4⟩
/-- the document's writer -/
def XWSt (w : World) (o : Nat → Nat) (i b : Nat) (r : Wr) : Prop := ∃ v, XW w b r v ∧ ∀ k, zW b v k → o k = i
theorem XWSt.other (h : XWSt w o j b r) (hij : j ≠ i) (hm : Mods (fun k => o k = i) w w') : XWSt w' (upd o w.heap.size i) j b r := by
  obtain ⟨v, h1, h2⟩ := h
  refine ⟨v, h1.move (fun k hk => hm.block k (h1.lt k hk) (by rw [h2 k hk]; exact hij)), fun k hk => ?_⟩
  rw [upd_old (h1.lt k hk)]; exact h2 k hk
theorem XWSt.new (h : XWSt w o j b r) (hb : Below w.heap.size w w') : XWSt w' o j b r := by
  obtain ⟨v, h1, h2⟩ := h
  exact ⟨v, h1.new hb, h2⟩
def XWOp (w : World) (o : Nat → Nat) (i b : Nat) (r : Wr) (e : Ending) (w' : World) : Prop := e = .returned (.tuple #[]) ∧ XWSt w' (upd o w.heap.size i) i b r ∧ Mods (fun k => o k = i) w w'
theorem XWPost.st {v : Value} {e : Ending} (h : XWPost w b v r e w') (hz : ∀ k, zW b v k → o k = i) : XWOp w o i b r e w' := by
  obtain ⟨h1, v', h2, h3, h4⟩ := h
  refine ⟨h1, ⟨v', h2, fun k hk => ?_⟩, h3.mono (fun k _ e => hz k e)⟩
  rcases Nat.lt_or_ge k w.heap.size with h | h
  · rw [upd_old h]
    rcases h4 k hk with e | e
    · exact hz k e
    · omega
  · exact upd_new h
theorem xnum_st (h : XWSt w o i b r) (size n : Int) (h1 : i64 size) (h2 : i64 n) (hlen : r.l.length ≤ 140737488355320) : Calls Tryd.prog 36 #[.pointer (some ⟨b, 0, none⟩), .int .i64 size, .int .i64 n] w (XWOp w o i b (r.num size n)) := by
  obtain ⟨v, a1, a2⟩ := h
  exact (xnum_w a1 size n h1 h2 hlen).mono fun e w' hp => hp.st a2
theorem xtext_st (h : XWSt w o i b r) (s : List UInt8) (hlen : r.l.length + s.length ≤ 140737488355300) : Calls Tryd.prog 37 #[.pointer (some ⟨b, 0, none⟩), str s] w (XWOp w o i b (r.text s)) := by
  obtain ⟨v, a1, a2⟩ := h
  exact (xtext_w a1 s hlen).mono fun e w' hp => hp.st a2
theorem xraw_st (h : XWSt w o i b r) (s : List UInt8) (hlen : r.l.length + s.length ≤ 140737488355328) : Calls Tryd.prog 38 #[.pointer (some ⟨b, 0, none⟩), str s] w (XWOp w o i b (r.raw s)) := by
  obtain ⟨v, a1, a2⟩ := h
  exact (xraw_w a1 s hlen).mono fun e w' hp => hp.st a2
theorem xdone_st (h : XWSt w o i b r) : Calls Tryd.prog 39 #[.pointer (some ⟨b, 0, none⟩)] w (XDonePost w r) := by
  obtain ⟨v, a1, a2⟩ := h
  exact xdone_w a1
def XWNew (w : World) (o : Nat → Nat) (i : Nat) (r : Wr) (e : Ending) (w' : World) : Prop := ∃ b, e = .returned (.pointer (some ⟨b, 0, none⟩)) ∧ XWSt w' (upd o w.heap.size i) i b r ∧ Mods (fun k => o k = i) w w'
theorem xnew_st (most : Int) (hm : i64 most) (hG : Glob w) (o : Nat → Nat) (i : Nat) : Calls Tryd.prog 14 #[.int .i64 most] w (XWNew w o i ⟨max most 0, [], 0⟩) :=
  (xnew_w most hm hG.pos).mono fun e w' ⟨b, h1, h2, h3, h4⟩ => ⟨b, h1, ⟨_, h2, fun k hk => by
    rcases hk with e | e
    · rw [upd_new (by omega)]
    · simp [Value.ownBlock] at e⟩, Mods.of_new h4⟩
/-- the program's reader -/
def RSt (w : World) (o : Nat → Nat) (i b : Nat) (r : Rd) : Prop := ∃ ev, RP w b r ev ∧ o b = i ∧ ∀ g, errB ev = some g → o g = i
theorem RP.elt {ev : Value} (h : RP w b rr ev) : ∀ g, errB ev = some g → g < w.heap.size := fun g hg => by
  rcases h.err with ⟨_, e⟩ | ⟨_, g', e, hk⟩
  · rw [e] at hg; simp [errB] at hg
  · rw [e] at hg; simp [errB] at hg; subst hg; exact hk.lt
theorem RSt.other (h : RSt w o j b rr) (hij : j ≠ i) (hm : Mods (fun k => o k = i) w w') : RSt w' (upd o w.heap.size i) j b rr := by
  obtain ⟨ev, h1, h2, h3⟩ := h
  refine ⟨ev, ⟨h1.blk.move (hm.block b h1.blk.lt (by rw [h2]; exact hij)), h1.err.move' (fun g hg hl => hm.block g hl (by rw [h3 g hg]; exact hij)), h1.len, h1.b0⟩, ?_, fun g hg => ?_⟩
  · rw [upd_old h1.blk.lt]; exact h2
  · rw [upd_old (h1.elt g hg)]; exact h3 g hg
theorem RSt.new (h : RSt w o j b rr) (hb : Below w.heap.size w w') : RSt w' o j b rr := by
  obtain ⟨ev, h1, h2⟩ := h
  exact ⟨ev, h1.stay hb, h2⟩
def ROp (w : World) (o : Nat → Nat) (i b : Nat) (v : Value) (r : Rd) (e : Ending) (w' : World) : Prop := e = .returned v ∧ RSt w' (upd o w.heap.size i) i b r ∧ Mods (fun k => o k = i) w w'
theorem RPost.st {v ev : Value} {e : Ending} (hl : b < w.heap.size) (h : RPost w b ev v rr e w') (hz : o b = i) (he : ∀ g, errB ev = some g → o g = i) : ROp w o i b v rr e w' := by
  obtain ⟨h1, ev', h2, h3, h4⟩ := h
  refine ⟨h1, ⟨ev', h2, by rw [upd_old hl]; exact hz, fun g hg => ?_⟩, h3.mono (fun k _ e => by rw [e]; exact hz)⟩
  rcases Nat.lt_or_ge g w.heap.size with h | h
  · rw [upd_old h]
    rcases h4 g hg with e | e
    · exact he g e
    · omega
  · exact upd_new h
theorem rnum_st (h : RSt w o i b rr) (size : Int) : Calls Tryd.prog 30 #[.pointer (some ⟨b, 0, none⟩), .int .i64 size] w (ROp w o i b (.int .i64 (rr.num size).1) (rr.num size).2) := by
  obtain ⟨ev, a1, a2, a3⟩ := h
  exact (rnum_any a1 size).mono fun e w' hp => hp.st a1.blk.lt a2 a3
theorem rtext_st (h : RSt w o i b rr) (n : Int) : Calls Tryd.prog 35 #[.pointer (some ⟨b, 0, none⟩), .int .i64 n] w (ROp w o i b (str (rr.text n).1) (rr.text n).2) := by
  obtain ⟨ev, a1, a2, a3⟩ := h
  exact (rtext_any a1 n).mono fun e w' hp => hp.st a1.blk.lt a2 a3
theorem rraw_st (h : RSt w o i b rr) (n : Int) : Calls Tryd.prog 31 #[.pointer (some ⟨b, 0, none⟩), .int .i64 n] w (ROp w o i b (str (rr.raw n).1) (rr.raw n).2) := by
  obtain ⟨ev, a1, a2, a3⟩ := h
  exact (rraw_any a1 n).mono fun e w' hp => hp.st a1.blk.lt a2 a3
theorem rleft_st (h : RSt w o i b rr) : Calls Tryd.prog 22 #[.pointer (some ⟨b, 0, none⟩)] w fun e w' => e = .returned (.int .i64 rr.left) ∧ w = w' := by
  obtain ⟨ev, a1, a2, a3⟩ := h
  exact rleft_any a1
theorem rdone_st (hG : Glob w) (h : RSt w o i b rr) : Calls Tryd.prog 24 #[.pointer (some ⟨b, 0, none⟩)] w fun e w' => e = .returned (.int .i64 rr.done) ∧ Below w.heap.size w w' := by
  obtain ⟨ev, a1, a2, a3⟩ := h
  exact rdone_any hG a1
def RNew (w : World) (o : Nat → Nat) (i : Nat) (r : Rd) (e : Ending) (w' : World) : Prop := ∃ b, e = .returned (.pointer (some ⟨b, 0, none⟩)) ∧ RSt w' (upd o w.heap.size i) i b r ∧ Mods (fun k => o k = i) w w'
theorem rnew_st (s : List UInt8) (hs : s.length ≤ 9223372036854775807) (hG : Glob w) (o : Nat → Nat) (i : Nat) : Calls Tryd.prog 19 #[str s] w (RNew w o i ⟨s, 0⟩) :=
  (rnew_any s hs hG.pos).mono fun e w' ⟨b, h1, h2, h3, h4⟩ => ⟨b, h1, ⟨_, h2, by rw [upd_new (by omega)], fun g hg => by simp [errB] at hg⟩, Mods.of_new h4⟩
/-- the document's reader -/
def XSt (w : World) (o : Nat → Nat) (i b : Nat) (r : Rd) : Prop := XP w b r ∧ o b = i
theorem XSt.other (h : XSt w o j b rr) (hij : j ≠ i) (hm : Mods (fun k => o k = i) w w') : XSt w' (upd o w.heap.size i) j b rr :=
  ⟨⟨h.1.blk.move (hm.block b h.1.blk.lt (by rw [h.2]; exact hij)), h.1.len, h.1.b0⟩, by rw [upd_old h.1.blk.lt]; exact h.2⟩
theorem XSt.new (h : XSt w o j b rr) (hb : Below w.heap.size w w') : XSt w' o j b rr := ⟨h.1.stay hb, h.2⟩
def XOp (w : World) (o : Nat → Nat) (i b : Nat) (v : Value) (r : Rd) (e : Ending) (w' : World) : Prop := e = .returned v ∧ XSt w' (upd o w.heap.size i) i b r ∧ Mods (fun k => o k = i) w w'
theorem XPost.st {v : Value} {e : Ending} (hl : b < w.heap.size) (h : XPost w b v rr e w') (hz : o b = i) : XOp w o i b v rr e w' :=
  ⟨h.1, ⟨h.2.1, by rw [upd_old hl]; exact hz⟩, h.2.2.mono (fun k _ e => by rw [e]; exact hz)⟩
theorem xnumr_st (h : XSt w o i b rr) (size : Int) : Calls Tryd.prog 40 #[.pointer (some ⟨b, 0, none⟩), .int .i64 size] w (XOp w o i b (.int .i64 (rr.num size).1) (rr.num size).2) :=
  (xnum_any h.1 size).mono fun e w' hp => hp.st h.1.blk.lt h.2
theorem xtextr_st (h : XSt w o i b rr) (n : Int) : Calls Tryd.prog 41 #[.pointer (some ⟨b, 0, none⟩), .int .i64 n] w (XOp w o i b (str (rr.text n).1) (rr.text n).2) :=
  (xtext_any h.1 n).mono fun e w' hp => hp.st h.1.blk.lt h.2
theorem xrawr_st (h : XSt w o i b rr) (n : Int) : Calls Tryd.prog 42 #[.pointer (some ⟨b, 0, none⟩), .int .i64 n] w (XOp w o i b (str (rr.raw n).1) (rr.raw n).2) :=
  (xraw_any h.1 n).mono fun e w' hp => hp.st h.1.blk.lt h.2
def XNew (w : World) (o : Nat → Nat) (i : Nat) (r : Rd) (e : Ending) (w' : World) : Prop := ∃ b, e = .returned (.pointer (some ⟨b, 0, none⟩)) ∧ XSt w' (upd o w.heap.size i) i b r ∧ Mods (fun k => o k = i) w w'
theorem xnewr_st (s : List UInt8) (hs : s.length ≤ 9223372036854775807) (hG : Glob w) (o : Nat → Nat) (i : Nat) : Calls Tryd.prog 20 #[str s] w (XNew w o i ⟨s, 0⟩) :=
  (xnew_r s hs hG.pos).mono fun e w' ⟨b, h1, h2, h3, h4⟩ => ⟨b, h1, ⟨h2, by rw [upd_new (by omega)]⟩, Mods.of_new h4⟩
end
end Go.Proofs.YtdccgmfhnofabaaDoor
