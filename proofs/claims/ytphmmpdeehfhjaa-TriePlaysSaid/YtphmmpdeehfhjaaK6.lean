/- The document's own cuts: with. -/
import Derived.Test.YtphmmpdeehfhjaaK4
import Derived.Test.YtphmmpdeehfhjaaS2
namespace Go.Proofs.Ytphmmpdeehfhjaa
open Go.RowKit
set_option linter.unusedVariables false
set_option linter.unusedSimpArgs false
structure Cut where
  f : Int
  l : Int
def Cut.cells (c : Cut) : List Value := [.int .i64 c.f, .int .i64 c.l]
def cutsCells (l : List Cut) : List Value := l.flatMap Cut.cells
theorem cutsCells_append (l m : List Cut) : cutsCells (l ++ m) = cutsCells l ++ cutsCells m := by simp [cutsCells]
theorem cutsCells_length (l : List Cut) : (cutsCells l).length = l.length * 2 := by
  induction l with
  | nil => rfl
  | cons r l ih => simp only [cutsCells, List.flatMap_cons, List.length_append, List.length_cons] at *; rw [ih]; simp [Cut.cells]; omega
theorem cutsCells_get (l : List Cut) (i j : Nat) (hi : i < l.length) (hj : j < 2) : (cutsCells l)[i * 2 + j]? = (l[i]'hi).cells[j]? := by
  induction l generalizing i with
  | nil => simp at hi
  | cons r l ih =>
    have hr : r.cells.length = 2 := rfl
    simp only [cutsCells, List.flatMap_cons] at *
    cases i with
    | zero => rw [List.getElem?_append_left (by rw [hr]; omega)]; simp
    | succ i =>
      rw [List.getElem?_append_right (by rw [hr]; omega), hr, show (i + 1) * 2 + j - 2 = i * 2 + j from by omega, ih i (by simpa using hi)]
      simp
/-- cuts with one more, if it is another label's -/
def withL (l : List Cut) (c : Cut) : List Cut :=
  match l.getLast? with
  | none => l ++ [c]
  | some q => if q.l = c.l then l else l ++ [c]
abbrev OwnCuts (base : Nat) (w : World) (v : Value) (l : List Cut) : Prop := w.ownsRow base 75 2 v l.length (cutsCells l)
def WithPost (base : Nat) (w : World) (v : Value) (l : List Cut) (e : Ending) (w' : World) : Prop :=
  ∃ v', e = .returned v' ∧ OwnCuts base w' v' l ∧ Mods (fun k => v.ownBlock = some k) w w' ∧ (v'.ownBlock = v.ownBlock ∨ ∃ k, v'.ownBlock = some k ∧ w.heap.size ≤ k)
theorem Try.info75 : (Try.prog.info? 75).map (fun i => (i.zero, i.size, i.bytes)) = some (some (.agg #[.int .i64 0, .int .i64 0]), 2, 16) := by kernel_rfl
theorem OwnCuts.cell {base : Nat} {w : World} {g cap : Nat} {l : List Cut} (h : OwnCuts base w (.slice (some ⟨g, 0, none⟩) l.length cap) l) (i : Nat) (hi : i < l.length) :
    w.cell? ⟨g, i * 2, none⟩ = some (.int .i64 (l[i]'hi).f) ∧ w.cell? ⟨g, i * 2 + 1, none⟩ = some (.int .i64 (l[i]'hi).l) := by
  have hc : ∀ j, j < 2 → w.cell? ⟨g, i * 2 + j, none⟩ = (l[i]'hi).cells[j]? := fun j hj => by
    rw [h.cellAt _ (by omega), cutsCells_get l i j hi hj]
  exact ⟨hc 0 (by omega), hc 1 (by omega)⟩
set_option maxHeartbeats 8000000 in
set_option maxRecDepth 100000 in
theorem with_any (base : Nat) (v : Value) (l : List Cut) (c : Cut) (w : World) (hown : OwnCuts base w v l) (hb : base ≤ w.heap.size) (hn : l.length ≤ 4294967296) :
    Calls Try.prog 44 #[v, .agg #[.int .i64 c.f, .int .i64 c.l]] w (WithPost base w v (withL l c)) := by
  obtain ⟨A, cap, rfl⟩ := own_shape hown
  obtain ⟨i0, hi, hz0, hz1, hz2⟩ := info_parts Try.info75
  by_cases h0 : 0 < l.length
  · obtain ⟨g, cap', e, hg, hgl⟩ := hown.form h0
    cases e
    obtain ⟨j, hj⟩ : ∃ j : Nat, (l.length : Int) - 1 = j := ⟨l.length - 1, by omega⟩
    have hjl : j < l.length := by omega
    have hjl1 : (j : Int) < l.length := by omega
    have hjk : j + 1 = l.length := by omega
    obtain ⟨c0, c1⟩ := hown.cell j hjl
    have hlast : l.getLast? = some (l[j]'hjl) := by
      rw [List.getLast?_eq_getElem?, show l.length - 1 = j from by omega, List.getElem?_eq_getElem hjl]
    obtain ⟨q, hq⟩ : ∃ q, q = l[j]'hjl := ⟨_, rfl⟩
    rw [← hq] at c0 c1 hlast
    have hw : withL l c = if q.l = c.l then l else l ++ [c] := by unfold withL; rw [hlast]
    have hw1 : IntKind.i64.wrap ((l.length : Int) - 1) = j := by rw [hj, IntKind.wrap_i64]; omega
    have t1 : decide ((0 : Int) < l.length) = true := decide_eq_true (by omega)
    have t1n : decide (0 < l.length) = true := decide_eq_true h0
    have t1p : (0 : Int) < l.length := by omega
    have hn1 : ¬ g = w.heap.size := by omega
    have HO := Hid.mk_ hown
    clear hown hj hlast hq
    by_cases h1 : q.l = c.l
    · rw [hw, if_pos h1]
      rw [h1] at c1
      clear hw h1
      go_enter Try.func44, Try.ntmps44
      go_wp2_with fail
      go_big_quiet (fail)
      go_wp2_with fail
      go_ret
      have hB : Below w.heap.size w ((w.alloc (.cells #[.int .i64 c.f, .int .i64 c.l] 75)).drewN nq) := ((Below.refl _ _).alloc (Nat.le_refl _) _).trans (Drawn_below _ _)
      exact ⟨_, rfl, own_move HO.out (fun k hk => hB.block k (HO.out.lt k hk).2), Mods.of_new hB, .inl rfl⟩
    · rw [hw, if_neg h1]
      have t5 : decide (q.l = c.l) = false := decide_eq_false h1
      have t5b : (q.l == c.l) = false := by simpa using h1
      clear hw h1
      go_enter Try.func44, Try.ntmps44
      go_wp2_with fail
      go_big_quiet (fail)
      have hBx : ∀ O, Below w.heap.size w (((w.alloc (.cells #[.int .i64 c.f, .int .i64 c.l] 75)).drewN nq).alloc O) := fun O => (((Below.refl _ _).alloc (Nat.le_refl _) _).trans (Drawn_below _ _)).alloc (by simp) O
      have hB : ∀ O, OwnCuts base (((w.alloc (.cells #[.int .i64 c.f, .int .i64 c.l] 75)).drewN nq).alloc O) (.slice (some ⟨g, 0, none⟩) l.length cap) l := fun O => own_move HO.out (fun k hk => (hBx O).block k (HO.out.lt k hk).2)
      have HB := Hid.mk_ (hB)
      have HBX := Hid.mk_ hBx
      clear hBx hB
      go_wp2_with (at_builtin; refine wpList_append_own_at _ rfl _ _ 76 rfl base 75 i0 _ 2 16 Try.underlying76 hi hz0 hz1 hz2 rfl (by omega) _ _ _ rfl (HB.out _) ⟨_, 0, none⟩ 1 1 [.int .i64 c.f, .int .i64 c.l] rfl rfl (one_cells_at _ _ _ (by simp)) (by simp [Value.oneCell']) (by unfold maxLen; omega) (by omega) (by simp; omega) ?_; intro v' w1 hown' hgrow hnil hloc)
      go_ret
      refine ⟨_, rfl, ?_, (Mods.of_new (HBX.out _)).trans (T := fun k => some g = some k) ((Mods.refl _ _).grown hgrow (fun k e _ => e)) (fun k _ e => e), ?_⟩
      · unfold OwnCuts
        rw [List.length_append, cutsCells_append]
        exact hown'
      · rcases hloc with h | h
        · exact .inl h
        · exact .inr ⟨_, h, by simp; omega⟩
  · have hl : l = [] := List.length_eq_zero_iff.1 (by omega)
    subst hl
    have hw : withL [] c = [c] := rfl
    rw [hw]
    have HO := Hid.mk_ hown
    clear hw hown h0
    go_enter Try.func44, Try.ntmps44
    go_wp2_with fail
    go_big_quiet (fail)
    have hBx : ∀ O, Below w.heap.size w (((w.alloc (.cells #[.int .i64 c.f, .int .i64 c.l] 75)).drewN nq).alloc O) := fun O => (((Below.refl _ _).alloc (Nat.le_refl _) _).trans (Drawn_below _ _)).alloc (by simp) O
    have hB : ∀ O, OwnCuts base (((w.alloc (.cells #[.int .i64 c.f, .int .i64 c.l] 75)).drewN nq).alloc O) (.slice A 0 cap) [] := fun O => own_move HO.out (fun k hk => (hBx O).block k (HO.out.lt k hk).2)
    have HB := Hid.mk_ (hB)
    have HBX := Hid.mk_ hBx
    clear hBx hB
    go_wp2_with (at_builtin; refine wpList_append_own_at _ rfl _ _ 76 rfl base 75 i0 _ 2 16 Try.underlying76 hi hz0 hz1 hz2 rfl (by omega) _ _ _ rfl (HB.out _) ⟨_, 0, none⟩ 1 1 [.int .i64 c.f, .int .i64 c.l] rfl rfl (one_cells_at _ _ _ (by simp)) (by simp [Value.oneCell']) (by unfold maxLen; omega) (by omega) (by simp; omega) ?_; intro v' w1 hown' hgrow hnil hloc)
    go_ret
    refine ⟨_, rfl, hown', (Mods.of_new (HBX.out _)).trans (T := fun k => Value.ownBlock (.slice A 0 cap) = some k) ((Mods.refl _ _).grown hgrow (fun k e _ => e)) (fun k _ e => e), ?_⟩
    rcases hloc with h | h
    · exact .inl h
    · exact .inr ⟨_, h, by simp; omega⟩
end Go.Proofs.Ytphmmpdeehfhjaa
namespace Go.Proofs.Ytphmmpdeehfhjaa
open Go.RowKit
set_option linter.unusedVariables false
set_option linter.unusedSimpArgs false
/-- the document's trie behind its pointer -/
def RefAt (w : World) (l : List Cut) (b : Nat) (fp : List Nat) : Prop := ∃ v, Blk w b [v] 78 ∧ OwnCuts 0 w v l ∧ v.ownBlock ≠ some b ∧ fp = b :: v.ownBlock.toList
def cutsOf (rows : List Row) : List Cut := rows.foldl (fun l r => withL l ⟨r.a, r.l⟩) []
theorem cutsOf_snoc (rows : List Row) (r : Row) : cutsOf (rows ++ [r]) = withL (cutsOf rows) ⟨r.a, r.l⟩ := by simp [cutsOf]
theorem withL_length (l : List Cut) (c : Cut) : (withL l c).length ≤ l.length + 1 := by
  unfold withL
  split
  · simp
  · split <;> simp
theorem cutsOf_length : ∀ rows : List Row, (cutsOf rows).length ≤ rows.length := by
  intro rows
  have key : ∀ (rs : List Row) (l : List Cut), (rs.foldl (fun l r => withL l ⟨r.a, r.l⟩) l).length ≤ l.length + rs.length := by
    intro rs
    induction rs with
    | nil => intro l; simp
    | cons r rs ih =>
      intro l
      have h1 := ih (withL l ⟨r.a, r.l⟩)
      have h2 := withL_length l ⟨r.a, r.l⟩
      simp only [List.foldl_cons, List.length_cons]
      omega
  have := key rows []
  simpa [cutsOf] using this
theorem Chain.len : ∀ {a e : Int} {L : List Row}, Chain a L e → (∀ r ∈ L, rowOk r = true) → (L.length : Int) ≤ e - a
  | a, e, [], h, _ => by have h : a = e := h; simp; omega
  | a, e, r :: L, ⟨hr, h⟩, hs => by
    have h1 := Chain.len h (fun q hq => hs q (List.mem_cons_of_mem _ hq))
    have h2 := row_size (ok_right (hs r (List.mem_cons_self ..))).1
    simp only [List.length_cons]
    omega
theorem right_length {L : List Row} (h : refRight none 0 L = true) : L.length ≤ 4294967296 := by
  obtain ⟨h1, h2, _⟩ := (refRight_iff L none 0 (by simp)).1 h
  have := Chain.len h1 h2
  omega
def RMPost (w : World) (rows : List Row) (e : Ending) (w' : World) : Prop :=
  if refRight none 0 rows = true then ∃ b fp, e = .returned (.tuple #[.pointer (some ⟨b, 0, none⟩), .int .i64 0]) ∧ RefAt w' (cutsOf rows) b fp ∧ (∀ k ∈ fp, w.heap.size ≤ k) ∧ Below w.heap.size w w'
  else e = .returned (.tuple #[.pointer none, .int .i64 40]) ∧ Below w.heap.size w w'
def RMI (w : World) (rows : List Row) (b : Nat) (x6 : Value) (wr : World) : Prop :=
  ∃ (k : Nat) (v : Value), k ≤ rows.length ∧ x6 = .int .i64 (k : Int) ∧ Blk wr b [v] 78 ∧ OwnCuts 0 wr v (cutsOf (rows.take k)) ∧ v.ownBlock ≠ some b ∧ (∀ q, v.ownBlock = some q → w.heap.size ≤ q) ∧ Below w.heap.size w wr
theorem rrows_yes {A : Option Addr} {c : Nat} {rows : List Row} {x : Bool} (w : World) (hR : RowsIn w A rows) (h : refRight none 0 rows = x) :
    Calls Try.prog 50 #[.slice A rows.length c] w fun e w' => e = .returned (.bool x) ∧ Below w.heap.size w w' := by
  subst h
  exact rrows_any A c rows w hR
set_option maxHeartbeats 8000000 in
set_option maxRecDepth 100000 in
theorem rmake_any (A : Option Addr) (c : Nat) (rows : List Row) (w : World) (hR : RowsIn w A rows) :
    Calls Try.prog 33 #[.slice A rows.length c] w (RMPost w rows) := by
  have hlen := hR.1
  have HR := Hid.mk_ hR
  clear hR
  cases hx : refRight none 0 rows with
  | false =>
    have HX := Hid.mk_ hx
    have hp : RMPost w rows = fun e w' => e = .returned (.tuple #[.pointer none, .int .i64 40]) ∧ Below w.heap.size w w' := by funext e w'; unfold RMPost; rw [hx]; exact if_neg (by decide)
    rw [hp]
    clear hp
    clear hx
    go_enter Try.func33, Try.ntmps33
    go_wp2_with (first | (go_at_call 50; (with_reducible refine (rrows_yes _ HR.out HX.out).mono ?_); rintro e w1 ⟨rfl, hb1⟩))
    go_ret2
    exact ⟨rfl, hb1⟩
  | true =>
    have HX := Hid.mk_ hx
    have hL := right_length hx
    have hp : RMPost w rows = fun e w' => ∃ b fp, e = .returned (.tuple #[.pointer (some ⟨b, 0, none⟩), .int .i64 0]) ∧ RefAt w' (cutsOf rows) b fp ∧ (∀ k ∈ fp, w.heap.size ≤ k) ∧ Below w.heap.size w w' := by funext e w'; unfold RMPost; rw [hx]; exact if_pos rfl
    rw [hp]
    clear hp
    clear hx
    go_enter Try.func33, Try.ntmps33
    go_wp2_with (first | (go_at_call 50; (with_reducible refine (rrows_yes _ HR.out HX.out).mono ?_); rintro e w1 ⟨rfl, hb1⟩))
    obtain ⟨b, hb⟩ : ∃ b, b = w1.heap.size := ⟨_, rfl⟩
    have hs1 := hb1.size
    rw [← hb]
    have HBB := Hid.mk_ hb
    have hs2 : w.heap.size ≤ b := by omega
    clear hb
    go_loopw [6] (fun x6 wr => RMI w rows b x6 wr) (fun x6 _ => rows.length - (intOf x6).toNat)
    case atStart =>
      refine ⟨0, .slice none 0 0, Nat.zero_le _, rfl, ?_, World.ownsRow_nil _ _ _ _, by simp [Value.ownBlock], by simp [Value.ownBlock], hb1.alloc hs1 _⟩
      rw [HBB.out]
      exact Blk.new w1 [.slice none 0 0] 78
    case round =>
      obtain ⟨k, v, hk, rfl, hblk, hown, hvb, hvq, hB⟩ := hrel
      by_cases hlt : k < rows.length
      · have hlt1 : (k : Int) < rows.length := by omega
        obtain ⟨g, o, rfl, hc⟩ := HR.out.2 (by omega)
        obtain ⟨c0, c1, c2⟩ := hc k hlt
        have hgl : g < w.heap.size := World.block_lt_of_cell? w _ c0
        have q0 := (hB.cell (p := ⟨g, o + k * 3, none⟩) hgl).trans c0
        have q2 := (hB.cell (p := ⟨g, o + k * 3 + 2, none⟩) hgl).trans c2
        have hT : rows.take (k + 1) = rows.take k ++ [rows[k]'hlt] := List.take_succ_eq_append_getElem hlt
        obtain ⟨r, hr⟩ : ∃ r, r = rows[k]'hlt := ⟨_, rfl⟩
        rw [← hr] at q0 q2 hT
        have hcl := cutsOf_length (rows.take k)
        rw [List.length_take] at hcl
        have hcl2 : (cutsOf (rows.take k)).length ≤ 4294967296 := by omega
        have hcut : cutsOf (rows.take (k + 1)) = withL (cutsOf (rows.take k)) ⟨r.a, r.l⟩ := by rw [hT, cutsOf_snoc]
        obtain ⟨l, hl⟩ : ∃ l, l = cutsOf (rows.take k) := ⟨_, rfl⟩
        rw [← hl] at hcut hown hcl2
        have hwith := fun W => with_any 0 v l ⟨r.a, r.l⟩ W
        have hc0 := hblk.cell 0
        simp at hc0
        have HW := Hid.mk_ hwith
        have HCUT := Hid.mk_ hcut
        have hbl := hblk.lt
        have HBLK := Hid.mk_ hblk
        have HOWN := Hid.mk_ hown
        have HVB := Hid.mk_ hvb
        have hblw : ∀ W (hm : Mods (fun q => v.ownBlock = some q) wr.drew W), Blk W b [v] 78 ∧ W.cell? ⟨b, 0, none⟩ = some v ∧ W.cell? ⟨g, o + k * 3, none⟩ = some (.int .i64 r.a) ∧ W.cell? ⟨g, o + k * 3 + 2, none⟩ = some (.int .i64 r.l) := by
          intro W hm
          have h1 : Blk W b [v] 78 := hblk.drew.mods (S := fun q => v.ownBlock = some q) hm hvb
          have h2 : W.heap[g]? = wr.drew.heap[g]? := hm.block g (by have := hB.size; simp; omega) (fun e => by have := hvq g e; omega)
          exact ⟨h1, h1.cell 0, (World.cell?_of_block (w := wr.drew) (a := ⟨g, o + k * 3, none⟩) h2).trans q0, (World.cell?_of_block (w := wr.drew) (a := ⟨g, o + k * 3 + 2, none⟩) h2).trans q2⟩
        have HBLW := Hid.mk_ hblw
        have HVQ := Hid.mk_ hvq
        clear hblk hown hvb hcut hwith hc hr hT hl hblw c0 c1 c2 hvq hcl
        go_wp2_with fail
        go_region_law (first | (go_simp; go_at_call 44; (with_reducible refine (HW.out wr.drew HOWN.out.drew (Nat.zero_le _) hcl2).mono ?_); rintro e w2 ⟨v2, rfl, hown2, hm2, hloc2⟩; obtain ⟨A2, cp2, rfl⟩ := own_shape hown2; have hK := (HBLW.out w2 hm2).2; have hb2 := (HBLW.out w2 hm2).1; have hfr := hb2.free 0; have hbl2 := hb2.lt))
        all_goals (
          go_wp2_with fail
          have hne2 : (Value.slice A2 (withL l ⟨r.a, r.l⟩).length cp2).ownBlock ≠ some b := by
            rcases hloc2 with h | ⟨q, h, hq⟩
            · rw [h]; exact HVB.out
            · rw [h]; intro e; cases e; have : wr.heap.size ≤ b := hq; omega
          have hB2 : Below w.heap.size w w2 := hB.trans (((Mods.refl (fun q => v.ownBlock = some q) wr).drewN 1).trans hm2 (fun _ _ h => h) |>.below hB.size (fun q _ e => HVQ.out q e))
          refine ⟨⟨k + 1, _, by omega, by go_num, hb2.set 0 _, ?_, hne2, ?_, hB2.setCell (by show w.heap.size ≤ b; omega) _⟩, by simp [intOf]; omega⟩
          · rw [HCUT.out]
            exact ownsRow_setCell_other hown2 hne2 _
          · intro q hq
            rcases hloc2 with h | ⟨q', h, hq'⟩
            · exact HVQ.out q (h ▸ hq)
            · rw [h] at hq; cases hq
              have := hB.size
              have : wr.heap.size ≤ q := hq'
              omega)
      · have hge : ¬ ((k : Int) < rows.length) := by omega
        have hT : rows.take k = rows := List.take_of_length_le (by omega)
        rw [hT] at hown
        go_wp2_with fail
        go_ret2
        exact ⟨b, rfl, b :: v.ownBlock.toList, ⟨v, hblk, hown, hvb, rfl⟩, fun q hq => by
          rcases List.mem_cons.1 hq with rfl | hq
          · omega
          · exact hvq q (by simpa using hq), hB⟩
end Go.Proofs.Ytphmmpdeehfhjaa
