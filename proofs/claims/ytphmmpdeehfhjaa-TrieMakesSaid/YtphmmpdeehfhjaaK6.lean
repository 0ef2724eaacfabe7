/- The document's own Make: the walk. -/
import Derived.Test.YtphmmpdeehfhjaaK5
namespace Go.Proofs.Ytphmmpdeehfhjaa
open Go.RowKit
set_option linter.unusedVariables false
set_option linter.unusedSimpArgs false
/-- the document's trie behind its pointer -/
def RefAt (w : World) (l : List Cut) (b : Nat) (fp : List Nat) : Prop := ∃ v, Blk w b [v] 78 ∧ OwnCuts 0 w v l ∧ v.ownBlock ≠ some b ∧ fp = b :: v.ownBlock.toList
def cutsOf (rows : List Row) : List Cut := rows.foldl (fun l r => withL l ⟨r.a, r.l⟩) []
theorem cutsOf_snoc (rows : List Row) (r : Row) : cutsOf (rows ++ [r]) = withL (cutsOf rows) ⟨r.a, r.l⟩ := by simp [cutsOf]
theorem withL_length (l : List Cut) (c : Cut) : (withL l c).length ≤ l.length + 1 := by
  unfold withL
  split
  · simp
  · split <;> simp
theorem cutsOf_length : ∀ rows : List Row, (cutsOf rows).length ≤ rows.length := by
  intro rows
  have key : ∀ (rs : List Row) (l : List Cut), (rs.foldl (fun l r => withL l ⟨r.a, r.l⟩) l).length ≤ l.length + rs.length := by
    intro rs
    induction rs with
    | nil => intro l; simp
    | cons r rs ih =>
      intro l
      have h1 := ih (withL l ⟨r.a, r.l⟩)
      have h2 := withL_length l ⟨r.a, r.l⟩
      simp only [List.foldl_cons, List.length_cons]
      omega
  have := key rows []
  simpa [cutsOf] using this
theorem Chain.len : ∀ {a e : Int} {L : List Row}, Chain a L e → (∀ r ∈ L, rowOk r = true) → (L.length : Int) ≤ e - a
  | a, e, [], h, _ => by have h : a = e := h; simp; omega
  | a, e, r :: L, ⟨hr, h⟩, hs => by
    have h1 := Chain.len h (fun q hq => hs q (List.mem_cons_of_mem _ hq))
    have h2 := row_size (ok_right (hs r (List.mem_cons_self ..))).1
    simp only [List.length_cons]
    omega
theorem right_length {L : List Row} (h : refRight none 0 L = true) : L.length ≤ 4294967296 := by
  obtain ⟨h1, h2, _⟩ := (refRight_iff L none 0 (by simp)).1 h
  have := Chain.len h1 h2
  omega
def RMPost (w : World) (rows : List Row) (e : Ending) (w' : World) : Prop :=
  if refRight none 0 rows = true then ∃ b fp, e = .returned (.tuple #[.pointer (some ⟨b, 0, none⟩), .int .i64 0]) ∧ RefAt w' (cutsOf rows) b fp ∧ (∀ k ∈ fp, w.heap.size ≤ k) ∧ Below w.heap.size w w'
  else e = .returned (.tuple #[.pointer none, .int .i64 40]) ∧ Below w.heap.size w w'
def RMI (w : World) (rows : List Row) (b : Nat) (x6 : Value) (wr : World) : Prop :=
  ∃ (k : Nat) (v : Value), k ≤ rows.length ∧ x6 = .int .i64 (k : Int) ∧ Blk wr b [v] 78 ∧ OwnCuts 0 wr v (cutsOf (rows.take k)) ∧ v.ownBlock ≠ some b ∧ (∀ q, v.ownBlock = some q → w.heap.size ≤ q) ∧ Below w.heap.size w wr
theorem rrows_yes {A : Option Addr} {c : Nat} {rows : List Row} {x : Bool} (w : World) (hR : RowsIn w A rows) (h : refRight none 0 rows = x) :
    Calls Try.prog 50 #[.slice A rows.length c] w fun e w' => e = .returned (.bool x) ∧ Below w.heap.size w w' := by
  subst h
  exact rrows_any A c rows w hR
set_option maxHeartbeats 8000000 in
set_option maxRecDepth 100000 in
theorem rmake_any (A : Option Addr) (c : Nat) (rows : List Row) (w : World) (hR : RowsIn w A rows) :
    Calls Try.prog 33 #[.slice A rows.length c] w (RMPost w rows) := by
  have hlen := hR.1
  have HR := Hid.mk_ hR
  clear hR
  cases hx : refRight none 0 rows with
  | false =>
    have HX := Hid.mk_ hx
    have hp : RMPost w rows = fun e w' => e = .returned (.tuple #[.pointer none, .int .i64 40]) ∧ Below w.heap.size w w' := by funext e w'; unfold RMPost; rw [hx]; exact if_neg (by decide)
    rw [hp]
    clear hp
    clear hx
    go_enter Try.func33, Try.ntmps33
    go_wp2_with (first | (go_at_call 50; (with_reducible refine (rrows_yes _ HR.out HX.out).mono ?_); rintro e w1 ⟨rfl, hb1⟩))
    go_ret2
    exact ⟨rfl, hb1⟩
  | true =>
    have HX := Hid.mk_ hx
    have hL := right_length hx
    have hp : RMPost w rows = fun e w' => ∃ b fp, e = .returned (.tuple #[.pointer (some ⟨b, 0, none⟩), .int .i64 0]) ∧ RefAt w' (cutsOf rows) b fp ∧ (∀ k ∈ fp, w.heap.size ≤ k) ∧ Below w.heap.size w w' := by funext e w'; unfold RMPost; rw [hx]; exact if_pos rfl
    rw [hp]
    clear hp
    clear hx
    go_enter Try.func33, Try.ntmps33
    go_wp2_with (first | (go_at_call 50; (with_reducible refine (rrows_yes _ HR.out HX.out).mono ?_); rintro e w1 ⟨rfl, hb1⟩))
    obtain ⟨b, hb⟩ : ∃ b, b = w1.heap.size := ⟨_, rfl⟩
    have hs1 := hb1.size
    rw [← hb]
    have HBB := Hid.mk_ hb
    have hs2 : w.heap.size ≤ b := by omega
    clear hb
    go_loopw [6] (fun x6 wr => RMI w rows b x6 wr) (fun x6 _ => rows.length - (intOf x6).toNat)
    case atStart =>
      refine ⟨0, .slice none 0 0, Nat.zero_le _, rfl, ?_, World.ownsRow_nil _ _ _ _, by simp [Value.ownBlock], by simp [Value.ownBlock], hb1.alloc hs1 _⟩
      rw [HBB.out]
      exact Blk.new w1 [.slice none 0 0] 78
    case round =>
      obtain ⟨k, v, hk, rfl, hblk, hown, hvb, hvq, hB⟩ := hrel
      by_cases hlt : k < rows.length
      · have hlt1 : (k : Int) < rows.length := by omega
        obtain ⟨g, o, rfl, hc⟩ := HR.out.2 (by omega)
        obtain ⟨c0, c1, c2⟩ := hc k hlt
        have hgl : g < w.heap.size := World.block_lt_of_cell? w _ c0
        have q0 := (hB.cell (p := ⟨g, o + k * 3, none⟩) hgl).trans c0
        have q2 := (hB.cell (p := ⟨g, o + k * 3 + 2, none⟩) hgl).trans c2
        have hT : rows.take (k + 1) = rows.take k ++ [rows[k]'hlt] := List.take_succ_eq_append_getElem hlt
        obtain ⟨r, hr⟩ : ∃ r, r = rows[k]'hlt := ⟨_, rfl⟩
        rw [← hr] at q0 q2 hT
        have hcl := cutsOf_length (rows.take k)
        rw [List.length_take] at hcl
        have hcl2 : (cutsOf (rows.take k)).length ≤ 4294967296 := by omega
        have hcut : cutsOf (rows.take (k + 1)) = withL (cutsOf (rows.take k)) ⟨r.a, r.l⟩ := by rw [hT, cutsOf_snoc]
        obtain ⟨l, hl⟩ : ∃ l, l = cutsOf (rows.take k) := ⟨_, rfl⟩
        rw [← hl] at hcut hown hcl2
        have hwith := fun W => with_any 0 v l ⟨r.a, r.l⟩ W
        have hc0 := hblk.cell 0
        simp at hc0
        have HW := Hid.mk_ hwith
        have HCUT := Hid.mk_ hcut
        have hbl := hblk.lt
        have HBLK := Hid.mk_ hblk
        have HOWN := Hid.mk_ hown
        have HVB := Hid.mk_ hvb
        have hblw : ∀ W (hm : Mods (fun q => v.ownBlock = some q) wr.drew W), Blk W b [v] 78 ∧ W.cell? ⟨b, 0, none⟩ = some v ∧ W.cell? ⟨g, o + k * 3, none⟩ = some (.int .i64 r.a) ∧ W.cell? ⟨g, o + k * 3 + 2, none⟩ = some (.int .i64 r.l) := by
          intro W hm
          have h1 : Blk W b [v] 78 := hblk.drew.mods (S := fun q => v.ownBlock = some q) hm hvb
          have h2 : W.heap[g]? = wr.drew.heap[g]? := hm.block g (by have := hB.size; simp; omega) (fun e => by have := hvq g e; omega)
          exact ⟨h1, h1.cell 0, (World.cell?_of_block (w := wr.drew) (a := ⟨g, o + k * 3, none⟩) h2).trans q0, (World.cell?_of_block (w := wr.drew) (a := ⟨g, o + k * 3 + 2, none⟩) h2).trans q2⟩
        have HBLW := Hid.mk_ hblw
        have HVQ := Hid.mk_ hvq
        clear hblk hown hvb hcut hwith hc hr hT hl hblw c0 c1 c2 hvq hcl
        go_wp2_with fail
        go_region_law (first | (go_simp; go_at_call 44; (with_reducible refine (HW.out wr.drew HOWN.out.drew (Nat.zero_le _) hcl2).mono ?_); rintro e w2 ⟨v2, rfl, hown2, hm2, hloc2⟩; obtain ⟨A2, cp2, rfl⟩ := own_shape hown2; have hK := (HBLW.out w2 hm2).2; have hb2 := (HBLW.out w2 hm2).1; have hfr := hb2.free 0; have hbl2 := hb2.lt))
        all_goals (
          go_wp2_with fail
          have hne2 : (Value.slice A2 (withL l ⟨r.a, r.l⟩).length cp2).ownBlock ≠ some b := by
            rcases hloc2 with h | ⟨q, h, hq⟩
            · rw [h]; exact HVB.out
            · rw [h]; intro e; cases e; have : wr.heap.size ≤ b := hq; omega
          have hB2 : Below w.heap.size w w2 := hB.trans (((Mods.refl (fun q => v.ownBlock = some q) wr).drewN 1).trans hm2 (fun _ _ h => h) |>.below hB.size (fun q _ e => HVQ.out q e))
          refine ⟨⟨k + 1, _, by omega, by go_num, hb2.set 0 _, ?_, hne2, ?_, hB2.setCell (by show w.heap.size ≤ b; omega) _⟩, by simp [intOf]; omega⟩
          · rw [HCUT.out]
            exact ownsRow_setCell_other hown2 hne2 _
          · intro q hq
            rcases hloc2 with h | ⟨q', h, hq'⟩
            · exact HVQ.out q (h ▸ hq)
            · rw [h] at hq; cases hq
              have := hB.size
              have : wr.heap.size ≤ q := hq'
              omega)
      · have hge : ¬ ((k : Int) < rows.length) := by omega
        have hT : rows.take k = rows := List.take_of_length_le (by omega)
        rw [hT] at hown
        go_wp2_with fail
        go_ret2
        exact ⟨b, rfl, b :: v.ownBlock.toList, ⟨v, hblk, hown, hvb, rfl⟩, fun q hq => by
          rcases List.mem_cons.1 hq with rfl | hq
          · omega
          · exact hvq q (by simpa using hq), hB⟩
end Go.Proofs.Ytphmmpdeehfhjaa
