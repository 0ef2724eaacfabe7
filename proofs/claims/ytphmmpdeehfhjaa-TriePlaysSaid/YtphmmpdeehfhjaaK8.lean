/- side.made: both Makes, of rows lent in a list that is looked at again. -/
import Derived.Test.YtphmmpdeehfhjaaK6
import Derived.Laws.CopyOwn
import Derived.Laws.MakeOwn
namespace Go.Proofs.Ytphmmpdeehfhjaa
open Go.RowKit
set_option linter.unusedVariables false
set_option linter.unusedSimpArgs false
/-- copy of elements of more than one cell, all of them, to a row's head -/
theorem run_copy_many {P : Program} (w : World) (dT sT ty elem : TypeId) (s g dLen dCap : Nat) (sp : Option Addr) (sLen sCap : Nat) (cur : List Value) (t : TypeId) (cs : List Value)
    (hu : P.underlying dT = some (.slice elem)) (hs : (P.info? elem).map (·.size) = some s)
    (hg : w.heap[g]? = some (.cells cur.toArray t (0, 0))) (hle : sLen ≤ dLen) (hn : cs.length = sLen * s)
    (hsrc : 0 < sLen → ∃ a, sp = some a ∧ ∀ j v, cs[j]? = some v → w.cell? (a.add j) = some v) (hfit : cs.length ≤ cur.length) (h1 : ∀ v ∈ cs, v.oneCell' = true) :
    (Builtin.copy_ #[dT, sT] ty #[.slice (some ⟨g, 0, none⟩) dLen dCap, .slice sp sLen sCap]).run P w =
      .ok (goInt sLen) (w.setRow g (cs ++ cur.drop cs.length).toArray) := by
  have hst := run_storeCells_at P g 0 t cs 0 cur.toArray w hg (by simpa using hfit) h1
  simp only [Nat.add_zero, Nat.zero_add, List.take_zero, List.nil_append] at hst
  have hmin : Nat.min sLen dLen = sLen := Nat.min_eq_left hle
  have hmin2 : min sLen dLen = sLen := Nat.min_eq_left hle
  cases hq : P.info? elem with
  | none => simp [hq] at hs
  | some i =>
    have hi : i.size = s := by simpa [hq] using hs
    by_cases h0 : 0 < sLen
    · obtain ⟨a, rfl, hsrc'⟩ := hsrc h0
      have hl := run_loadCells_list (P := P) w a cs hsrc'
      rw [hn] at hl
      simp [Builtin.copy_, run_underlying hu, Builtin.lenOf, Builtin.firstCells, sizeOf, typeInfo, hq, hi, hmin, hmin2, hl, hst]
    · obtain rfl : sLen = 0 := by omega
      have hc : cs = [] := List.eq_nil_of_length_eq_zero (by omega)
      subst hc
      have hw : w.setRow g cur.toArray = w := setRow_self w g cur.toArray t (0, 0) hg
      have hl : ∀ a, Sem.run P (loadCells a 0) w = Result.ok #[] w := fun a => by
        have := run_loadCells_list (P := P) w a [] (by simp)
        simpa using this
      cases sp with
      | none => simp [Builtin.copy_, run_underlying hu, Builtin.lenOf, Builtin.firstCells, sizeOf, typeInfo, hq, hi, storeCells, hw]
      | some a => simp [Builtin.copy_, run_underlying hu, Builtin.lenOf, Builtin.firstCells, sizeOf, typeInfo, hq, hi, storeCells, hw, hl]
end Go.Proofs.Ytphmmpdeehfhjaa
namespace Go.Proofs.Ytphmmpdeehfhjaa
open Go.RowKit
set_option linter.unusedVariables false
set_option linter.unusedSimpArgs false
def zrow : Row := ⟨0, 0, 0⟩
def lent (rows : List Row) : List Row := rows ++ List.replicate 3 zrow
theorem zrows (n : Nat) : rowsCells (List.replicate n zrow) = List.replicate (n * 3) (.int .i64 0) := by
  induction n with
  | zero => rfl
  | succ n ih =>
    rw [List.replicate_succ, show rowsCells (zrow :: List.replicate n zrow) = zrow.cells ++ rowsCells (List.replicate n zrow) from rfl, ih, show (n + 1) * 3 = 3 + n * 3 by omega, ← List.replicate_append_replicate]
    rfl
theorem made_zrows (n : Nat) : madeCells (Value.agg #[.int .i64 0, .int .i64 0, .int .i64 0]).cells (n * 3) = (rowsCells (List.replicate n zrow)).toArray := by
  rw [zrows]
  unfold madeCells
  apply Array.ext
  · simp
  · intro i h1 h2
    simp only [Array.getElem_map, Array.getElem_range, List.getElem_toArray, List.getElem_replicate]
    have h3 : (Value.agg #[.int .i64 0, .int .i64 0, .int .i64 0]).cells = #[Value.int .i64 0, .int .i64 0, .int .i64 0] := by simp [Value.cells]
    rw [h3]
    have : i % 3 = 0 ∨ i % 3 = 1 ∨ i % 3 = 2 := by omega
    rcases this with h | h | h <;> simp [h]
theorem make_rows (n : Nat) (hn : n ≤ 2147483650) (w : World) :
    (Instr.makeSlice 44 (.int .i64 (n : Int)) (.int .i64 (n : Int))).run Try.prog w = .ok (.slice (some ⟨w.heap.size, 0, none⟩) n n) (w.alloc (.cells (rowsCells (List.replicate n zrow)).toArray 65)) := by
  obtain ⟨i0, hi, hz0, hz1, hz2⟩ := info_parts Try.info65
  have h := run_make (P := Try.prog) w 44 65 i0 _ Try.underlying44 hi hz0 .i64 .i64 n n (by omega) (by omega) (by rw [hz2]; omega) (by omega)
  simp only [Int.toNat_natCast] at h
  rw [h, hz1, made_zrows]
/-- behind make and copy -/
theorem lend_any {A : Option Addr} {c : Nat} {rows : List Row} {w : World} (hR : RowsIn w A rows) (hn : rows.length ≤ 2147483647) :
    ∃ W2, (Builtin.copy_ #[44, 44] 3 #[.slice (some ⟨w.heap.size, 0, none⟩) (rows.length + 3) (rows.length + 3), .slice A rows.length c]).run Try.prog (w.alloc (.cells (rowsCells (List.replicate (rows.length + 3) zrow)).toArray 65)) = .ok (goInt rows.length) W2 ∧
      Blk W2 w.heap.size (rowsCells (lent rows)) 65 ∧ Below w.heap.size w W2 := by
  obtain ⟨i0, hi, hz0, hz1, hz2⟩ := info_parts Try.info65
  have hg : (w.alloc (.cells (rowsCells (List.replicate (rows.length + 3) zrow)).toArray 65)).heap[w.heap.size]? = some (.cells (rowsCells (List.replicate (rows.length + 3) zrow)).toArray 65 (0, 0)) := heap_alloc_new w _
  have hB : Below w.heap.size w (w.alloc (.cells (rowsCells (List.replicate (rows.length + 3) zrow)).toArray 65)) := (Below.refl _ _).alloc (Nat.le_refl _) _
  have hrun := run_copy_many (P := Try.prog) _ 44 44 3 65 3 w.heap.size (rows.length + 3) (rows.length + 3) A rows.length c (rowsCells (List.replicate (rows.length + 3) zrow)) 65 (rowsCells rows) Try.underlying44 (by rw [hi]; simp [hz1]) hg (by omega) (rowsCells_length _)
    (fun h0 => by
      obtain ⟨g, o, rfl, hc⟩ := hR.2 h0
      refine ⟨_, rfl, fun j v hj => ?_⟩
      have hlt : j < rows.length * 3 := by
        rw [← rowsCells_length]
        exact (List.getElem?_eq_some_iff.1 hj).1
      have hk : j / 3 < rows.length := by omega
      obtain ⟨c0, c1, c2⟩ := hc (j / 3) hk
      have hgl : g < w.heap.size := World.block_lt_of_cell? w _ c0
      have e : j = j / 3 * 3 + j % 3 := by omega
      have hv := rowsCells_get rows (j / 3) (j % 3) hk (by omega)
      rw [← e, hj] at hv
      have ea : (⟨g, o, none⟩ : Addr).add j = ⟨g, o + j, none⟩ := by
        unfold Addr.add
        split
        · rename_i hz; rw [hz]; rfl
        · rfl
      rw [ea, hB.cell (p := ⟨g, o + j, none⟩) hgl, hv]
      have h3 : j % 3 = 0 ∨ j % 3 = 1 ∨ j % 3 = 2 := by omega
      have e2 : o + j = o + j / 3 * 3 + j % 3 := by omega
      rw [e2]
      rcases h3 with h3 | h3 | h3 <;> rw [h3]
      · rw [Nat.add_zero, c0]; rfl
      · rw [c1]; rfl
      · rw [c2]; rfl)
    (by rw [rowsCells_length, rowsCells_length, List.length_replicate]; omega)
    (fun v hv => by
      obtain ⟨r, _, hr⟩ := List.mem_flatMap.1 hv
      simp [Row.cells] at hr
      rcases hr with rfl | rfl | rfl <;> rfl)
  refine ⟨_, hrun, ?_, below_setRow hB (Nat.le_refl _) _⟩
  have hrow := setRow_heap _ w.heap.size _ (rowsCells rows ++ (rowsCells (List.replicate (rows.length + 3) zrow)).drop (rowsCells rows).length).toArray 65 (0, 0) hg
  unfold Blk
  rw [hrow]
  congr 3
  rw [lent, rowsCells_append, rowsCells_length, zrows, zrows, List.drop_replicate]
  congr 2
  congr 1
  omega
/-- both are made, or neither -/
def BothMade (w : World) (rows : List Row) (sb : Nat) (e : Ending) (w' : World) : Prop :=
  e = .returned (.bool true) ∧ ((MakeOf rows = none ∧ Below w.heap.size w w') ∨ ∃ t a fp b fr, MakeOf rows = some t ∧ Blk w' sb [.pointer (some ⟨a, 0, none⟩), .pointer (some ⟨b, 0, none⟩)] 39 ∧ TrieAt w' t a fp ∧ RefAt w' (cutsOf rows) b fr ∧
    (∀ k ∈ fp, w.heap.size ≤ k) ∧ (∀ k ∈ fr, w.heap.size ≤ k ∧ k ∉ fp) ∧ Mods (· = sb) w w')
def MadeRel (w : World) (rows : List Row) (pa : Option Addr) (ee : Int) (w' : World) : Prop :=
  (MakeOf rows = none ∧ pa = none ∧ ee = 40) ∨ ∃ t a fp, MakeOf rows = some t ∧ pa = some ⟨a, 0, none⟩ ∧ ee = 0 ∧ TrieAt w' t a fp ∧ ∀ k ∈ fp, w.heap.size ≤ k
theorem make_rel (A : Option Addr) (c : Nat) (rows : List Row) (w : World) (hR : RowsIn w A rows) :
    Calls Try.prog 22 #[.slice A rows.length c] w fun e w' => ∃ pa ee, e = .returned (.tuple #[.pointer pa, .int .i64 ee]) ∧ MadeRel w rows pa ee w' ∧ Below w.heap.size w w' := by
  refine (make_any A c rows w hR).mono ?_
  intro e w' h
  unfold MakePost at h
  cases hm : MakeOf rows with
  | none => rw [hm] at h; exact ⟨_, _, h.1, .inl ⟨hm, rfl, rfl⟩, h.2⟩
  | some t =>
    rw [hm] at h
    obtain ⟨a, fp, he, ht, hf, hb⟩ := h
    exact ⟨_, _, he, .inr ⟨t, a, fp, hm, rfl, rfl, ht, hf⟩, hb⟩
def MDI (w3 : World) (rows : List Row) (g N : Nat) (x8 : Value) (wr : World) : Prop :=
  ∃ (k : Nat) (cur : List Value), k ≤ N ∧ x8 = .int .i64 (k : Int) ∧ Blk wr g cur 65 ∧ cur.length = N * 3 ∧ cur.drop (k * 3) = (rowsCells (lent rows)).drop (k * 3) ∧ Mods (· = g) w3 wr
theorem lent_z {rows : List Row} {k : Nat} (hll : k < (lent rows).length) (h : rows.length ≤ k) : (lent rows)[k]'hll = zrow := by
  have h1 : (lent rows)[k]? = some zrow := by
    unfold lent at hll ⊢
    rw [List.getElem?_append_right h, List.getElem?_replicate, if_pos (by simp at hll; omega)]
  rw [List.getElem?_eq_getElem hll] at h1
  exact Option.some.inj h1
theorem MDI.next {w3 wr : World} {rows : List Row} {g N k n : Nat} {cur : List Value} {O : Obj} {x y z : Value} (hblk : Blk wr g cur 65) (hcl : cur.length = N * 3) (hcd : cur.drop (k * 3) = (rowsCells (lent rows)).drop (k * 3)) (hm : Mods (· = g) w3 wr) (hlt : k < N) :
    MDI w3 rows g N (.int .i64 ((k : Int) + 1)) (((((wr.alloc O).drewN n).setCell ⟨g, k * 3, none⟩ x).setCell ⟨g, k * 3 + 1, none⟩ y).setCell ⟨g, k * 3 + 2, none⟩ z) := by
  refine ⟨k + 1, _, by omega, by go_num, (((hblk.alloc O).drewN n).set _ x).set _ y |>.set _ z, by simpa using hcl, ?_, ((((hm.alloc O).drewN n).setCell (fun _ => rfl) x).setCell (fun _ => rfl) y).setCell (fun _ => rfl) z⟩
  rw [List.drop_set_of_lt (by omega), List.drop_set_of_lt (by omega), List.drop_set_of_lt (by omega), show (k + 1) * 3 = k * 3 + 3 by omega, ← List.drop_drop, hcd, List.drop_drop]
theorem rmake_none {A : Option Addr} {c : Nat} {rows : List Row} (w : World) (hR : RowsIn w A rows) (hm : MakeOf rows = none) :
    Calls Try.prog 33 #[.slice A rows.length c] w fun e w' => e = .returned (.tuple #[.pointer none, .int .i64 40]) ∧ Below w.heap.size w w' := by
  refine (rmake_any A c rows w hR).mono ?_
  intro e w' h
  unfold RMPost at h
  rw [refRight_make, hm] at h
  exact h
theorem rmake_some {A : Option Addr} {c : Nat} {rows : List Row} {t : Tr} (w : World) (hR : RowsIn w A rows) (hm : MakeOf rows = some t) :
    Calls Try.prog 33 #[.slice A rows.length c] w fun e w' => ∃ b fp, e = .returned (.tuple #[.pointer (some ⟨b, 0, none⟩), .int .i64 0]) ∧ RefAt w' (cutsOf rows) b fp ∧ (∀ k ∈ fp, w.heap.size ≤ k) ∧ Below w.heap.size w w' := by
  refine (rmake_any A c rows w hR).mono ?_
  intro e w' h
  unfold RMPost at h
  rw [refRight_make, hm] at h
  exact h
theorem RefAt.move {w w' : World} {l : List Cut} {b : Nat} {fp : List Nat} (h : RefAt w l b fp) (hm : ∀ k ∈ fp, w'.heap[k]? = w.heap[k]?) : RefAt w' l b fp := by
  obtain ⟨v, h1, h2, h3, rfl⟩ := h
  exact ⟨v, h1.move (hm b (List.mem_cons_self ..)), own_move h2 (fun k hk => hm k (by simp [hk])), h3, rfl⟩
theorem RefAt.lt {w : World} {l : List Cut} {b : Nat} {fp : List Nat} (h : RefAt w l b fp) : ∀ k ∈ fp, k < w.heap.size := by
  obtain ⟨v, h1, h2, h3, rfl⟩ := h
  intro k hk
  rcases List.mem_cons.1 hk with rfl | hk
  · exact h1.lt
  · exact (h2.lt k (by simpa using hk)).2
theorem RefAt.new {w w' : World} {l : List Cut} {b : Nat} {fp : List Nat} (h : RefAt w l b fp) (hm : Below w.heap.size w w') : RefAt w' l b fp := h.move fun k hk => hm.block k (h.lt k hk)
theorem RefAt.mods {S : Nat → Prop} {w w' : World} {l : List Cut} {b : Nat} {fp : List Nat} (h : RefAt w l b fp) (hm : Mods S w w') (hs : ∀ k ∈ fp, ¬ S k) : RefAt w' l b fp :=
  h.move fun k hk => hm.block k (h.lt k hk) (hs k hk)
set_option maxHeartbeats 8000000 in
set_option maxRecDepth 100000 in
theorem made_any (A : Option Addr) (c : Nat) (rows : List Row) (w : World) (sb : Nat) (p q : Value) (hR : RowsIn w A rows) (hlen : rows.length ≤ 2147483647) (hS : Blk w sb [p, q] 39) :
    Calls Try.prog 14 #[.pointer (some ⟨sb, 0, none⟩), .slice A rows.length c] w (BothMade w rows sb) := by
  obtain ⟨N, hN⟩ : ∃ N, N = rows.length + 3 := ⟨_, rfl⟩
  have hmk := make_rows N (by omega) w
  obtain ⟨W2, hcp, hblk2, hB2⟩ := lend_any (c := c) hR hlen
  rw [← hN] at hcp
  have hw1 : IntKind.i64.wrap ((rows.length : Int) + 3) = N := by rw [IntKind.wrap_i64]; omega
  have hw2 : wrap64 ((rows.length : Int) + 3) = N := by unfold wrap64; omega
  have hNi : (rows.length : Int) + 3 = N := by omega
  have HR := Hid.mk_ hR
  have HN := Hid.mk_ hN
  have HBLK := Hid.mk_ hblk2
  have HB2 := Hid.mk_ hB2
  have HS := Hid.mk_ hS
  have hle : (rows.length : Int) ≤ N := by omega
  have hleN : rows.length ≤ N := by omega
  have hN1 : N ≤ 2147483650 := by omega
  clear hR hN hblk2 hB2 hS
  obtain ⟨g, hg⟩ : ∃ g, g = w.heap.size := ⟨_, rfl⟩
  have hmk2 : ∀ W (h : RowsIn W (some ⟨g, 0, none⟩) rows), Calls Try.prog 22 #[.slice (some ⟨g, 0, none⟩) rows.length N] W fun e w' => ∃ pa ee, e = .returned (.tuple #[.pointer pa, .int .i64 ee]) ∧ MadeRel W rows pa ee w' ∧ Below W.heap.size W w' := fun W h => make_rel (some ⟨g, 0, none⟩) N rows W h
  have hin : RowsIn W2 (some ⟨g, 0, none⟩) rows := by
    refine ⟨by omega, fun h0 => ⟨g, 0, rfl, fun j hj => ?_⟩⟩
    have hc : ∀ i, i < 3 → W2.cell? ⟨g, 0 + j * 3 + i, none⟩ = (rows[j]'hj).cells[i]? := fun i hi => by
      have hb := HBLK.out.cell (0 + j * 3 + i)
      rw [← hg] at hb
      have hj2 : j < (lent rows).length := by simp [lent]; omega
      rw [hb, Nat.zero_add, rowsCells_get (lent rows) j i hj2 hi]
      simp [lent, hj]
    exact ⟨hc 0 (by omega), hc 1 (by omega), hc 2 (by omega)⟩
  have HIN := Hid.mk_ hin
  have HMK := Hid.mk_ hmk2
  have hgw : g < W2.heap.size := by have := HBLK.out.lt; rw [← hg] at this; exact this
  have HG := Hid.mk_ hg
  rw [← hg] at hmk hcp
  rw [← hg] at HBLK
  clear hin hmk2
  have HHMK := Hid.mk_ hg
  clear hg
  go_enter Try.func14, Try.ntmps14
  go_wp2_with (first | (go_at_call 22; (with_reducible refine (HMK.out _ HIN.out).mono ?_); rintro e w3 ⟨pa, ee, rfl, hrel, hb3⟩))
  have HREL := Hid.mk_ hrel
  have HB3 := Hid.mk_ hb3
  have hblk3 := HBLK.out.below hb3 hgw
  have HBLK3 := Hid.mk_ hblk3
  have hg3 : g < w3.heap.size := hblk3.lt
  clear hrel hb3 hblk3
  go_loopw [8] (fun x8 wr => MDI w3 rows g N x8 wr) (fun x8 _ => N - (intOf x8).toNat)
  case atStart => exact ⟨0, _, Nat.zero_le _, rfl, HBLK3.out, by rw [rowsCells_length, HN.out]; simp [lent], rfl, Mods.refl _ _⟩
  case round =>
    obtain ⟨k, cur, hk, rfl, hblk, hcl, hcd, hm⟩ := hrel
    have HBK := Hid.mk_ hblk
    have HCD := Hid.mk_ hcd
    have HM := Hid.mk_ hm
    have hgr : g < wr.heap.size := hblk.lt
    by_cases hlt : k < N
    · have hlt1 : (k : Int) < N := by omega
      have hll : k < (lent rows).length := by simp [lent]; have := HN.out; omega
      have hcell : ∀ i, i < 3 → wr.cell? ⟨g, k * 3 + i, none⟩ = ((lent rows)[k]'hll).cells[i]? := fun i hi => by
        rw [hblk.cell, ← rowsCells_get (lent rows) k i hll hi]
        have h1 : cur[k * 3 + i]? = (cur.drop (k * 3))[i]? := by rw [List.getElem?_drop]
        rw [h1, hcd, List.getElem?_drop]
      obtain ⟨r, hr⟩ : ∃ r, r = (lent rows)[k]'hll := ⟨_, rfl⟩
      rw [← hr] at hcell
      have d0 : wr.cell? ⟨g, k * 3, none⟩ = some (.int .i64 r.a) := hcell 0 (by omega)
      have d1 : wr.cell? ⟨g, k * 3 + 1, none⟩ = some (.int .i64 r.b) := hcell 1 (by omega)
      have d2 : wr.cell? ⟨g, k * 3 + 2, none⟩ = some (.int .i64 r.l) := hcell 2 (by omega)
      have f0 := hblk.free (k * 3)
      have f1 := hblk.free (k * 3 + 1)
      have f2 := hblk.free (k * 3 + 2)
      have heq := row_eq r r
      rw [decide_eq_true rfl] at heq
      have hgn : ¬ g = wr.heap.size := by omega
      have HRR := Hid.mk_ hr
      clear hcell hblk hcd hm hr
      by_cases hkl : k < rows.length
      · have hkl1 : (k : Int) < rows.length := by omega
        obtain ⟨gA, o, rfl, hc⟩ := HR.out.2 (by omega)
        obtain ⟨c0, c1, c2⟩ := hc k hkl
        have hgA : gA < w.heap.size := World.block_lt_of_cell? w _ c0
        have hrr : rows[k]'hkl = r := by rw [HRR.out]; simp [lent, hkl]
        rw [hrr] at c0 c1 c2
        have hbA : wr.heap[gA]? = w.heap[gA]? := by
          have h1 := HM.out.block gA (by have := HB2.out.size; have := HB3.out.size; omega) (show ¬ gA = g by have := HG.out; omega)
          have h2 := HB3.out.block gA (by have := HB2.out.size; omega)
          have h3 := HB2.out.block gA hgA
          rw [h1, h2, h3]
        have q0 := (World.cell?_of_block (w := w) (w' := wr) (a := ⟨gA, o + k * 3, none⟩) hbA).trans c0
        have q1 := (World.cell?_of_block (w := w) (w' := wr) (a := ⟨gA, o + k * 3 + 1, none⟩) hbA).trans c1
        have q2 := (World.cell?_of_block (w := w) (w' := wr) (a := ⟨gA, o + k * 3 + 2, none⟩) hbA).trans c2
        have hgAn : ¬ gA = wr.heap.size := by have := HG.out; omega
        have hgAl : gA < wr.heap.size := by have := HG.out; omega
        clear c0 c1 c2 hc hbA hrr
        go_wp2_with fail
        go_quiet (fail)
        go_wp2_with fail
        exact ⟨MDI.next HBK.out hcl HCD.out HM.out hlt, by simp [intOf]; omega⟩
      · have hkl1 : ¬ ((k : Int) < rows.length) := by omega
        have hrz : r = zrow := by rw [HRR.out]; exact lent_z hll (by omega)
        rw [hrz] at d0 d1 d2 heq
        have e0 : zrow.a = 0 := rfl
        have e1 : zrow.b = 0 := rfl
        have e2 : zrow.l = 0 := rfl
        rw [e0] at d0 heq
        rw [e1] at d1 heq
        rw [e2] at d2 heq
        clear e0 e1 e2 hrz
        go_wp2_with fail
        go_quiet (fail)
        go_wp2_with fail
        exact ⟨MDI.next HBK.out hcl HCD.out HM.out hlt, by simp [intOf]; omega⟩
    · have hge : ¬ ((k : Int) < N) := by omega
      have hRr : RowsIn wr A rows := HR.out.move fun gA o e hgA => by
        have h1 := HM.out.block gA (by have := HB2.out.size; have := HB3.out.size; omega) (show ¬ gA = g by have := HG.out; omega)
        have h2 := HB3.out.block gA (by have := HB2.out.size; omega)
        have h3 := HB2.out.block gA hgA
        rw [h1, h2, h3]
      have HRR := Hid.mk_ hRr
      clear hRr hblk hcd hm
      have hsz2 := HB2.out.size
      have hsz3 := HB3.out.size
      have hszr := HM.out.size
      have hsb : sb < w.heap.size := HS.out.lt
      rcases HREL.out with ⟨m1, rfl, rfl⟩ | ⟨t, a, fp, m1, rfl, rfl, ht, hfp⟩
      · have HM1 := Hid.mk_ m1
        clear m1
        go_wp2_with (first | (go_at_call 33; (with_reducible refine (rmake_none _ HRR.out HM1.out).mono ?_); rintro e w5 ⟨rfl, hb5⟩))
        go_ret
        have hgg := HG.out
        refine ⟨rfl, .inl ⟨HM1.out, ?_⟩⟩
        have h3 : Below w.heap.size w w3 := HB2.out.trans (HB3.out.mono hsz2)
        exact (h3.trans (HM.out.below (by omega) (fun q _ e => by omega))).trans (hb5.mono (by omega))
      · have HM1 := Hid.mk_ m1
        have HHT := Hid.mk_ ht
        have HFP := Hid.mk_ hfp
        have hs5 : Blk wr sb [p, q] 39 := HS.out.move (by
            have hgg := HG.out
            have h1 := HM.out.block sb (by omega) (show ¬ sb = g by omega)
            have h2 := HB3.out.block sb (by omega)
            have h3 := HB2.out.block sb hsb
            rw [h1, h2, h3])
        have HS5 := Hid.mk_ (fun (W : World) (h : Below wr.heap.size wr W) => And.intro (hs5.below h hs5.lt) (And.intro ((hs5.below h hs5.lt).cell 0) (And.intro ((hs5.below h hs5.lt).cell 1) (And.intro ((hs5.below h hs5.lt).free 0) ((hs5.below h hs5.lt).free 1)))))
        clear m1 ht hfp hs5
        go_wp2_with (first | (go_at_call 33; (with_reducible refine (rmake_some _ HRR.out HM1.out).mono ?_); rintro e w5 ⟨b, fr, rfl, hr, hfr, hb5⟩; obtain ⟨hs5, s0, s1, t0, t1⟩ := HS5.out w5 hb5; have hs5l := hs5.lt; have HS6 := Hid.mk_ hs5; have HHR := Hid.mk_ hr; have HHB5 := Hid.mk_ hb5; have HFR := Hid.mk_ hfr; clear hs5 hr hb5 hfr))
        go_ret
        have hgg := HG.out
        have hsz5 := HHB5.out.size
        have hmm : Mods (· = sb) w5 ((w5.setCell ⟨sb, 0, none⟩ (.pointer (some ⟨a, 0, none⟩))).setCell ⟨sb, 1, none⟩ (.pointer (some ⟨b, 0, none⟩))) := ((Mods.refl (· = sb) w5).setCell (p := ⟨sb, 0, none⟩) (fun _ => rfl) _).setCell (p := ⟨sb, 1, none⟩) (fun _ => rfl) _
        have ht5 : TrieAt w5 t a fp := (HHT.out.mods HM.out (fun q hq e => by have := HFP.out q hq; omega)).new HHB5.out
        refine ⟨rfl, .inr ⟨t, a, fp, b, fr, HM1.out, (HS6.out.set 0 _).set 1 _, ht5.mods hmm (fun q hq e => by have := HFP.out q hq; omega), HHR.out.mods hmm (fun q hq e => by have := HFR.out q hq; omega), fun q hq => by have := HFP.out q hq; omega, fun q hq => ⟨by have := HFR.out q hq; omega, fun h => by have := HFR.out q hq; have := HHT.out.lt q h; omega⟩, ?_⟩⟩
        have h3 : Below w.heap.size w w3 := HB2.out.trans (HB3.out.mono hsz2)
        have h5 : Below w.heap.size w w5 := (h3.trans (HM.out.below (by omega) (fun q _ e => by omega))).trans (HHB5.out.mono (by omega))
        exact (Mods.of_new (S := fun k => k = sb) h5).trans hmm (fun _ _ e => e)
end Go.Proofs.Ytphmmpdeehfhjaa
