import Derived.Test.YtphmmpdeehfhjaaB1
import Derived.Test.YtphmmpdeehfhjaaTm
namespace Go.Proofs.Ytphmmpdeehfhjaa
open Go.RowKit
set_option linter.unusedVariables false
set_option linter.unusedSimpArgs false
/-- rows that a slice's address leads to -/
def RowsIn (w : World) (A : Option Addr) (rows : List Row) : Prop :=
  rows.length ≤ 9223372036854775807 ∧ (0 < rows.length → ∃ g o, A = some ⟨g, o, none⟩ ∧ ∀ j (hj : j < rows.length), w.cell? ⟨g, o + j * 3, none⟩ = some (.int .i64 (rows[j]'hj).a) ∧ w.cell? ⟨g, o + j * 3 + 1, none⟩ = some (.int .i64 (rows[j]'hj).b) ∧ w.cell? ⟨g, o + j * 3 + 2, none⟩ = some (.int .i64 (rows[j]'hj).l))
theorem RowsIn.move {w w' : World} {A : Option Addr} {rows : List Row} (h : RowsIn w A rows) (hm : ∀ g o, A = some ⟨g, o, none⟩ → g < w.heap.size → w'.heap[g]? = w.heap[g]?) : RowsIn w' A rows := by
  refine ⟨h.1, fun hn => ?_⟩
  obtain ⟨g, o, hA, hc⟩ := h.2 hn
  refine ⟨g, o, hA, fun j hj => ?_⟩
  have hl := World.block_lt_of_cell? w _ (hc j hj).1
  have hb := hm g o hA hl
  exact ⟨(World.cell?_of_block (w := w) (a := ⟨g, o + j * 3, none⟩) hb).trans (hc j hj).1, (World.cell?_of_block (w := w) (a := ⟨g, o + j * 3 + 1, none⟩) hb).trans (hc j hj).2.1, (World.cell?_of_block (w := w) (a := ⟨g, o + j * 3 + 2, none⟩) hb).trans (hc j hj).2.2⟩
theorem RowsIn.new {w w' : World} {A : Option Addr} {rows : List Row} (h : RowsIn w A rows) (hB : Below w.heap.size w w') : RowsIn w' A rows := h.move fun _ _ _ hg => hB.block _ hg
def rowOk (r : Row) : Bool := rightB r.a r.b && decide (0 ≤ r.l ∧ r.l ≤ 65535)
def mk : Tr → List Row → Option Tr
  | t, [] => some t
  | t, r :: rs => if rowOk r = true then mk (t.put r.a r.l r.b.toNat 0) rs else none
theorem tput_any (t : Tr) (a : Nat) (fp : List Nat) (r : Row) (w : World) (h : TrieAt w t a fp) : Calls Try.prog 18 #[.pointer (some ⟨a, 0, none⟩), .agg #[.int .i64 r.a, .int .i64 r.b], .int .i64 r.l] w fun e w' =>
    ∃ fp', e = .returned (.int .i64 (if rowOk r = true then 0 else 1)) ∧ TrieAt w' (if rowOk r = true then Tr.put r.a r.l r.b.toNat 0 t else t) a fp' ∧ (∀ k ∈ fp', k ∈ fp ∨ w.heap.size ≤ k) ∧ Mods (· ∈ fp) w w' := by
  by_cases hr : rightB r.a r.b = true
  · by_cases hl : 0 ≤ r.l ∧ r.l ≤ 65535
    · have hk : rowOk r = true := by simp [rowOk, hr, hl]
      rw [if_pos hk, if_pos hk]
      exact (tput_yes t a fp r.a r.b r.l w h hr hl.1 hl.2).mono fun e w' h => h
    · have hk : ¬ rowOk r = true := by simp [rowOk, hr]; omega
      rw [if_neg hk, if_neg hk]
      exact (tput_nol t a fp r.a r.b r.l w h hr hl).mono fun e w' ⟨he, hb⟩ => ⟨fp, he, h.new hb, fun k hk => .inl hk, Mods.of_new hb⟩
  · have hk : ¬ rowOk r = true := by simp [rowOk, hr]
    rw [if_neg hk, if_neg hk]
    exact (tput_no t a fp r.a r.b r.l w h (by simpa using hr)).mono fun e w' ⟨he, hb⟩ => ⟨fp, he, h.new hb, fun k hk => .inl hk, Mods.of_new hb⟩
theorem tput_good {t : Tr} {a : Nat} {fp : List Nat} {r : Row} {w : World} (h : TrieAt w t a fp) (hk : rowOk r = true) : Calls Try.prog 18 #[.pointer (some ⟨a, 0, none⟩), .agg #[.int .i64 r.a, .int .i64 r.b], .int .i64 r.l] w (TputPost w (Tr.put r.a r.l r.b.toNat 0 t) a fp) := by
  have h2 := tput_any t a fp r w h
  rwa [if_pos hk, if_pos hk] at h2
theorem tput_bad {t : Tr} {a : Nat} {fp : List Nat} {r : Row} {w : World} (h : TrieAt w t a fp) (hk : rowOk r = false) : Calls Try.prog 18 #[.pointer (some ⟨a, 0, none⟩), .agg #[.int .i64 r.a, .int .i64 r.b], .int .i64 r.l] w fun e w' => ∃ fp', e = .returned (.int .i64 1) ∧ TrieAt w' t a fp' ∧ (∀ k ∈ fp', k ∈ fp ∨ w.heap.size ≤ k) ∧ Mods (· ∈ fp) w w' := by
  have h2 := tput_any t a fp r w h
  rwa [if_neg (by simp [hk]), if_neg (by simp [hk])] at h2
def MakeOf (rows : List Row) : Option Tr := (mk (.leaf 0) rows).bind fun t => if t.all 0 0 = rows then some t else none
def MakePost (w : World) (r : Option Tr) (e : Ending) (w' : World) : Prop :=
  match r with
  | none => e = .returned (.tuple #[.pointer none, .int .i64 40]) ∧ Below w.heap.size w w'
  | some t => ∃ a fp, e = .returned (.tuple #[.pointer (some ⟨a, 0, none⟩), .int .i64 0]) ∧ TrieAt w' t a fp ∧ (∀ k ∈ fp, w.heap.size ≤ k) ∧ Below w.heap.size w w'
/-- at the head of Make's first loop: k rows are put -/
def MI (w : World) (rows : List Row) (a : Nat) (x15 : Value) (wr : World) : Prop :=
  ∃ (k : Nat) (t : Tr) (fp : List Nat), k ≤ rows.length ∧ x15 = .int .i64 (k : Int) ∧ mk (.leaf 0) rows = mk t (rows.drop k) ∧ t.ht ≤ 32 ∧ TrieAt wr t a fp ∧ (∀ q ∈ fp, w.heap.size ≤ q) ∧ Below w.heap.size w wr
/-- at the head of Make's second loop: k rows are alike -/
def MI2 (w2 : World) (rows out : List Row) (x36 : Value) (wr : World) : Prop :=
  ∃ k : Nat, k ≤ out.length ∧ x36 = .int .i64 (k : Int) ∧ out.take k = rows.take k ∧ Below w2.heap.size w2 wr
theorem Drawn_below (w : World) (n : Nat) {B : Nat} : Below B w (w.drewN n) := ⟨rfl, rfl, rfl, Nat.le_refl _, fun _ _ => rfl⟩
theorem row_cells {w : World} {gg : Nat} {cur : Array Value} {out : List Row} {k : Nat} (hcur' : w.heap[gg]? = some (.cells cur 65 (0, 0))) (htk : cur.toList.take (out.length * 3) = rowsCells out) (hlt : k < out.length) :
    w.cell? ⟨gg, k * 3, none⟩ = some (.int .i64 (out[k]'hlt).a) ∧ w.cell? ⟨gg, k * 3 + 1, none⟩ = some (.int .i64 (out[k]'hlt).b) ∧ w.cell? ⟨gg, k * 3 + 2, none⟩ = some (.int .i64 (out[k]'hlt).l) := by
  have h : ∀ j, j < 3 → w.cell? ⟨gg, k * 3 + j, none⟩ = (out[k]'hlt).cells[j]? := fun j hj => by
    rw [← rowsCells_get out k j hlt hj, ← htk, List.getElem?_take, if_pos (by omega)]
    simp [World.cell?, hcur']
  exact ⟨h 0 (by omega), h 1 (by omega), h 2 (by omega)⟩
theorem row_eq (q r : Row) : ∀ w, (Op.equalIn 10000 65 (.agg #[.int .i64 q.a, .int .i64 q.b, .int .i64 q.l]) (.agg #[.int .i64 r.a, .int .i64 r.b, .int .i64 r.l])).run Try.prog w = .ok (decide (q = r)) w := by
  intro w
  obtain ⟨a, b, l⟩ := q
  obtain ⟨x, y, z⟩ := r
  go_simp
  by_cases h1 : a = x <;> by_cases h2 : b = y <;> by_cases h3 : l = z <;> simp [h1, h2, h3]
theorem make_any (A : Option Addr) (c : Nat) (rows : List Row) (w : World) (hR : RowsIn w A rows) :
    Calls Try.prog 22 #[.slice A rows.length c] w (MakePost w (MakeOf rows)) := by
  have hlen := hR.1
  have HR := Hid.mk_ hR
  clear hR
  go_enter Try.func22, Try.ntmps22
  go_wp2_with (go_at_call 26; refine (leaf_any _ _).mono ?_; rintro e w' ⟨rfl, rfl⟩)
  go_loopw [15] (fun x15 wr => MI w rows (w.heap.size + 1) x15 wr) (fun x15 _ => rows.length - (intOf x15).toNat)
  case atStart =>
    refine ⟨0, .leaf 0, [w.heap.size + 1, w.heap.size], Nat.zero_le _, rfl, rfl, by simp [Tr.ht], ⟨w.heap.size, [w.heap.size], rfl, ?_, ⟨rfl, ?_⟩, by simp⟩, by simp, ?_⟩
    · have h := Blk.new (w.alloc (.cells #[.int .i64 0, .pointer none, .pointer none] 85)) [.pointer (some ⟨w.heap.size, 0, none⟩)] 73
      rw [World.size_alloc] at h
      exact h
    · exact (Blk.new w (nodeCells 0 none none) 85).alloc _
    · exact ((Below.refl _ _).alloc (Nat.le_refl _) _).alloc (by simp) _
  case round =>
    obtain ⟨k, t, fp, hk, rfl, hm, hh, hT, hfp, hB⟩ := hrel
    have HM := Hid.mk_ hm
    clear hm
    by_cases hlt : k < rows.length
    · have hlt1 : (k : Int) < rows.length := by omega
      obtain ⟨g, o, rfl, hc⟩ := HR.out.2 (by omega)
      obtain ⟨c0, c1, c2⟩ := hc k hlt
      have hgl := World.block_lt_of_cell? w _ c0
      have q0 := (hB.cell (p := ⟨g, o + k * 3, none⟩) hgl).trans c0
      have q1 := (hB.cell (p := ⟨g, o + k * 3 + 1, none⟩) hgl).trans c1
      have q2 := (hB.cell (p := ⟨g, o + k * 3 + 2, none⟩) hgl).trans c2
      obtain ⟨r, hr⟩ : ∃ r, r = rows[k]'hlt := ⟨_, rfl⟩
      rw [← hr] at q0 q1 q2
      have HRR := Hid.mk_ hr
      clear hr c0 c1 c2 hc
      have n0 : ¬ g = wr.heap.size := by have := hB.size; simp at hgl; omega
      cases hok : rowOk r with
      | true =>
        go_wp2_with (go_at_call 18; refine (tput_good (hT.new ((Below.refl _ _).alloc (Nat.le_refl _) _)) hok).mono ?_; rintro e w2 ⟨fp2, rfl, hT2, hs2, hm2⟩)
        have hb2 : 0 ≤ r.b ∧ r.b ≤ 32 := by
          have h := hok
          simp [rowOk, rightB] at h
          omega
        have hn2 : mk t (rows.drop k) = mk (t.put r.a r.l r.b.toNat 0) (rows.drop (k + 1)) := by
          rw [List.drop_eq_getElem_cons hlt, mk, ← HRR.out, if_pos hok]
        have hBm : Below w.heap.size w w2 := hB.trans (((Mods.refl (· ∈ fp) wr).alloc (.cells #[.int .i64 r.a, .int .i64 r.b, .int .i64 r.l] 65)).trans hm2 (fun _ _ h => h) |>.below hB.size (fun q _ hq => hfp q hq))
        exact ⟨⟨k + 1, _, fp2, by omega, by congr 1, HM.out.trans hn2, Tr.ht_put _ _ _ _ _ _ hh (by omega), hT2, fun q hq => (hs2 q hq).elim (hfp q) (fun h => by have := hB.size; simp at h; omega), hBm⟩, by simp [intOf]; omega⟩
      | false =>
        go_wp2_with (go_at_call 18; refine (tput_bad (hT.new ((Below.refl _ _).alloc (Nat.le_refl _) _)) hok).mono ?_; rintro e w2 ⟨fp2, rfl, hT2, hs2, hm2⟩)
        go_ret2
        have hn2 : mk t (rows.drop k) = none := by
          rw [List.drop_eq_getElem_cons hlt, mk, ← HRR.out, if_neg (by simp [hok])]
        have hBm : Below w.heap.size w w2 := hB.trans (((Mods.refl (· ∈ fp) wr).alloc (.cells #[.int .i64 r.a, .int .i64 r.b, .int .i64 r.l] 65)).trans hm2 (fun _ _ h => h) |>.below hB.size (fun q _ hq => hfp q hq))
        unfold MakePost MakeOf
        rw [HM.out, hn2]
        exact ⟨rfl, hBm⟩
    · have hk2 : k = rows.length := by omega
      have hmk : Hid (mk (.leaf 0) rows = some t) := by rw [HM.out, hk2, List.drop_length]; rfl
      clear HM
      have hge : ¬ ((k : Int) < rows.length) := by omega
      obtain ⟨out, hout⟩ : ∃ out, out = t.all 0 0 := ⟨_, rfl⟩
      have hrw := Hid.mk_ (rows_any t _ fp _ hT hh)
      rw [← hout] at hrw
      have HO := Hid.mk_ hout
      clear hout
      by_cases hlen2 : out.length = rows.length
      · have hl1 : out.length ≤ rows.length := by omega
        have hl2 : rows.length ≤ out.length := by omega
        have hne : ((out.length : Int) != (rows.length : Int)) = false := by simp; omega
        clear hlen2
        go_wp2_with (go_at_call 16; refine hrw.out.mono ?_; rintro e w2 ⟨gg, cur, rfl, hg2, hcur, htk, hB2⟩)
        have hBw2 : Below w.heap.size w w2 := hB.trans (hB2.mono hB.size)
        have hT2 := hT.new hB2
        go_loopw [36] (fun x36 wr => MI2 w2 rows out x36 wr) (fun x36 _ => out.length - (intOf x36).toNat)
        case atStart => exact ⟨0, Nat.zero_le _, rfl, by simp, Below.refl _ _⟩
        case round =>
          obtain ⟨k, hk, rfl, htake, hBr⟩ := hrel
          have HTK := Hid.mk_ htake
          clear htake
          by_cases hlt : k < out.length
          · have hlt1 : (k : Int) < out.length := by omega
            have hlt2 : (k : Int) < rows.length := by omega
            have hltr : k < rows.length := by omega
            obtain ⟨g, o, rfl, hc⟩ := HR.out.2 (by omega)
            obtain ⟨c0, c1, c2⟩ := hc k hltr
            have hgl := World.block_lt_of_cell? w _ c0
            have hBwr : Below w.heap.size w wr := hBw2.trans (hBr.mono hBw2.size)
            have q0 := fun O => ((hBwr.alloc hBwr.size O).cell (p := ⟨g, o + k * 3, none⟩) hgl).trans c0
            have q1 := fun O => ((hBwr.alloc hBwr.size O).cell (p := ⟨g, o + k * 3 + 1, none⟩) hgl).trans c1
            have q2 := fun O => ((hBwr.alloc hBwr.size O).cell (p := ⟨g, o + k * 3 + 2, none⟩) hgl).trans c2
            have hgc := (Array.getElem?_eq_some_iff.1 hcur).1
            obtain ⟨p0, p1, p2⟩ := row_cells (hcur' := (hBr.block gg hgc).trans hcur) htk hlt
            obtain ⟨r, hr⟩ : ∃ r, r = rows[k]'hltr := ⟨_, rfl⟩
            obtain ⟨q, hq⟩ : ∃ q, q = out[k]'hlt := ⟨_, rfl⟩
            rw [← hr] at q0 q1 q2
            rw [← hq] at p0 p1 p2
            have HRR := Hid.mk_ hr
            have HQQ := Hid.mk_ hq
            have n0 : ¬ g = wr.heap.size := by have := hBwr.size; simp at hgl; omega
            have n1 : ¬ gg = wr.heap.size := by have := hBr.size; omega
            clear hr hq c0 c1 c2 hc hcur htk
            have heq := row_eq q r
            by_cases hqr : q = r
            · rw [decide_eq_true hqr] at heq
              have HQR := Hid.mk_ hqr
              clear hqr
              go_wp2_with fail
              go_quiet (fail)
              go_wp2_with fail
              have ht2 : out.take (k + 1) = rows.take (k + 1) := by
                rw [List.take_succ_eq_append_getElem hlt, List.take_succ_eq_append_getElem hltr, HTK.out, ← HQQ.out, ← HRR.out, HQR.out]
              exact ⟨⟨k + 1, by omega, by congr 1, ht2, (hBr.alloc hBr.size _).trans (Drawn_below _ _)⟩, by simp [intOf]; omega⟩
            · rw [decide_eq_false hqr] at heq
              have HQR := Hid.mk_ hqr
              clear hqr
              go_wp2_with fail
              go_quiet (fail)
              go_wp2_with fail
              go_ret2
              unfold MakePost MakeOf
              rw [hmk.out, Option.bind_some, if_neg (fun e => ?hh)]
              case hh =>
                refine HQR.out ?_
                rw [HQQ.out, HRR.out]
                have e2 : out = rows := by rw [HO.out, e]
                subst e2
                rfl
              exact ⟨rfl, hBw2.trans (((hBr.alloc hBr.size _).trans (Drawn_below _ _)).mono hBw2.size)⟩
          · have hk3 : k = out.length := by omega
            have hge2 : ¬ ((k : Int) < out.length) := by omega
            have e2 : out = rows := by
              have h := HTK.out
              rw [hk3, List.take_length] at h
              have h2 : rows.take out.length = rows := List.take_of_length_le hl2
              rw [h, h2]
            have HE := Hid.mk_ e2
            clear e2
            go_wp2_with fail
            go_ret2
            unfold MakePost MakeOf
            rw [hmk.out, Option.bind_some, if_pos (by rw [← HO.out, HE.out])]
            exact ⟨_, fp, rfl, hT2.new hBr, hfp, hBw2.trans (hBr.mono hBw2.size)⟩
      · have hne : ((out.length : Int) != (rows.length : Int)) = true := by simp; omega
        go_wp2_with (go_at_call 16; refine hrw.out.mono ?_; rintro e w2 ⟨gg, cur, rfl, hg2, hcur, htk, hB2⟩)
        go_ret2
        unfold MakePost MakeOf
        rw [hmk.out, Option.bind_some, if_neg (fun e => hlen2 (by rw [HO.out, e]))]
        exact ⟨rfl, hB.trans (hB2.mono hB.size)⟩
#print axioms make_any
end Go.Proofs.Ytphmmpdeehfhjaa
