import Derived.Test.YtphmmpdeehfhjaaL1
namespace Go.Proofs.Ytphmmpdeehfhjaa
open Go.RowKit
set_option linter.unusedVariables false
set_option linter.unusedSimpArgs false
/-- the last address of a row -/
def Row.hi (r : Row) : Int := r.a + 2 ^ (32 - r.b).toNat - 1
def lastI (l : List Row) (first n : Int) : Int := l.foldl (fun out r => if r.a ≤ n ∧ n ≤ r.hi then r.l else out) first
theorem lastI_snoc (l : List Row) (r : Row) (first n : Int) : lastI (l ++ [r]) first n = if r.a ≤ n ∧ n ≤ r.hi then r.l else lastI l first n := by simp [lastI]
theorem lastI_snoc_yes {l : List Row} {r : Row} {first n : Int} (h : r.a ≤ n ∧ n ≤ r.hi) : lastI (l ++ [r]) first n = r.l := by rw [lastI_snoc, if_pos h]
theorem lastI_snoc_no {l : List Row} {r : Row} {first n : Int} (h : ¬ (r.a ≤ n ∧ n ≤ r.hi)) : lastI (l ++ [r]) first n = lastI l first n := by rw [lastI_snoc, if_neg h]
def LastI (l : List Row) (first n : Int) (w : World) (x7 x8 : Value) (wr : World) : Prop :=
  ∃ (k : Nat) (out : Int), k ≤ l.length ∧ x8 = .int .i64 (k : Int) ∧ x7 = .int .i64 out ∧ out = lastI (l.take k) first n ∧ Below w.heap.size w wr
theorem range_hi (r : Row) (w : World) (h : rightB r.a r.b = true) :
    Calls Try.prog 19 #[.agg #[.int .i64 r.a, .int .i64 r.b]] w fun e w' => e = .returned (.tuple #[.agg #[.int .i64 r.a, .int .i64 r.hi], .int .i64 0]) ∧ Below w.heap.size w w' := range_yes r.a r.b w h
set_option maxRecDepth 100000 in
theorem last_any (A : Option Addr) (c : Nat) (l : List Row) (first n : Int) (w : World) (hl : RowsIn w A l) (hok : ∀ r ∈ l, rightB r.a r.b = true) :
    Calls Try.prog 21 #[.slice A l.length c, .int .i64 first, .int .i64 n] w fun e w' => e = .returned (.int .i64 (lastI l first n)) ∧ Below w.heap.size w w' := by
  have hlen := hl.1
  have HL := Hid.mk_ hl
  have HO := Hid.mk_ hok
  clear hl hok
  go_enter Try.func21, Try.ntmps21
  go_wp2_with fail
  go_loopw [7, 8] (fun x7 x8 wr => LastI l first n w x7 x8 wr) (fun _ x _ => l.length - (intOf x).toNat)
  case atStart => exact ⟨0, first, Nat.zero_le _, rfl, rfl, rfl, Below.refl _ _⟩
  case round =>
    obtain ⟨k, out, hk, rfl, rfl, hout, hB⟩ := hrel
    have HOUT := Hid.mk_ hout
    clear hout
    by_cases hlt : k < l.length
    · have hlt1 : (k : Int) < l.length := by omega
      obtain ⟨g, o, rfl, hc⟩ := HL.out.2 (by omega)
      obtain ⟨c0, c1, c2⟩ := hc k hlt
      have hgl : g < w.heap.size := World.block_lt_of_cell? w _ c0
      have q0 := (hB.cell (p := ⟨g, o + k * 3, none⟩) hgl).trans c0
      have q1 := (hB.cell (p := ⟨g, o + k * 3 + 1, none⟩) hgl).trans c1
      have q2 := (hB.cell (p := ⟨g, o + k * 3 + 2, none⟩) hgl).trans c2
      have hw := HO.out _ (List.getElem_mem hlt)
      have hT : l.take (k + 1) = l.take k ++ [l[k]'hlt] := List.take_succ_eq_append_getElem hlt
      obtain ⟨r, hr⟩ : ∃ r, r = l[k]'hlt := ⟨_, rfl⟩
      rw [← hr] at q0 q1 q2 hw hT
      have HW := Hid.mk_ hw
      have HT := Hid.mk_ hT
      have hsz := hB.size
      clear hr c0 c1 c2 hc hw hT
      by_cases h1 : r.a ≤ n
      · by_cases h2 : n ≤ r.hi
        · have H2 := Hid.mk_ h2
          go_wp2_with (go_at_call 19; (refine (range_hi r _ HW.out).mono ?_); rintro e w1 ⟨rfl, hb⟩; obtain ⟨hbc, hbf⟩ := bcell hb; have hz : wr.heap.size ≤ w1.heap.size := hb.size; have p2 := (hb.cell (p := ⟨g, o + k * 3 + 2, none⟩) (show g < wr.heap.size by omega)).trans q2; have n1 : ¬ g = w1.heap.size := (by omega); have n2 : g < w1.heap.size := (by omega))
          go_roundw
          case rel => exact ⟨k + 1, r.l, by omega, by go_num, rfl, by rw [HT.out, lastI_snoc_yes ⟨h1, h2⟩], ((hB.trans (hb.mono hsz)).alloc (by omega) _)⟩
          case measure => simp [intOf]; omega
        · have H2 := Hid.mk_ h2
          go_wp2_with (go_at_call 19; (refine (range_hi r _ HW.out).mono ?_); rintro e w1 ⟨rfl, hb⟩; obtain ⟨hbc, hbf⟩ := bcell hb; have hz : wr.heap.size ≤ w1.heap.size := hb.size; have p2 := (hb.cell (p := ⟨g, o + k * 3 + 2, none⟩) (show g < wr.heap.size by omega)).trans q2; have n1 : ¬ g = w1.heap.size := (by omega); have n2 : g < w1.heap.size := (by omega))
          go_roundw
          case rel => exact ⟨k + 1, out, by omega, by go_num, rfl, by rw [HT.out, lastI_snoc_no (fun h => by have := H2.out; omega), HOUT.out], ((hB.trans (hb.mono hsz)).alloc (by omega) _)⟩
          case measure => simp [intOf]; omega
      · have H1 := Hid.mk_ h1
        go_wp2_with (go_at_call 19; (refine (range_hi r _ HW.out).mono ?_); rintro e w1 ⟨rfl, hb⟩; obtain ⟨hbc, hbf⟩ := bcell hb; have hz : wr.heap.size ≤ w1.heap.size := hb.size; have p2 := (hb.cell (p := ⟨g, o + k * 3 + 2, none⟩) (show g < wr.heap.size by omega)).trans q2; have n1 : ¬ g = w1.heap.size := (by omega); have n2 : g < w1.heap.size := (by omega))
        go_roundw
        case rel => exact ⟨k + 1, out, by omega, by go_num, rfl, by rw [HT.out, lastI_snoc_no (fun h => by have := H1.out; omega), HOUT.out], ((hB.trans (hb.mono hsz)).alloc (by omega) _)⟩
        case measure => simp [intOf]; omega
    · have hge : ¬ ((k : Int) < l.length) := by omega
      go_wp2_with fail
      go_ret
      refine ⟨?_, hB⟩
      rw [HOUT.out, List.take_of_length_le (by omega)]
      rfl
end Go.Proofs.Ytphmmpdeehfhjaa
