/- The document's own right rows: the walk. -/
import Derived.Test.YtphmmpdeehfhjaaK3
namespace Go.Proofs.Ytphmmpdeehfhjaa
open Go.RowKit
set_option linter.unusedVariables false
set_option linter.unusedSimpArgs false
def RRI (w : World) (rows : List Row) (x3 x4 : Value) (wr : World) : Prop :=
  ∃ (k : Nat) (next : Int), k ≤ rows.length ∧ x4 = .int .i64 (k : Int) ∧ x3 = .int .i64 next ∧ refRight none 0 rows = refRight (rows.take k).getLast? next (rows.drop k) ∧ Below w.heap.size w wr
def RRPost (w : World) (rows : List Row) (e : Ending) (w' : World) : Prop := e = .returned (.bool (refRight none 0 rows)) ∧ Below w.heap.size w w'
/-- a call behind a struct laid down: what lay there, and the struct -/
theorem laid_pair {wr w1 : World} {t : TypeId} {x y : Value} (hb : Below (wr.alloc (.cells #[x, y] t)).heap.size (wr.alloc (.cells #[x, y] t)) w1) :
    (∀ g i v, g < wr.heap.size → wr.cell? ⟨g, i, none⟩ = some v → w1.cell? ⟨g, i, none⟩ = some v) ∧ w1.cell? ⟨wr.heap.size, 0, none⟩ = some x ∧ w1.cell? ⟨wr.heap.size, 1, none⟩ = some y ∧ wr.heap.size < w1.heap.size := by
  have hbl := (Blk.new wr [x, y] t).below hb (by simp)
  refine ⟨fun g i v hg h => ?_, hbl.cell 0, hbl.cell 1, hbl.lt⟩
  exact ((((Below.refl wr.heap.size wr).alloc (Nat.le_refl _) _).trans (hb.mono (by simp))).cell (p := ⟨g, i, none⟩) hg).trans h
theorem rsize_quiet2 {b s : Int} (hs : s = 2 ^ (32 - b).toNat) (h0 : 0 ≤ b) (h1 : b ≤ 32) (w : World) (n k : Nat) :
    Calls Try.prog 43 #[.int .i64 b] (w.drewN (n + k)) fun e w'' => e = .returned (.int .i64 s) ∧ ∃ m, w'' = w.drewN (n + m) := (rsize_at hs h0 h1 _).mono fun _ _ ⟨he, hm⟩ => ⟨he, k, hm.symm⟩
set_option maxHeartbeats 8000000 in
set_option maxRecDepth 100000 in
theorem rrows_any (A : Option Addr) (c : Nat) (rows : List Row) (w : World) (hR : RowsIn w A rows) :
    Calls Try.prog 50 #[.slice A rows.length c] w (RRPost w rows) := by
  have hlen := hR.1
  have HR := Hid.mk_ hR
  clear hR
  go_enter Try.func50, Try.ntmps50
  go_wp2_with fail
  go_loopw [3, 4] (fun x3 x4 wr => RRI w rows x3 x4 wr) (fun _ x _ => rows.length - (intOf x).toNat)
  case atStart => exact ⟨0, 0, Nat.zero_le _, rfl, rfl, rfl, Below.refl _ _⟩
  case round =>
    obtain ⟨k, next, hk, rfl, rfl, hrr, hB⟩ := hrel
    have HRR := Hid.mk_ hrr
    clear hrr
    by_cases hlt : k < rows.length
    · have hlt1 : (k : Int) < rows.length := by omega
      obtain ⟨g, o, rfl, hc⟩ := HR.out.2 (by omega)
      obtain ⟨c0, c1, c2⟩ := hc k hlt
      have hgl : g < w.heap.size := World.block_lt_of_cell? w _ c0
      have q0 := (hB.cell (p := ⟨g, o + k * 3, none⟩) hgl).trans c0
      have q1 := (hB.cell (p := ⟨g, o + k * 3 + 1, none⟩) hgl).trans c1
      have q2 := (hB.cell (p := ⟨g, o + k * 3 + 2, none⟩) hgl).trans c2
      have hd : rows.drop k = rows[k]'hlt :: rows.drop (k + 1) := List.drop_eq_getElem_cons hlt
      have hT : (rows.take (k + 1)).getLast? = some (rows[k]'hlt) := by rw [List.take_succ_eq_append_getElem hlt, List.getLast?_concat]
      obtain ⟨r, hr⟩ : ∃ r, r = rows[k]'hlt := ⟨_, rfl⟩
      rw [← hr] at q0 q1 q2 hd hT
      have hst : Hid (refRight none 0 rows = if rowOk r = true then if r.a = next then if half? (rows.take k).getLast? r = true then false else refRight (some r) (r.a + 2 ^ (32 - r.b).toNat) (rows.drop (k + 1)) else false else false) := by rw [HRR.out, hd, refRight]; exact rfl
      have HT := Hid.mk_ hT
      have HRW := Hid.mk_ hr
      have hsz := hB.size
      have hgn : ¬ g = wr.heap.size := by omega
      have hgw : g < wr.heap.size := by omega
      have HC := Hid.mk_ hc
      clear hr c0 c1 c2 hd hT hc HRR
      have hbA : ∀ O : Obj, Below w.heap.size w (wr.alloc O) := fun O => hB.alloc hsz O
      have HBA := Hid.mk_ hbA
      clear hbA
      cases hrb : rightB r.a r.b with
      | false =>
        have e0 : Hid (refRight none 0 rows = false) := by rw [hst.out, if_neg (by simp [rowOk, hrb])]; exact rfl
        have HRB := Hid.mk_ hrb
        clear hrb
        go_wp2_with (first
          | (go_at_call 42; (with_reducible refine (rright_at HRB.out _).mono ?_); rintro e w1 ⟨rfl, hb1⟩; obtain ⟨hc1, s0, s1, hz1⟩ := laid_pair hb1; have p0 := hc1 _ _ _ hgw q0; have p1 := hc1 _ _ _ hgw q1; have p2 := hc1 _ _ _ hgw q2; have hg1 : g < w1.heap.size := (by omega); have HC1 := Hid.mk_ hc1; clear hc1)
          | (go_at_call 27; (with_reducible refine (rlabel_any _ _).mono ?_); rintro e w' ⟨rfl, rfl⟩))
        go_ret
        exact ⟨by rw [e0.out]; rfl, (HBA.out _).trans (hb1.mono (by simp; omega))⟩
      | true =>
        have HRB := Hid.mk_ hrb
        cases hlb : decide (0 ≤ r.l ∧ r.l ≤ 65535) with
        | false =>
          have e0 : Hid (refRight none 0 rows = false) := by rw [hst.out, if_neg (by simp [rowOk, hrb, -decide_eq_true_eq, hlb])]; exact rfl
          have HLB := Hid.mk_ hlb
          clear hrb hlb
          go_wp2_with (first
            | (go_at_call 42; (with_reducible refine (rright_at HRB.out _).mono ?_); rintro e w1 ⟨rfl, hb1⟩; obtain ⟨hc1, s0, s1, hz1⟩ := laid_pair hb1; have p0 := hc1 _ _ _ hgw q0; have p1 := hc1 _ _ _ hgw q1; have p2 := hc1 _ _ _ hgw q2; have hg1 : g < w1.heap.size := (by omega); have HC1 := Hid.mk_ hc1; clear hc1)
            | (go_at_call 27; (with_reducible refine (rlabel_at HLB.out _).mono ?_); rintro e w' ⟨rfl, rfl⟩))
          go_ret
          exact ⟨by rw [e0.out]; rfl, (HBA.out _).trans (hb1.mono (by simp; omega))⟩
        | true =>
          have HLB := Hid.mk_ hlb
          have hok : rowOk r = true := by unfold rowOk; rw [hrb, hlb]; rfl
          rw [if_pos hok] at hst
          clear hrb hlb
          by_cases hnx : r.a = next
          · subst hnx
            rw [if_pos rfl] at hst
            obtain ⟨b0, b1, a0, a1⟩ : 0 ≤ r.b ∧ r.b ≤ 32 ∧ 0 ≤ r.a ∧ r.a ≤ 4294967295 := by
              have h : 0 ≤ r.b ∧ r.b ≤ 32 ∧ 0 ≤ r.a ∧ r.a ≤ 4294967295 ∧ _ := of_decide_eq_true HRB.out
              exact ⟨h.1, h.2.1, h.2.2.1, h.2.2.2.1⟩
            obtain ⟨S, hS⟩ : ∃ S : Int, S = 2 ^ (32 - r.b).toNat := ⟨_, rfl⟩
            obtain ⟨S1, S2⟩ : 1 ≤ S ∧ S ≤ 4294967296 := by rw [hS]; exact pow_bits r.b b0 b1
            rw [← hS] at hst
            have hsz := fun W n => rsize_quiet hS b0 b1 W n
            have HSZ := Hid.mk_ hsz
            have HSZ2 := Hid.mk_ (fun W n k => rsize_quiet2 hS b0 b1 W n k)
            have hwa : IntKind.i64.wrap (r.a + S) = r.a + S := by rw [IntKind.wrap_i64]; omega
            have HS := Hid.mk_ hS
            clear hsz hS
            go_wp2_with (first
              | (go_at_call 42; (with_reducible refine (rright_at HRB.out _).mono ?_); rintro e w1 ⟨rfl, hb1⟩; obtain ⟨hc1, s0, s1, hz1⟩ := laid_pair hb1; have p0 := hc1 _ _ _ hgw q0; have p1 := hc1 _ _ _ hgw q1; have p2 := hc1 _ _ _ hgw q2; have hg1 : g < w1.heap.size := (by omega); have HC1 := Hid.mk_ hc1; clear hc1)
              | (go_at_call 27; (with_reducible refine (rlabel_at HLB.out _).mono ?_); rintro e w' ⟨rfl, rfl⟩))
            have hend : ∀ n, Below w.heap.size w (w1.drewN n) := fun n => ((HBA.out _).trans (hb1.mono (by simp; omega))).trans (Drawn_below _ _)
            have HEND := Hid.mk_ hend
            have HB1 := Hid.mk_ hb1
            clear hend hb1
            by_cases hk0 : (0 : Int) < k
            · obtain ⟨j, hj⟩ : ∃ j : Nat, (k : Int) - 1 = j := ⟨k - 1, by omega⟩
              have hjl : j < rows.length := by omega
              have hjl1 : (j : Int) < rows.length := by omega
              have hjk : j + 1 = k := by omega
              obtain ⟨c0, c1, c2⟩ := HC.out j hjl
              have hbw : ∀ i v, w.cell? ⟨g, i, none⟩ = some v → w1.cell? ⟨g, i, none⟩ = some v := fun i v h => HC1.out _ _ _ hgw ((hB.cell (p := ⟨g, i, none⟩) hgl).trans h)
              have d0 := hbw _ _ c0
              have d1 := hbw _ _ c1
              have d2 := hbw _ _ c2
              have hlast : (rows.take k).getLast? = some (rows[j]'hjl) := by rw [← hjk, List.take_succ_eq_append_getElem hjl, List.getLast?_concat]
              obtain ⟨p, hp⟩ : ∃ p, p = rows[j]'hjl := ⟨_, rfl⟩
              rw [← hp] at d0 d1 d2 hlast
              rw [hlast] at hst
              have hst : Hid (refRight none 0 rows = if halfOf p r = true then false else refRight (some r) (r.a + S) (rows.drop (k + 1))) := hst
              have hw1 : IntKind.i64.wrap ((k : Int) - 1) = j := by rw [hj, IntKind.wrap_i64]; omega
              have hk0n : 0 < k := by omega
              have t1 : decide ((0 : Int) < k) = true := decide_eq_true hk0
              have t1n : decide (0 < k) = true := decide_eq_true hk0n
              clear hbw c0 c1 c2 hp hlast hj
              by_cases h1 : 0 < r.b
              · have t2 : decide (0 < r.b) = true := decide_eq_true h1
                by_cases h2 : p.b = r.b
                · rw [h2] at d1
                  by_cases h3 : p.l = r.l
                  · rw [h3] at d2
                    obtain ⟨m, hm⟩ : ∃ m, m = r.a / S % 2 := ⟨_, rfl⟩
                    have hq0 : 0 ≤ r.a / S := Int.ediv_nonneg a0 (by omega)
                    have hq1 : r.a / S ≤ r.a := Int.ediv_le_self _ a0
                    obtain ⟨q, hq⟩ : ∃ q, q = r.a / S := ⟨_, rfl⟩
                    rw [← hq] at hq0 hq1 hm
                    have hd1 : IntKind.i64.wrap (r.a.tdiv S) = q := by rw [Int.tdiv_eq_ediv_of_nonneg a0, ← hq, IntKind.wrap_i64]; omega
                    have hd2 : IntKind.i64.wrap (q.tmod 2) = m := by rw [Int.tmod_eq_emod_of_nonneg hq0, ← hm, IntKind.wrap_i64]; omega
                    have hd3 : r.a.tdiv S = q := by rw [Int.tdiv_eq_ediv_of_nonneg a0, ← hq]
                    have hd4 : q.tmod 2 = m := by rw [Int.tmod_eq_emod_of_nonneg hq0, ← hm]
                    have hwq : IntKind.i64.wrap q = q := by rw [IntKind.wrap_i64]; omega
                    have hwm : IntKind.i64.wrap m = m := by rw [IntKind.wrap_i64]; omega
                    have S0 : ¬ S = 0 := by omega
                    have hhalf : halfOf p r = decide (m = 1) := by
                      unfold halfOf
                      rw [decide_eq_true h1, decide_eq_true h2, decide_eq_true h3, ← HS.out, ← hq, ← hm]
                      rfl
                    have H2 := Hid.mk_ h2
                    have H3 := Hid.mk_ h3
                    clear h2 h3 hm hq
                    by_cases h4 : m = 1
                    · have e0 : Hid (refRight none 0 rows = false) := by rw [hst.out, if_pos (show halfOf p r = true by rw [hhalf, decide_eq_true h4])]; exact rfl
                      clear hhalf
                      subst h4
                      go_wp2_with fail
                      go_big_quiet (first | (go_at_call 43; with_reducible exact HSZ.out _ _) | (go_at_call 43; with_reducible exact HSZ2.out _ _ _))
                      go_wp2_with fail
                      go_ret
                      exact ⟨by rw [e0.out]; rfl, HEND.out _⟩
                    · have HNXT : Hid (refRight none 0 rows = refRight (some r) (r.a + S) (rows.drop (k + 1))) := by rw [hst.out, if_neg (show ¬ halfOf p r = true by rw [hhalf, decide_eq_false h4]; decide)]; exact rfl
                      have t5 : decide (m = 1) = false := decide_eq_false h4
                      have t5b : (m == 1) = false := by simpa using h4
                      clear hhalf
                      go_wp2_with fail
                      go_big_quiet (first | (go_at_call 43; with_reducible exact HSZ.out _ _) | (go_at_call 43; with_reducible exact HSZ2.out _ _ _))
                      go_wp2_with fail
                      go_big_quiet (first | (go_at_call 43; with_reducible exact HSZ.out _ _) | (go_at_call 43; with_reducible exact HSZ2.out _ _ _))
                      go_wp2_with fail
                      exact ⟨⟨k + 1, r.a + S, by omega, by go_num, rfl, by rw [HNXT.out, HT.out], HEND.out _⟩, by simp [intOf]; omega⟩
                  · have HNXT : Hid (refRight none 0 rows = refRight (some r) (r.a + S) (rows.drop (k + 1))) := by rw [hst.out, if_neg (show ¬ halfOf p r = true by unfold halfOf; rw [decide_eq_false h3]; simp)]; exact rfl
                    have H2 := Hid.mk_ h2
                    have t5 : decide (p.l = r.l) = false := decide_eq_false h3
                    have t5b : (p.l == r.l) = false := by simpa using h3
                    clear h2
                    go_wp2_with fail
                    go_big_quiet (fail)
                    go_wp2_with fail
                    go_big_quiet (first | (go_at_call 43; with_reducible exact HSZ.out _ _) | (go_at_call 43; with_reducible exact HSZ2.out _ _ _))
                    go_wp2_with fail
                    exact ⟨⟨k + 1, r.a + S, by omega, by go_num, rfl, by rw [HNXT.out, HT.out], HEND.out _⟩, by simp [intOf]; omega⟩
                · have HNXT : Hid (refRight none 0 rows = refRight (some r) (r.a + S) (rows.drop (k + 1))) := by rw [hst.out, if_neg (show ¬ halfOf p r = true by unfold halfOf; rw [decide_eq_false h2]; simp)]; exact rfl
                  have t5 : decide (p.b = r.b) = false := decide_eq_false h2
                  have t5b : (p.b == r.b) = false := by simpa using h2
                  go_wp2_with fail
                  go_big_quiet (fail)
                  go_wp2_with fail
                  go_big_quiet (first | (go_at_call 43; with_reducible exact HSZ.out _ _) | (go_at_call 43; with_reducible exact HSZ2.out _ _ _))
                  go_wp2_with fail
                  exact ⟨⟨k + 1, r.a + S, by omega, by go_num, rfl, by rw [HNXT.out, HT.out], HEND.out _⟩, by simp [intOf]; omega⟩
              · have HNXT : Hid (refRight none 0 rows = refRight (some r) (r.a + S) (rows.drop (k + 1))) := by rw [hst.out, if_neg (show ¬ halfOf p r = true by unfold halfOf; rw [decide_eq_false h1]; simp)]; exact rfl
                have t2 : decide (0 < r.b) = false := decide_eq_false h1
                go_wp2_with fail
                go_big_quiet (fail)
                go_wp2_with fail
                go_big_quiet (first | (go_at_call 43; with_reducible exact HSZ.out _ _) | (go_at_call 43; with_reducible exact HSZ2.out _ _ _))
                go_wp2_with fail
                exact ⟨⟨k + 1, r.a + S, by omega, by go_num, rfl, by rw [HNXT.out, HT.out], HEND.out _⟩, by simp [intOf]; omega⟩
            · obtain rfl : k = 0 := by omega
              have HNXT : Hid (refRight none 0 rows = refRight (some r) (r.a + S) (rows.drop (0 + 1))) := hst
              go_wp2_with fail
              go_big_quiet (fail)
              go_wp2_with fail
              go_big_quiet (first | (go_at_call 43; with_reducible exact HSZ.out _ _) | (go_at_call 43; with_reducible exact HSZ2.out _ _ _))
              go_wp2_with fail
              exact ⟨⟨0 + 1, r.a + S, by omega, by go_num, rfl, by rw [HNXT.out, HT.out], HEND.out _⟩, by simp [intOf]; omega⟩
          · have e0 : Hid (refRight none 0 rows = false) := by rw [hst.out, if_neg hnx]; exact rfl
            have t0 : (r.a == next) = false := by simpa using hnx
            have t1 : (r.a != next) = true := by simpa using hnx
            go_wp2_with (first
              | (go_at_call 42; (with_reducible refine (rright_at HRB.out _).mono ?_); rintro e w1 ⟨rfl, hb1⟩; obtain ⟨hc1, s0, s1, hz1⟩ := laid_pair hb1; have p0 := hc1 _ _ _ hgw q0; have p1 := hc1 _ _ _ hgw q1; have p2 := hc1 _ _ _ hgw q2; have hg1 : g < w1.heap.size := (by omega); have HC1 := Hid.mk_ hc1; clear hc1)
              | (go_at_call 27; (with_reducible refine (rlabel_at HLB.out _).mono ?_); rintro e w' ⟨rfl, rfl⟩))
            go_ret
            exact ⟨by rw [e0.out]; rfl, (HBA.out _).trans (hb1.mono (by simp; omega))⟩
    · have hge : ¬ ((k : Int) < rows.length) := by omega
      have e0 : Hid (refRight none 0 rows = decide (next = 4294967296)) := by rw [HRR.out, List.drop_eq_nil_of_le (by omega), refRight]; exact rfl
      go_wp2_with fail
      go_ret
      exact ⟨by rw [e0.out]; rfl, hB⟩
end Go.Proofs.Ytphmmpdeehfhjaa
