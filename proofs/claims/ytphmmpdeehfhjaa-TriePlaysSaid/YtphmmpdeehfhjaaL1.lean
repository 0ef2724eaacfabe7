import Derived.Test.YtphmmpdeehfhjaaB2
namespace Go.Proofs.Ytphmmpdeehfhjaa
open Go.RowKit
set_option linter.unusedVariables false
set_option linter.unusedSimpArgs false
def i64 (x : Int) : Prop := -9223372036854775808 ≤ x ∧ x ≤ 9223372036854775807
def pickI (c n : Int) : Int := (if c < 0 then -(c + 1) else c) % n
theorem pickI_range (c n : Int) (h : 0 < n) : 0 ≤ pickI c n ∧ pickI c n < n := ⟨Int.emod_nonneg _ (by omega), Int.emod_lt_of_pos _ h⟩
theorem pick_any (c n : Int) (hn : 0 < n) (h0 : -9223372036854775808 ≤ c) (h1 : c ≤ 9223372036854775807) (w : World) :
    Calls Try.prog 11 #[.int .i64 c, .int .i64 n] w fun e w' => e = .returned (.int .i64 (pickI c n)) ∧ w = w' := by
  have hz : ¬ n = 0 := by omega
  by_cases h : c < 0
  · have e : pickI c n = (-(c + 1)).tmod n := by unfold pickI; rw [if_pos h, Int.tmod_eq_emod_of_nonneg (by omega)]
    have m0 : 0 ≤ -(c + 1) := by omega
    go_enter Try.func11, Try.ntmps11
    go_wp2_with fail
    go_ret
    exact ⟨by rw [e, Int.neg_tmod]; rfl, rfl⟩
  · have m0 : 0 ≤ c := by omega
    go_enter Try.func11, Try.ntmps11
    go_wp2_with fail
    go_ret
    exact ⟨by unfold pickI; rw [if_neg (by omega)]; rfl, rfl⟩
theorem pick_at {c n p : Int} (hp : p = pickI c n) (hn : 0 < n) (h : i64 c) (w : World) : Calls Try.prog 11 #[.int .i64 c, .int .i64 n] w fun e w' => e = .returned (.int .i64 p) ∧ w = w' := hp ▸ pick_any c n hn h.1 h.2 w
theorem lawrows_any (A B : Option Addr) (ca cb : Nat) (a b : List Row) (w : World) (ha : RowsIn w A a) (hb : RowsIn w B b) :
    Calls Try.prog 15 #[.slice A a.length ca, .slice B b.length cb] w fun e w' => e = .returned (.bool (decide (a = b))) ∧ ∃ n, w' = w.drewN n := by
  have hla := ha.1
  have hlb := hb.1
  have HA := Hid.mk_ ha
  have HB := Hid.mk_ hb
  clear ha hb
  by_cases hl : a.length = b.length
  · have l1 : a.length ≤ b.length := by omega
    have l2 : b.length ≤ a.length := by omega
    have hne : ((a.length : Int) != (b.length : Int)) = false := by simp; omega
    clear hl
    go_enter Try.func15, Try.ntmps15
    go_wp2_with fail
    go_loopw [5] (fun x wr => ∃ (k m : Nat), k ≤ a.length ∧ x = .int .i64 (k : Int) ∧ Hid (a.take k = b.take k) ∧ wr = w.drewN m) (fun x _ => a.length - (intOf x).toNat)
    case atStart => exact ⟨0, 0, Nat.zero_le _, rfl, rfl, rfl⟩
    case round =>
      obtain ⟨k, m, hk, rfl, hT, rfl⟩ := hrel
      by_cases hlt : k < a.length
      · have hltb : k < b.length := by omega
        have hlt1 : (k : Int) < a.length := by omega
        have hlt2 : (k : Int) < b.length := by omega
        obtain ⟨g, o, rfl, hc⟩ := HA.out.2 (by omega)
        obtain ⟨g', o', rfl, hc'⟩ := HB.out.2 (by omega)
        obtain ⟨c0, c1, c2⟩ := hc k hlt
        obtain ⟨d0, d1, d2⟩ := hc' k hltb
        obtain ⟨q, hq⟩ : ∃ q, q = a[k]'hlt := ⟨_, rfl⟩
        obtain ⟨r, hr⟩ : ∃ r, r = b[k]'hltb := ⟨_, rfl⟩
        rw [← hq] at c0 c1 c2
        rw [← hr] at d0 d1 d2
        have HQ := Hid.mk_ hq
        have HR := Hid.mk_ hr
        clear hq hr hc hc'
        have heq := row_eq q r
        by_cases hqr : q = r
        · rw [decide_eq_true hqr] at heq
          have HE := Hid.mk_ hqr
          clear hqr
          go_wp2_with fail
          go_quiet (fail)
          go_wp2_with fail
          go_roundw
          case rel => exact ⟨k + 1, _, by omega, by go_num, by show a.take (k + 1) = b.take (k + 1); rw [List.take_succ_eq_append_getElem hlt, List.take_succ_eq_append_getElem hltb, hT.out, ← HQ.out, ← HR.out, HE.out], rfl⟩
          case measure => simp [intOf]; omega
        · rw [decide_eq_false hqr] at heq
          have HE := Hid.mk_ hqr
          clear hqr
          go_wp2_with fail
          go_quiet (fail)
          go_wp2_with fail
          go_ret
          refine ⟨?_, _, World.drewN_drewN ..⟩
          rw [decide_eq_false (fun e => HE.out (by rw [HQ.out, HR.out]; subst e; rfl))]
          rfl
      · have hge : ¬ ((k : Int) < a.length) := by omega
        go_wp2_with fail
        go_ret
        refine ⟨?_, _, rfl⟩
        have hab : a = b := by
          have h := hT.out
          rwa [List.take_of_length_le (by omega), List.take_of_length_le (by omega)] at h
        rw [decide_eq_true hab]
        rfl
  · have hne : ((a.length : Int) != (b.length : Int)) = true := by simp; omega
    have HL := Hid.mk_ hl
    clear hl
    go_enter Try.func15, Try.ntmps15
    go_wp2_with fail
    go_ret
    refine ⟨?_, 0, rfl⟩
    rw [decide_eq_false (fun e => HL.out (by rw [e]))]
    rfl
theorem one_three (w : World) {t : TypeId} (x y z : Value) : ∀ j u, [x, y, z][j]? = some u → (w.alloc (.cells #[x, y, z] t)).cell? ((⟨w.heap.size, 0, none⟩ : Addr).add j) = some u := by
  intro j u hj
  have h := (Blk.new w [x, y, z] t).cell j
  have e : ((⟨w.heap.size, 0, none⟩ : Addr).add j) = ⟨w.heap.size, j, none⟩ := by cases j <;> simp [Addr.add]
  rw [e]
  exact h.trans hj
/-! fit -/
def fitBits (r : Row) : Int := pickI r.b 33
def fitRow (r : Row) : Row := ⟨pickI r.a 4294967296 / 2 ^ (32 - fitBits r).toNat * 2 ^ (32 - fitBits r).toNat, fitBits r, pickI r.l 65536⟩
theorem fitRow_ok (r : Row) : rowOk (fitRow r) = true := by
  have hb := pickI_range r.b 33 (by decide)
  have ha := pickI_range r.a 4294967296 (by decide)
  have hl := pickI_range r.l 65536 (by decide)
  have hp := pow_bits (fitBits r) hb.1 (by unfold fitBits; omega)
  have hd := Int.ediv_mul_le (pickI r.a 4294967296) (show (2 : Int) ^ (32 - fitBits r).toNat ≠ 0 by omega)
  have hd0 : 0 ≤ pickI r.a 4294967296 / 2 ^ (32 - fitBits r).toNat * 2 ^ (32 - fitBits r).toNat := Int.mul_nonneg (Int.ediv_nonneg ha.1 (by omega)) (by omega)
  have hm : pickI r.a 4294967296 / 2 ^ (32 - fitBits r).toNat * 2 ^ (32 - fitBits r).toNat % 2 ^ (32 - fitBits r).toNat = 0 := Int.mul_emod_left _ _
  unfold rowOk rightB fitRow
  simp only [Bool.and_eq_true, decide_eq_true_eq]
  refine ⟨⟨hb.1, by unfold fitBits; omega, hd0, by omega, hm⟩, hl.1, by omega⟩
theorem Try.info56 : (Try.prog.info? 56).map (fun i => (i.zero, i.size, i.bytes)) = some (some (.agg #[.int .i64 0, .int .i64 0, .int .i64 0]), 3, 24) := by kernel_rfl
def Row.wf (r : Row) : Prop := i64 r.a ∧ i64 r.b ∧ i64 r.l
def FitPost (w : World) (out : List Row) (e : Ending) (w' : World) : Prop := ∃ v, e = .returned v ∧ w'.ownsRow w.heap.size 56 3 v out.length (rowsCells out) ∧ Below w.heap.size w w'
set_option maxRecDepth 100000 in
theorem fit_any (A : Option Addr) (c : Nat) (l : List Row) (w : World) (hl : RowsIn w A l) (hn : l.length ≤ 33554431) (hwf : ∀ r ∈ l, r.wf) :
    Calls Try.prog 17 #[.slice A l.length c] w (FitPost w (l.map fitRow)) := by
  have HL := Hid.mk_ hl
  have HW := Hid.mk_ hwf
  clear hl hwf
  obtain ⟨i0, hi, hz0, hz1, hz2⟩ := info_parts Try.info56
  go_enter Try.func17, Try.ntmps17
  go_wp2_with fail
  go_loopw [3, 4] (fun v x wr => ∃ k : Nat, k ≤ l.length ∧ x = .int .i64 (k : Int) ∧ wr.ownsRow w.heap.size 56 3 v ((l.take k).map fitRow).length (rowsCells ((l.take k).map fitRow)) ∧ Below w.heap.size w wr) (fun _ x _ => l.length - (intOf x).toNat)
  case atStart => exact ⟨0, Nat.zero_le _, rfl, World.ownsRow_nil _ _ _ _, Below.refl _ _⟩
  case round =>
    obtain ⟨k, hk, rfl, hown, hB⟩ := hrel
    by_cases hlt : k < l.length
    · have hlt1 : (k : Int) < l.length := by omega
      obtain ⟨g, o, rfl, hc⟩ := HL.out.2 (by omega)
      obtain ⟨c0, c1, c2⟩ := hc k hlt
      have hgl := World.block_lt_of_cell? w _ c0
      have q0 := (hB.cell (p := ⟨g, o + k * 3, none⟩) hgl).trans c0
      have q1 := (hB.cell (p := ⟨g, o + k * 3 + 1, none⟩) hgl).trans c1
      have q2 := (hB.cell (p := ⟨g, o + k * 3 + 2, none⟩) hgl).trans c2
      have hw := HW.out _ (List.getElem_mem hlt)
      obtain ⟨r, hr⟩ : ∃ r, r = l[k]'hlt := ⟨_, rfl⟩
      rw [← hr] at q0 q1 q2 hw
      have HRR := Hid.mk_ hr
      clear hr c0 c1 c2 hc
      obtain ⟨wa, wb, wl⟩ := hw
      obtain ⟨pb, hpb⟩ : ∃ p, p = pickI r.b 33 := ⟨_, rfl⟩
      obtain ⟨pa, hpa⟩ : ∃ p, p = pickI r.a 4294967296 := ⟨_, rfl⟩
      obtain ⟨pl, hpl⟩ : ∃ p, p = pickI r.l 65536 := ⟨_, rfl⟩
      have hfr : Hid (fitRow r = ⟨pa / 2 ^ (32 - pb).toNat * 2 ^ (32 - pb).toNat, pb, pl⟩) := by rw [hpa, hpb, hpl]; exact rfl
      have hb := pickI_range r.b 33 (by decide)
      rw [← hpb] at hb
      obtain ⟨b0, b1⟩ := hb
      obtain ⟨px, hpx⟩ : ∃ x, x = pa / 2 ^ (32 - pb).toNat * 2 ^ (32 - pb).toNat := ⟨_, rfl⟩
      have hax := pickI_range r.a 4294967296 (by decide)
      rw [← hpa] at hax
      have hpo := pow_bits pb b0 (by omega)
      have hdl := Int.ediv_mul_le pa (show (2 : Int) ^ (32 - pb).toNat ≠ 0 by omega)
      have hd0 : 0 ≤ pa / 2 ^ (32 - pb).toNat * 2 ^ (32 - pb).toNat := Int.mul_nonneg (Int.ediv_nonneg hax.1 (by omega)) (by omega)
      have hwx : wrap64 (pa / 2 ^ (32 - pb).toNat * 2 ^ (32 - pb).toNat) = px := by rw [hpx]; unfold wrap64; omega
      have HPX := Hid.mk_ hpx
      clear hpx hdl hd0 hpo hax
      have WA := Hid.mk_ wa
      have WB := Hid.mk_ wb
      have WL := Hid.mk_ wl
      have HPA := Hid.mk_ hpa
      have HPB := Hid.mk_ hpb
      have HPL := Hid.mk_ hpl
      clear wa wb wl hpa hpb hpl
      go_wp2_with (first | (go_at_call 11; (with_reducible refine (pick_at HPB.out (by decide) WB.out _).mono ?_); rintro e w' ⟨rfl, rfl⟩) | (go_at_call 11; (with_reducible refine (pick_at HPA.out (by decide) WA.out _).mono ?_); rintro e w' ⟨rfl, rfl⟩) | (go_at_call 11; (with_reducible refine (pick_at HPL.out (by decide) WL.out _).mono ?_); rintro e w' ⟨rfl, rfl⟩) | (at_builtin; go_loud (refine wpList_append_own_at _ rfl _ _ 52 rfl w.heap.size 56 i0 _ 3 24 Try.underlying52 hi hz0 hz1 hz2 rfl (by omega) _ _ _ rfl (hown.alloc _) ⟨wr.heap.size, 0, none⟩ 1 1 [.int .i64 px, .int .i64 pb, .int .i64 pl] rfl rfl (one_three _ _ _ _) (by simp [Value.oneCell']) (by unfold maxLen; simp; omega) (by simp; omega) (by simp; have := hB.size; omega) ?_; intro v' w1 hown' hgrow hnil hloc)))
      have hT : (l.take (k + 1)).map fitRow = (l.take k).map fitRow ++ [fitRow r] := by rw [List.take_succ_eq_append_getElem hlt, List.map_append, HRR.out]; rfl
      have hC : rowsCells ((l.take (k + 1)).map fitRow) = rowsCells ((l.take k).map fitRow) ++ [.int .i64 px, .int .i64 pb, .int .i64 pl] := by
        rw [hT, rowsCells_append, hfr.out, ← HPX.out]; rfl
      have hL : ((l.take (k + 1)).map fitRow).length = ((l.take k).map fitRow).length + 1 := by rw [hT]; simp
      refine ⟨⟨k + 1, by omega, by go_num, ?_, (hB.alloc (by have := hB.size; omega) _).grown hgrow (by simp; have := hB.size; omega) (fun k hk => (hown.lt k hk).1)⟩, by simp [intOf]; omega⟩
      rw [hC, hL]
      exact hown'
    · have hge : ¬ ((k : Int) < l.length) := by omega
      go_wp2_with fail
      go_ret
      have hT : l.take k = l := List.take_of_length_le (by omega)
      rw [hT] at hown
      exact ⟨_, rfl, hown, hB⟩
end Go.Proofs.Ytphmmpdeehfhjaa
