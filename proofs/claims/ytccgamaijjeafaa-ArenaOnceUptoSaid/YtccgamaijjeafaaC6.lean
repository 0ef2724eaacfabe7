/- The document's Back: its walk. -/
import Derived.Test.YtccgamaijjeafaaC5
namespace Go.Proofs.Ytccgamaijjeafaa
open Go.RowKit Go.WideMaps Go.Maps
set_option linter.unusedVariables false
set_option linter.unusedSimpArgs false
section
variable {w w' w0 : World} {b : Nat} {S : List Int} {M : Int} {L : List (Nd × Value)} {nv sv lv : Value} {rows : List Value} {cz : List Nat}
theorem Cutting.next {A0 : Option Addr} {n j gl cl : Nat} (h : Cutting w0 w b S M L sv (.slice (some ⟨gl, 0, none⟩) S.length cl) rows A0 n j) (hj : j < rows.length) (hb : gl ≠ b) :
    Cutting w0 (w.setCell ⟨gl, j, none⟩ (cutV (rows[j]'hj) (cntN (nds L) n j))) b S M L sv (.slice (some ⟨gl, 0, none⟩) S.length cl) rows A0 n (j + 1) where
  blk := h.blk.far (fun e => hb e.symm) _
  lrow := by have := h.lrow.set j (cutV (rows[j]'hj) (cntN (nds L) n j)); rwa [cutRows_succ hj] at this
  mods := h.mods.setCell (p := ⟨gl, j, none⟩) (fun _ => .inr rfl) _
theorem Cutting.drew {A0 : Option Addr} {n j : Nat} (h : Cutting w0 w b S M L sv lv rows A0 n j) : Cutting w0 w.drew b S M L sv lv rows A0 n j := ⟨h.blk, h.lrow, h.mods.drew⟩
set_option maxHeartbeats 4000000 in
theorem back_ra (h : RA w b S M L nv sv lv rows cz) (n : Int) :
    Calls Try.prog 28 #[.pointer (some ⟨b, 0, none⟩), .int .i64 n] w fun e w' => e = .returned (.int .i64 (backA (nds L) n).2) ∧ RGrew w w' b S M (backA (nds L) n).1 (rz b nv lv rows cz) := by
  have HH := Hid.mk_ h
  have l8 := len8 h.good
  have c2 := h.c2
  have c3 := h.c3
  have hf := h.blk.free 2
  have hbl := h.blk.lt
  obtain ⟨A0, c0, rfl⟩ := h.row.shape
  have hcap := h.row.capLe
  by_cases h0 : 0 ≤ n
  · by_cases h1 : n ≤ (L.length : Int)
    · obtain ⟨m, rfl⟩ : ∃ m : Nat, n = (m : Int) := ⟨n.toNat, by omega⟩
      have hm : m ≤ L.length := by omega
      have d0 : ¬ ((m : Int) < 0) := by omega
      have d1 : ¬ ((L.length : Int) < m) := by omega
      have e : backA (nds L) (m : Int) = ((nds L).take m, 0) := by unfold backA; rw [if_pos ⟨h0, by rw [nds_length]; exact h1⟩, Int.toNat_natCast]
      rw [e]
      have hmc : m ≤ c0 := by omega
      have hS := h.good.toSized.s1
      have hS2 := h.good.toSized.s2
      have hrl := h.rl
      obtain ⟨gl, cl, rfl, hgl, hclr⟩ := h.lrow.some_ (by omega)
      have hglb : gl ≠ b := fun e => h.apartB.2.1 (by rw [e]; rfl)
      have hstart : Cutting w (w.setCell ⟨b, 2, none⟩ (.slice A0 m m)) b S M L sv (.slice (some ⟨gl, 0, none⟩) S.length cl) rows A0 m 0 := by
        refine ⟨h.blk.set 2 _, ?_, (Mods.refl _ w).setCell (p := ⟨b, 2, none⟩) (fun _ => .inl rfl) _⟩
        rw [cutRows_zero]
        exact h.lrow.move fun k hk => by cases hk; exact Below.heap_setCell _ _ _ _ hglb
      have HST := Hid.mk_ hstart
      clear e hstart h h0 h1
      go_enter Try.func28, Try.ntmps28
      go_wp2_with fail
      go_loopw [5] (fun x5 wr => ∃ j : Nat, j ≤ rows.length ∧ x5 = .int .i64 (j : Int) ∧ Hid (Cutting w wr b S M L sv (.slice (some ⟨gl, 0, none⟩) S.length cl) rows A0 m j)) (fun x5 _ => rows.length - (intOf x5).toNat)
      case atStart => exact ⟨0, Nat.zero_le _, rfl, HST.out⟩
      case round =>
        obtain ⟨j, hj, rfl, HC⟩ := hrel
        have b3 := HC.out.blk.cell 3
        have hgw : gl < wr.heap.size := HC.out.lrow.lt gl rfl
        have lf := HC.out.lrow.free j
        by_cases hlt : j < rows.length
        · have hjS : j < S.length := by omega
          have hjS1 : (j : Int) < S.length := by omega
          have kl : wr.cell? ⟨gl, j, none⟩ = some (rows[j]'hlt) := by
            rw [HC.out.lrow.cell j (by omega), cutRows_get hlt, if_neg (by omega)]
          have hR := HH.out.rws j hlt
          obtain ⟨AR, cR, hrv⟩ := hR.shape
          have HN := Hid.mk_ (HC.out.next hlt hglb)
          have hcn := cnt_le (N := nds L) (n := m) (i := j) (by rw [nds_length]; exact hm)
          have hab := HH.out.apartB
          have hRw : Row wr 3 1 (rows[j]'hlt) (refs (nds L) (j : Int)).length ((refs (nds L) (j : Int)).map (Value.int .i64)) := hR.move fun k hk =>
            HC.out.mods.block k (hR.lt k hk) (fun e => by rcases e with e | e; exact hab.2.2.1 j hlt (by rw [hk, e]); exact hab.2.2.2.2.2 k j hlt e hk)
          rw [hrv] at kl hRw HN
          have HB := Hid.mk_ (fun k hk hk2 => refs_below (N := nds L) (n := m) (i := j) (k := k) (by rw [nds_length]; exact hm) hk hk2)
          have HA := Hid.mk_ (fun k hk hk2 => refs_above (N := nds L) (n := m) (i := j) (k := k) (by rw [nds_length]; exact hm) hk hk2)
          obtain ⟨q, hq⟩ : ∃ q, q = cntN (nds L) m j := ⟨_, rfl⟩
          have hRl := refs_length_le (nds L) (j : Int)
          rw [nds_length] at hRl
          obtain ⟨R, hRe⟩ : ∃ R, R = refs (nds L) (j : Int) := ⟨_, rfl⟩
          rw [← hq] at HN hcn HB HA
          rw [← hRe] at kl hRw hcn hRl HN HB HA
          have HR := Hid.mk_ hRw
          have hcR := hRw.capLe
          have hqc : q ≤ cR := by omega
          have hwm : IntKind.i64.wrap ((m : Int) + 2) = m + 2 := by rw [IntKind.wrap_i64]; omega
          obtain ⟨wo, rfl⟩ : ∃ wo : World, wo = wr := ⟨_, rfl⟩
          clear hq hRe hR hrv hab hRw
          go_wp2_with fail
          go_loop [6] (fun x6 => ∃ k : Nat, k ≤ q ∧ x6 = .int .i64 (k : Int)) (fun x6 => q - (intOf x6).toNat)
          case atStart => exact ⟨0, Nat.zero_le _, rfl⟩
          case round =>
            obtain ⟨k, hk, rfl⟩ := hrel
            by_cases hkq : k < q
            · have hkR : k < R.length := by omega
              have hkR1 : (k : Int) < R.length := by omega
              have hlow := HB.out k hkq hkR
              obtain ⟨gR, cR', eR, hgR, _⟩ := HR.out.some_ (by omega)
              cases eR
              have r0 : wo.cell? ⟨gR, k, none⟩ = some (.int .i64 (R[k]'hkR)) := by rw [HR.out.cell k (by omega)]; simp [hkR]
              obtain ⟨y, hy⟩ : ∃ y, y = R[k]'hkR := ⟨_, rfl⟩
              rw [← hy] at r0 hlow
              clear hy
              go_wp2_with fail
              go_round
              case rel => exact ⟨k + 1, by omega, by go_num⟩
              case measure => simp [intOf]; omega
            · have hke : k = q := by omega
              subst hke
              by_cases hkR : k < R.length
              · have hkR1 : (k : Int) < R.length := by omega
                have hhi := HA.out k (Nat.le_refl _) hkR
                obtain ⟨gR, cR', eR, hgR, _⟩ := HR.out.some_ (by omega)
                cases eR
                have r0 : wo.cell? ⟨gR, k, none⟩ = some (.int .i64 (R[k]'hkR)) := by rw [HR.out.cell k (by omega)]; simp [hkR]
                obtain ⟨y, hy⟩ : ∃ y, y = R[k]'hkR := ⟨_, rfl⟩
                rw [← hy] at r0 hhi
                clear hy
                go_wp2_with fail
                go_region
                all_goals (
                  go_wp2_with fail
                  go_roundw
                  case rel => exact ⟨j + 1, by omega, by go_num, HN.out.drew⟩
                  case measure => simp [intOf]; omega)
              · have hkR1 : ¬ (k : Int) < R.length := by omega
                go_wp2_with fail
                go_region
                all_goals (
                  go_wp2_with fail
                  go_roundw
                  case rel => exact ⟨j + 1, by omega, by go_num, HN.out.drew⟩
                  case measure => simp [intOf]; omega)
        · have ej : j = rows.length := by omega
          subst ej
          have hge : ¬ (rows.length : Int) < S.length := by omega
          go_wp2_with fail
          go_ret
          exact ⟨rfl, HH.out.cut hm HC.out⟩
    · have e : backA (nds L) n = (nds L, 1) := by unfold backA; rw [if_neg (fun h2 => h1 (by rw [nds_length] at h2; exact h2.2))]
      rw [e]
      have d0 : ¬ n < 0 := by omega
      have d1 : (L.length : Int) < n := by omega
      clear e h
      go_enter Try.func28, Try.ntmps28
      go_wp2_with fail
      go_ret
      exact ⟨rfl, HH.out.grew (Below.refl _ _)⟩
  · have e : backA (nds L) n = (nds L, 1) := by unfold backA; rw [if_neg (fun h2 => h0 h2.1)]
    rw [e]
    have d0 : n < 0 := by omega
    clear e h
    go_enter Try.func28, Try.ntmps28
    go_wp2_with fail
    go_ret
    exact ⟨rfl, HH.out.grew (Below.refl _ _)⟩
end
end Go.Proofs.Ytccgamaijjeafaa
