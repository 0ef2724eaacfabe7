/- Eval. -/
import Derived.Test.YtmfdcaalbpikpaaW6
namespace Go.Proofs.Ytmfdcaalbpikpaa
open Go.RowKit Go.Maps
set_option linter.unusedVariables false
set_option linter.unusedSimpArgs false
section
variable {w w' : World} {ab : Nat} {S : List Int} {M : Int} {N : List Nd} {z : List Nat} {f : Int} {A : Option Addr} {c : Nat} {p : List Int}
instance (S p : List Int) : Decidable (∀ i, i < S.length → 0 ≤ p.getD i 0 ∧ p.getD i 0 < S.getD i 0) := inferInstance
/-- what Eval answers -/
def evalR (S : List Int) (N : List Nd) (f : Int) (p : List Int) : Bool × Int := if hasA N f = true ∧ p.length = S.length ∧ ∀ i, i < S.length → 0 ≤ p.getD i 0 ∧ p.getD i 0 < S.getD i 0 then (den N p f, 0) else (false, 1)
def EvalPost (w : World) (r : Bool × Int) (e : Ending) (w' : World) : Prop := e = .returned (.tuple #[.bool r.1, .int .i64 r.2]) ∧ Below w.heap.size w w'
set_option maxRecDepth 100000 in
set_option maxHeartbeats 4000000 in
theorem eval_any (h : PAt w ab S M N z) (hp : IntsIn w A p) : Calls Try.prog 32 #[.pointer (some ⟨ab, 0, none⟩), .int .i64 f, .slice A p.length c] w (EvalPost w (evalR S N f p)) := by
  have HS := Hid.mk_ (sizes_at h)
  have HF : Hid (∀ W, Below w.heap.size w W → Calls Try.prog 46 #[.pointer (some ⟨ab, 0, none⟩), .int .i64 f] W fun e w' => e = .returned (.bool (hasA N f)) ∧ W = w') := fun W hW => has_at (h.new hW) f
  have HH := Hid.mk_ h
  have HP := Hid.mk_ hp
  have hS2 := h.good.s2
  have HG := Hid.mk_ h.good
  have hpl := hp.1
  cases hf : hasA N f with
  | false =>
    have e : evalR S N f p = (false, 1) := by unfold evalR; rw [if_neg (by rw [hf]; simp)]
    rw [hf] at HF
    rw [e]
    clear h hp hf e
    go_enter Try.func32, Try.ntmps32
    go_wp2_with (first
      | (go_at_call 44; (with_reducible refine HS.out.mono ?_); rintro e w2 ⟨v, rfl, ⟨gs, rfl, hgs, hrow⟩, hb⟩)
      | (go_at_call 46; (with_reducible refine (HF.out _ hb).mono ?_); rintro e w' ⟨rfl, rfl⟩))
    go_ret2
    exact ⟨rfl, hb⟩
  | true =>
    rw [hf] at HF
    have HA := Hid.mk_ hf
    by_cases hl : p.length = S.length
    · have HL := Hid.mk_ hl
      have hlp : p.length ≤ 12 := by omega
      have t1 : ((S.length : Int) != S.length) = false := by simp
      clear h hp hf
      rw [hl]
      clear hl hpl
      go_enter Try.func32, Try.ntmps32
      go_upto_region 4 with (first
        | (go_at_call 44; (with_reducible refine HS.out.mono ?_); rintro e w2 ⟨v, rfl, ⟨gs, rfl, hgs, hrow⟩, hb⟩)
        | (go_at_call 46; (with_reducible refine (HF.out _ hb).mono ?_); rintro e w' ⟨rfl, rfl⟩))
      have HB := Hid.mk_ hb
      have HROW := Hid.mk_ hrow
      have hgl := hrow.lt gs rfl
      clear hb hrow
      go_wp2_with fail
      go_loopw [28] (fun x28 wr => ∃ (k : Nat), k ≤ S.length ∧ x28 = .int .i64 (k : Int) ∧ wr = w2 ∧ Hid (∀ i, i < k → 0 ≤ p.getD i 0 ∧ p.getD i 0 < S.getD i 0)) (fun x28 _ => S.length - (intOf x28).toNat)
      case atStart => exact ⟨0, Nat.zero_le _, rfl, rfl, fun i hi => by omega⟩
      case round =>
        obtain ⟨k, hk, rfl, rfl, HT⟩ := hrel
        by_cases hlt : k < S.length
        · have hlt1 : (k : Int) < S.length := by omega
          have hkp : k < p.length := by have := HL.out; omega
          obtain ⟨g, o, rfl, hg, hcs⟩ := (HP.out.new HB.out).2 (by omega)
          have c0 := hcs k hkp
          have c1 := row3 HROW.out k hlt
          obtain ⟨x, hx⟩ : ∃ x, x = p[k]'hkp := ⟨_, rfl⟩
          obtain ⟨y, hy⟩ : ∃ y, y = S[k]'hlt := ⟨_, rfl⟩
          rw [← hx] at c0
          rw [← hy] at c1
          have HX : Hid (p.getD k 0 = x) := by rw [getD_mem hkp, hx]; exact rfl
          have HY : Hid (S.getD k 0 = y) := by rw [getD_mem hlt, hy]; exact rfl
          clear hcs hx hy
          by_cases hx0 : x < 0
          · go_wp2_with fail
            go_ret2
            have e : evalR S N f p = (false, 1) := by
              unfold evalR
              rw [if_neg (fun e => by have := e.2.2 k hlt; rw [HX.out] at this; omega)]
            rw [e]
            exact ⟨rfl, HB.out⟩
          · by_cases hxy : x < y
            · have hxy1 : ¬ y ≤ x := by omega
              go_wp2_with fail
              refine ⟨⟨k + 1, by omega, by go_num, by first | trivial | rfl, Hid.mk_ fun i hi => ?_⟩, by simp [intOf]; omega⟩
              by_cases e : i = k
              · rw [e, HX.out, HY.out]; omega
              · exact HT.out i (by omega)
            · have hxy1 : y ≤ x := by omega
              go_wp2_with fail
              go_ret2
              have e : evalR S N f p = (false, 1) := by
                unfold evalR
                rw [if_neg (fun e => by have := e.2.2 k hlt; rw [HX.out, HY.out] at this; omega)]
              rw [e]
              exact ⟨rfl, HB.out⟩
        · have hke : k = S.length := by omega
          subst hke
          have hlt1 : ¬ ((S.length : Nat) : Int) < S.length := by omega
          have hpt : Pt S p := ⟨HL.out, HT.out⟩
          have HPT := Hid.mk_ hpt
          have E : Hid (evalR S N f p = (den N p f, 0)) := by
            unfold evalR
            rw [if_pos ⟨HA.out, HL.out, HT.out⟩]
            exact rfl
          clear hpt
          go_wp2_with fail
          go_loopw [1] (fun x1 wr => ∃ (f1 : Int), x1 = .int .i64 f1 ∧ Hid (hasA N f1 = true ∧ den N p f1 = den N p f) ∧ Hid (Below w.heap.size w wr)) (fun x1 _ => (intOf x1).toNat)
          case atStart => exact ⟨f, rfl, ⟨HA.out, rfl⟩, HB⟩
          case round =>
            obtain ⟨f1, rfl, HF1, HBR⟩ := hrel
            have hr := has_iff.1 HF1.out.1
            by_cases h1 : 1 < f1
            · rcases leaf_or HG.out HF1.out.1 with e | ⟨l, ks, ha⟩
              · omega
              · have hsay := ha.says HPT.out
                have hl0 := ha.l0
                have hpt := HPT.out.each l.toNat (by omega)
                obtain ⟨ln, rfl⟩ : ∃ ln : Nat, l = (ln : Int) := ⟨l.toNat, by omega⟩
                rw [Int.toNat_natCast] at hsay hpt
                have hlp : ln < p.length := by have := HL.out; omega
                have hlS : (ln : Int) < S.length := by omega
                obtain ⟨g, o, rfl, hg, hcs⟩ := (HP.out.new HBR.out).2 (by omega)
                have c0 := hcs ln hlp
                rw [← getD_mem hlp] at c0
                obtain ⟨cn, hcn⟩ : ∃ cn : Nat, p.getD ln 0 = (cn : Int) := ⟨(p.getD ln 0).toNat, by omega⟩
                rw [hcn] at c0 hsay
                rw [Int.toNat_natCast] at hsay
                obtain ⟨hck, hden⟩ := hsay
                rw [getD_mem hck] at hden
                have hlow := ha.low _ (List.getElem_mem hck)
                have hck1 : (cn : Int) < ks.length := by omega
                have HNO := Hid.mk_ (node_at (HH.out.new HBR.out) ha)
                obtain ⟨y, hy⟩ : ∃ y, y = ks[cn]'hck := ⟨_, rfl⟩
                rw [← hy] at hden hlow
                have HY := Hid.mk_ hy
                have HDEN := Hid.mk_ hden
                have HLOW := Hid.mk_ hlow
                clear hcs hcn hpt hden hlow hy ha
                go_upto_region 12 with (go_at_call 17; (with_reducible refine HNO.out.mono ?_); rintro e w3 ⟨v, rfl, ⟨gk, rfl, hgk, hrow⟩, hb⟩; have HB3 := Hid.mk_ hb; have HROW3 := Hid.mk_ hrow; clear hb hrow)
                obtain ⟨w4, hw4⟩ : ∃ w4, w4 = w3.alloc (.cells #[.int .i64 (ln : Int), .slice (some ⟨gk, 0, none⟩) ks.length ks.length] 55) := ⟨_, rfl⟩
                obtain ⟨bn, hbn⟩ : ∃ bn, bn = w3.heap.size := ⟨_, rfl⟩
                rw [← hw4, ← hbn]
                have hnb : Blk w4 bn [.int .i64 (ln : Int), .slice (some ⟨gk, 0, none⟩) ks.length ks.length] 55 := by rw [hw4, hbn]; exact Blk.new w3 _ 55
                have hb4 : Below wr.heap.size wr w4 := by rw [hw4]; exact HB3.out.alloc HB3.out.size _
                have n0 := hnb.cell 0
                have n1 := hnb.cell 1
                have hnl := hnb.lt
                have k0 : w4.cell? ⟨gk, cn, none⟩ = some (.int .i64 y) := by
                  have := row3 (HROW3.out.alloc (.cells #[.int .i64 (ln : Int), .slice (some ⟨gk, 0, none⟩) ks.length ks.length] 55)) cn hck
                  rw [← hw4, ← HY.out] at this
                  exact this
                have p0 : w4.cell? ⟨g, o + ln, none⟩ = some (.int .i64 (cn : Int)) := (hb4.cell (p := ⟨g, o + ln, none⟩) hg).trans c0
                have hgk4 : gk < w4.heap.size := by have := HROW3.out.lt gk rfl; rw [hw4]; simp; omega
                have hg4 : g < w4.heap.size := Nat.lt_of_lt_of_le hg hb4.size
                have HB4 := Hid.mk_ hb4
                clear hw4 hbn hb4 hnb c0
                go_big_quiet (fail)
                go_wp2_with fail
                refine ⟨⟨y, rfl, ⟨HLOW.out.1, HDEN.out.symm.trans HF1.out.2⟩, HBR.out.trans ((HB4.out.trans (Drawn_below _ _)).mono HBR.out.size)⟩, ?_⟩
                have := has_iff.1 HLOW.out.1
                have := HLOW.out.2.1
                show y.toNat < f1.toNat
                omega
            · have hd := den_low (N := N) (p := p) (f := f1) (by omega)
              have HD := Hid.mk_ (hd.symm.trans HF1.out.2)
              clear hd
              go_wp2_with fail
              go_ret2
              rw [E.out, ← HD.out]
              refine ⟨?_, HBR.out⟩
              by_cases e : f1 = 1 <;> simp [e]
    · have t1 : ((p.length : Int) != S.length) = true := by simp; omega
      have t2 : decide (¬ (p.length : Int) = S.length) = true := by simp; omega
      have t3 : ((p.length : Int) == S.length) = false := by simp; omega
      have t4 : ¬ (p.length : Int) = S.length := by omega
      have e : evalR S N f p = (false, 1) := by unfold evalR; rw [if_neg (fun e => hl e.2.1)]
      rw [e]
      clear h hp hf e hl
      go_enter Try.func32, Try.ntmps32
      go_wp2_with (first
        | (go_at_call 44; (with_reducible refine HS.out.mono ?_); rintro e w2 ⟨v, rfl, ⟨gs, rfl, hgs, hrow⟩, hb⟩)
        | (go_at_call 46; (with_reducible refine (HF.out _ hb).mono ?_); rintro e w' ⟨rfl, rfl⟩))
      go_ret2
      exact ⟨rfl, hb⟩
end
end Go.Proofs.Ytmfdcaalbpikpaa
