/- Restrict, Set. -/
import Derived.Test.YtmfdcaalbpikpaaW5
namespace Go.Proofs.Ytmfdcaalbpikpaa
open Go.RowKit Go.Maps
set_option linter.unusedVariables false
set_option linter.unusedSimpArgs false
section
variable {w w' : World} {b ab mk : Nat} {S : List Int} {M : Int} {N : List Nd} {z : List Nat} {f lv : Int}
theorem isLevel_any (h : PAt w ab S M N z) : Calls Try.prog 57 #[.pointer (some ⟨ab, 0, none⟩), .int .i64 lv] w fun e w' => e = .returned (.bool (decide (0 ≤ lv ∧ lv < S.length))) ∧ Below w.heap.size w w' := by
  have HS := Hid.mk_ (sizes_at h)
  have hS := h.good.s2
  clear h
  by_cases h0 : 0 ≤ lv
  · by_cases h1 : lv < S.length
    · have e : decide (0 ≤ lv ∧ lv < S.length) = true := decide_eq_true ⟨h0, h1⟩
      rw [e]
      clear e
      go_enter Try.func57, Try.ntmps57
      go_wp2_with (go_at_call 44; (with_reducible refine HS.out.mono ?_); rintro e w2 ⟨v, rfl, ⟨gs, rfl, hgs, hrow⟩, hb⟩)
      go_ret
      exact ⟨rfl, hb⟩
    · have e : decide (0 ≤ lv ∧ lv < S.length) = false := decide_eq_false (by omega)
      rw [e]
      clear e
      go_enter Try.func57, Try.ntmps57
      go_wp2_with (go_at_call 44; (with_reducible refine HS.out.mono ?_); rintro e w2 ⟨v, rfl, ⟨gs, rfl, hgs, hrow⟩, hb⟩)
      go_ret
      refine ⟨?_, hb⟩
      show Ending.returned (.bool (decide (lv < S.length))) = _
      rw [decide_eq_false (by omega)]
  · have e : decide (0 ≤ lv ∧ lv < S.length) = false := decide_eq_false (by omega)
    rw [e]
    clear e
    go_enter Try.func57, Try.ntmps57
    go_wp2_with fail
    go_ret
    exact ⟨rfl, Below.refl _ _⟩
def resA (S : List Int) (M : Int) (lv cl : Int) (N : List Nd) (f : Int) : Out := if hasA N f = true ∧ (0 ≤ lv ∧ lv < S.length) ∧ 0 ≤ cl ∧ cl < S.getD lv.toNat 0 then outA N (cutT S M lv cl N f) else (N, 0, 1)
set_option maxRecDepth 100000 in
set_option maxHeartbeats 4000000 in
theorem restrict_any {cl : Int} (h : PAt w ab S M N z) : Calls Try.prog 26 #[.pointer (some ⟨ab, 0, none⟩), .int .i64 f, .int .i64 lv, .int .i64 cl] w (OpPost w ab S M z (resA S M lv cl N f)) := by
  have HF := Hid.mk_ (has_at h f)
  have HI := Hid.mk_ (isLevel_any (lv := lv) h)
  have HH := Hid.mk_ h
  have HS : Hid (∀ W, Below w.heap.size w W → Calls Try.prog 44 #[.pointer (some ⟨ab, 0, none⟩)] W fun e w' => ∃ v, e = .returned v ∧ Fresh W w' v S ∧ Below W.heap.size W w') := fun W hW => sizes_at (h.new hW)
  have hS2 := h.good.s2
  cases hf : hasA N f with
  | false =>
    rw [hf] at HF
    have e : resA S M lv cl N f = (N, 0, 1) := by unfold resA; rw [if_neg (by rw [hf]; simp)]
    rw [e]
    clear h hf e
    go_enter Try.func26, Try.ntmps26
    go_wp2_with (first
      | (go_at_call 46; (with_reducible refine HF.out.mono ?_); rintro e w' ⟨rfl, rfl⟩))
    go_ret2
    exact ⟨rfl, Grew.same HH.out (Below.refl _ _)⟩
  | true =>
    rw [hf] at HF
    by_cases hl : 0 ≤ lv ∧ lv < S.length
    · rw [decide_eq_true hl] at HI
      obtain ⟨ln, rfl⟩ : ∃ ln : Nat, lv = (ln : Int) := ⟨lv.toNat, by omega⟩
      have hln : ln < S.length := by omega
      have hln1 : (ln : Int) < S.length := by omega
      have hsz : S.getD ((ln : Nat) : Int).toNat 0 = S[ln]'hln := by rw [Int.toNat_natCast, getD_mem hln]
      obtain ⟨sz, hsze⟩ : ∃ sz, sz = S[ln]'hln := ⟨_, rfl⟩
      rw [← hsze] at hsz
      have HSZ := Hid.mk_ hsze
      by_cases hc : 0 ≤ cl ∧ cl < sz
      · have e : resA S M ln cl N f = outA N (cutT S M ln cl N f) := by unfold resA; rw [if_pos ⟨hf, hl, by rw [hsz]; exact hc⟩]
        rw [e]
        obtain ⟨cn, rfl⟩ : ∃ cn : Nat, cl = (cn : Int) := ⟨cl.toNat, by omega⟩
        have hC : 0 ≤ (cn : Int) ∧ (cn : Int) < S.getD ((ln : Nat) : Int).toNat 0 := by rw [hsz]; exact hc
        have HA := Hid.mk_ hf
        have HFI := Hid.mk_ (cutT_fine (M := M) hl hC h.good hf)
        have HL := Hid.mk_ hl
        have HC := Hid.mk_ hC
        obtain ⟨R, hR⟩ : ∃ R, R = cutT S M ln cn N f := ⟨_, rfl⟩
        rw [← hR] at HFI ⊢
        have HR := Hid.mk_ hR
        have hc1 : (cn : Int) < sz := hc.2
        have hc2 : ¬ sz ≤ (cn : Int) := by omega
        clear h hf e hR hC hc hl hsz hsze
        go_enter Try.func26, Try.ntmps26
        go_upto_region 4 with (first
          | (go_at_call 46; (with_reducible refine HF.out.mono ?_); rintro e w' ⟨rfl, rfl⟩)
          | (go_at_call 57; (with_reducible refine HI.out.mono ?_); rintro e w2 ⟨rfl, hb2⟩)
          | (go_at_call 44; (with_reducible refine (HS.out _ hb2).mono ?_); rintro e w3 ⟨v, rfl, ⟨gs, rfl, hgs, hrow⟩, hb3⟩; have hcl := row3 hrow ln hln; rw [← HSZ.out] at hcl; have hgs2 := hrow.lt gs rfl; have HBE := Hid.mk_ (begin_any (HH.out.new (hb2.trans (hb3.mono hb2.size)))))
          | (go_at_call 60; (with_reducible refine HBE.out.mono ?_); rintro e w1 ⟨b, mk, rfl, hm1, hb1, hmk1, hbel1⟩))
        have hbb : Below w.heap.size w w3 := hb2.trans (hb3.mono hb2.size)
        have HBB := Hid.mk_ hbb
        have HM1 := Hid.mk_ hm1
        have HBEL := Hid.mk_ hbel1
        have HLEN := Hid.mk_ (len_at hm1.pa)
        have HAP := Hid.mk_ (cut_any HL.out HC.out (S.length + 1) w1 N z (.map []) f hm1 Knows.none HA.out (cut_lt HH.out.good f))
        rw [← HR.out] at HAP
        clear hm1 hbel1 hb2 hb3 hbb hrow hcl hgs
        go_wp2_with (first
          | (go_at_call 16; (with_reducible refine HLEN.out.mono ?_); rintro e w' ⟨rfl, rfl⟩)
          | (go_at_call 62; (with_reducible refine HAP.out.mono ?_); rintro e w2 ⟨rfl, D2, ⟨z2, hm2, hmo2, hz2⟩, _⟩; have HE := Hid.mk_ (ends_any (r := R.2.1) hm2 HFI.out.pre (fun e => by rcases HFI.out.err with e2 | e2; exact absurd e2 e; exact e2.2)); clear hm2)
          | (go_at_call 61; (with_reducible refine HE.out.mono ?_); rintro e w3 ⟨rfl, hg3⟩))
        go_ret2
        have hs := HBB.out.size
        refine ⟨?_, Grew.begun (fun k hk => HH.out.zlt hk) (HBB.out.trans (HBEL.out.mono hs)) (by omega) (by omega) hmo2 hz2 hg3⟩
        unfold outA
        by_cases e0 : R.2.2 = 0
        · rw [if_pos e0]; rfl
        · rw [if_neg e0]; rfl
      · have e : resA S M ln cl N f = (N, 0, 1) := by unfold resA; rw [if_neg (by rw [hsz]; exact fun e => hc e.2.2)]
        rw [e]
        by_cases hc0 : cl < 0
        · clear h hf e hc hl hsz hsze
          go_enter Try.func26, Try.ntmps26
          go_wp2_with (first
            | (go_at_call 46; (with_reducible refine HF.out.mono ?_); rintro e w' ⟨rfl, rfl⟩)
            | (go_at_call 57; (with_reducible refine HI.out.mono ?_); rintro e w2 ⟨rfl, hb2⟩))
          go_ret2
          exact ⟨rfl, Grew.same HH.out hb2⟩
        · have hc1 : sz ≤ cl := by omega
          have hc2 : ¬ cl < sz := by omega
          clear h hf e hc hl hsz hsze
          go_enter Try.func26, Try.ntmps26
          go_wp2_with (first
            | (go_at_call 46; (with_reducible refine HF.out.mono ?_); rintro e w' ⟨rfl, rfl⟩)
            | (go_at_call 57; (with_reducible refine HI.out.mono ?_); rintro e w2 ⟨rfl, hb2⟩)
            | (go_at_call 44; (with_reducible refine (HS.out _ hb2).mono ?_); rintro e w3 ⟨v, rfl, ⟨gs, rfl, hgs, hrow⟩, hb3⟩; have hcl := row3 hrow ln hln; rw [← HSZ.out] at hcl; have hgs2 := hrow.lt gs rfl))
          go_ret2
          exact ⟨rfl, Grew.same HH.out (hb2.trans (hb3.mono hb2.size))⟩
    · rw [decide_eq_false hl] at HI
      have e : resA S M lv cl N f = (N, 0, 1) := by unfold resA; rw [if_neg (fun e => hl e.2.1)]
      rw [e]
      clear h hf e hl
      go_enter Try.func26, Try.ntmps26
      go_wp2_with (first
        | (go_at_call 46; (with_reducible refine HF.out.mono ?_); rintro e w' ⟨rfl, rfl⟩)
        | (go_at_call 57; (with_reducible refine HI.out.mono ?_); rintro e w2 ⟨rfl, hb2⟩))
      go_ret2
      exact ⟨rfl, Grew.same HH.out hb2⟩
theorem padI_snoc0 {ks : List Int} {n : Nat} (h : ks.length < n) : padI (ks ++ [0]) n = padI ks n := by
  unfold padI
  rw [List.map_append, List.length_append, List.length_singleton, List.append_assoc]
  congr 1
  obtain ⟨m, hm⟩ : ∃ m, n - ks.length = m + 1 := ⟨n - ks.length - 1, by omega⟩
  rw [hm, List.replicate_succ, show n - (ks.length + 1) = m by omega]
  rfl
/-- truth values that a slice leads to -/
def BoolsIn (w : World) (A : Option Addr) (xs : List Bool) : Prop := xs.length ≤ 9223372036854775807 ∧ (0 < xs.length → ∃ g o, A = some ⟨g, o, none⟩ ∧ g < w.heap.size ∧ ∀ j (hj : j < xs.length), w.cell? ⟨g, o + j, none⟩ = some (.bool (xs[j]'hj)))
theorem BoolsIn.new {A : Option Addr} {xs : List Bool} (h : BoolsIn w A xs) (hb : Below w.heap.size w w') : BoolsIn w' A xs := ⟨h.1, fun h0 => by
  obtain ⟨g, o, e, hg, hc⟩ := h.2 h0
  exact ⟨g, o, e, Nat.lt_of_lt_of_le hg hb.size, fun j hj => (hb.cell (p := ⟨g, o + j, none⟩) hg).trans (hc j hj)⟩⟩
def setA (S : List Int) (M : Int) (N : List Nd) (lv : Int) (ins : List Bool) : Out := if (0 ≤ lv ∧ lv < S.length) ∧ (ins.length : Int) = S.getD lv.toNat 0 then makeA S M N lv (ins.map toI) else (N, 0, 1)
set_option maxRecDepth 100000 in
set_option maxHeartbeats 4000000 in
theorem set_any {A : Option Addr} {c : Nat} {ins : List Bool} (h : PAt w ab S M N z) (hi : BoolsIn w A ins) : Calls Try.prog 23 #[.pointer (some ⟨ab, 0, none⟩), .int .i64 lv, .slice A ins.length c] w (OpPost w ab S M z (setA S M N lv ins)) := by
  have HI := Hid.mk_ (isLevel_any (lv := lv) h)
  have HH := Hid.mk_ h
  have HIN := Hid.mk_ hi
  have HS : Hid (∀ W, Below w.heap.size w W → Calls Try.prog 44 #[.pointer (some ⟨ab, 0, none⟩)] W fun e w' => ∃ v, e = .returned v ∧ Fresh W w' v S ∧ Below W.heap.size W w') := fun W hW => sizes_at (h.new hW)
  have hS2 := h.good.s2
  have hil := hi.1
  by_cases hl : 0 ≤ lv ∧ lv < S.length
  · rw [decide_eq_true hl] at HI
    obtain ⟨ln, rfl⟩ : ∃ ln : Nat, lv = (ln : Int) := ⟨lv.toNat, by omega⟩
    have hln : ln < S.length := by omega
    have hln1 : (ln : Int) < S.length := by omega
    have hsz : S.getD ((ln : Nat) : Int).toNat 0 = S[ln]'hln := by rw [Int.toNat_natCast, getD_mem hln]
    have hsb := h.good.toSized.at_ ln hln
    obtain ⟨sz, hsze⟩ : ∃ sz, sz = S[ln]'hln := ⟨_, rfl⟩
    rw [← hsze] at hsz hsb
    have HSZ := Hid.mk_ hsze
    by_cases hc : (ins.length : Int) = sz
    · have e : setA S M N ln ins = makeA S M N ln (ins.map toI) := by unfold setA; rw [if_pos ⟨hl, by rw [hsz]; exact hc⟩]
      rw [e]
      have t1 : ((ins.length : Int) != sz) = false := by simp [hc]
      have t2 : decide (¬ (ins.length : Int) = sz) = false := by simp [hc]
      have t3 : (!((ins.length : Int) == sz)) = false := by simp [hc]
      have hib : ins.length ≤ 256 := by omega
      have HC := Hid.mk_ hc
      obtain ⟨i3, hi3, ha0, ha1, ha2⟩ := info_parts Try.info3
      have hi8 : i3.bytes = 8 := ha2
      clear h hi e hl hsz hsze hc hsb
      go_enter Try.func23, Try.ntmps23
      go_upto_region 4 with (first
        | (go_at_call 57; (with_reducible refine HI.out.mono ?_); rintro e w2 ⟨rfl, hb2⟩)
        | (go_at_call 44; (with_reducible refine (HS.out _ hb2).mono ?_); rintro e w3 ⟨v, rfl, ⟨gs, rfl, hgs, hrow⟩, hb3⟩; have hcl := row3 hrow ln hln; rw [← HSZ.out] at hcl; have hgs2 := hrow.lt gs rfl)
        | (at_make; refine make_row' _ rfl (.tmp 26) (.tmp 26) 22 rfl 3 i3 (.int .i64 0) Try.underlying22 hi3 ha0 ha1 rfl .i64 .i64 ins.length (ins.length : Int) rfl rfl rfl (by rw [hi8]; omega) (by omega) ?_))
      have hb23 : Below w.heap.size w w3 := hb2.trans (hb3.mono hb2.size)
      obtain ⟨w4, hw4⟩ : ∃ w4, w4 = w3.alloc (.cells (Array.replicate ins.length (.int .i64 0)) 3) := ⟨_, rfl⟩
      obtain ⟨gk, hgk⟩ : ∃ gk, gk = w3.heap.size := ⟨_, rfl⟩
      rw [← hw4, ← hgk]
      rw [show Array.replicate ins.length (Value.int .i64 0) = (List.replicate ins.length (Value.int .i64 0)).toArray by simp] at hw4
      have hb4 : Below w.heap.size w w4 := by rw [hw4]; exact hb23.alloc hb23.size _
      have hblk : Blk w4 gk (padI [] ins.length) 3 := by rw [hw4, hgk]; exact Blk.new w3 _ 3
      have hgw : w.heap.size ≤ gk := by rw [hgk]; exact hb23.size
      have HGW := Hid.mk_ hgw
      have HB4 := Hid.mk_ hb4
      have HBLK := Hid.mk_ hblk
      clear hw4 hgk hb4 hblk hgw hb23 hb2 hb3 hrow hcl hgs hgs2 hi3 ha0 ha1 ha2 hi8 t1 t2 t3
      go_wp2_with fail
      go_loopw [30] (fun x30 wr => ∃ (k : Nat), k ≤ ins.length ∧ x30 = .int .i64 (k : Int) ∧ Hid (Below w.heap.size w wr) ∧ Hid (Blk wr gk (padI ((ins.take k).map toI) ins.length) 3)) (fun x30 _ => ins.length - (intOf x30).toNat)
      case atStart => exact ⟨0, Nat.zero_le _, rfl, HB4, HBLK⟩
      case round =>
        obtain ⟨k, hk, rfl, HBR, HK⟩ := hrel
        by_cases hlt : k < ins.length
        · have hlt1 : (k : Int) < ins.length := by omega
          obtain ⟨g, o, rfl, hg, hcs⟩ := (HIN.out.new HBR.out).2 (by omega)
          have c0 := hcs k hlt
          have hkl : ((ins.take k).map toI).length = k := by rw [List.length_map, List.length_take]; omega
          have c1 : wr.cell? ⟨gk, k, none⟩ = some (.int .i64 0) := (HK.out.cell k).trans (padI_at hkl hlt)
          have f1 := HK.out.free k
          have l1 := HK.out.lt
          have hnext : (ins.take (k + 1)).map toI = (ins.take k).map toI ++ [toI (ins[k]'hlt)] := by rw [List.take_succ_eq_append_getElem hlt, List.map_append]; rfl
          have HNX := Hid.mk_ hnext
          have HKL := Hid.mk_ hkl
          cases hbv : ins[k]'hlt with
          | true =>
            rw [hbv] at c0 HNX
            clear hcs hnext hkl hbv
            go_wp2_with fail
            refine ⟨⟨k + 1, by omega, by go_num, HBR.out.setCell HGW.out _, Hid.mk_ ?_⟩, by simp [intOf]; omega⟩
            have h1 := HK.out.set k (.int .i64 1)
            have e := padI_set (ks := (ins.take k).map toI) (n := ins.length) (r := 1) (by rw [HKL.out]; exact hlt)
            rw [HKL.out] at e
            rw [e] at h1
            rw [HNX.out]
            exact h1
          | false =>
            rw [hbv] at c0 HNX
            clear hcs hnext hkl hbv
            go_wp2_with fail
            refine ⟨⟨k + 1, by omega, by go_num, HBR, Hid.mk_ ?_⟩, by simp [intOf]; omega⟩
            rw [HNX.out]
            show Blk wr gk (padI ((ins.take k).map toI ++ [0]) ins.length) 3
            rw [padI_snoc0 (by rw [HKL.out]; exact hlt)]
            exact HK.out
        · have hke : k = ins.length := by omega
          subst hke
          have hlt1 : ¬ ((ins.length : Nat) : Int) < ins.length := by omega
          have hbk := HK.out
          rw [List.take_length, padI_full (by rw [List.length_map])] at hbk
          have hints : IntsIn wr (some ⟨gk, 0, none⟩) (ins.map toI) := by
            refine ⟨by rw [List.length_map]; omega, fun h0 => ⟨gk, 0, rfl, hbk.lt, fun j hj => ?_⟩⟩
            rw [Nat.zero_add, hbk.cell j]
            rw [List.getElem?_map, List.getElem?_eq_getElem hj]
            rfl
          have hmk := make_at (c := ins.length) (HH.out.new HBR.out) ((ln : Nat) : Int) hints (fun g o e => by cases e; exact hbk.lt)
          rw [List.length_map] at hmk
          have HMK := Hid.mk_ hmk
          clear hmk hints hbk
          go_wp2_with (go_at_call 58; (with_reducible refine HMK.out.mono ?_); rintro e w5 ⟨rfl, hg⟩)
          go_ret2
          refine ⟨rfl, ?_⟩
          obtain ⟨z', hp, hm, hz⟩ := hg
          have hs := HBR.out.size
          exact ⟨z', hp, (Mods.of_new (S := (· ∈ z)) HBR.out).trans hm (fun _ _ h => h), fun q hq => by
            rcases hz q hq with e | e
            · exact .inl e
            · exact .inr (by omega)⟩
    · have e : setA S M N ln ins = (N, 0, 1) := by unfold setA; rw [if_neg (by rw [hsz]; exact fun e => hc e.2)]
      rw [e]
      have t1 : ((ins.length : Int) != sz) = true := by simpa using hc
      have t2 : decide (¬ (ins.length : Int) = sz) = true := by simpa using hc
      have t3 : (!((ins.length : Int) == sz)) = true := by simpa using hc
      clear h hi e hl hsz hsze
      go_enter Try.func23, Try.ntmps23
      go_wp2_with (first
        | (go_at_call 57; (with_reducible refine HI.out.mono ?_); rintro e w2 ⟨rfl, hb2⟩)
        | (go_at_call 44; (with_reducible refine (HS.out _ hb2).mono ?_); rintro e w3 ⟨v, rfl, ⟨gs, rfl, hgs, hrow⟩, hb3⟩; have hcl := row3 hrow ln hln; rw [← HSZ.out] at hcl; have hgs2 := hrow.lt gs rfl))
      go_ret2
      exact ⟨rfl, Grew.same HH.out (hb2.trans (hb3.mono hb2.size))⟩
  · rw [decide_eq_false hl] at HI
    have e : setA S M N lv ins = (N, 0, 1) := by unfold setA; rw [if_neg (fun e => hl e.1)]
    rw [e]
    clear h hi e hl
    go_enter Try.func23, Try.ntmps23
    go_wp2_with (first
      | (go_at_call 57; (with_reducible refine HI.out.mono ?_); rintro e w2 ⟨rfl, hb2⟩))
    go_ret2
    exact ⟨rfl, Grew.same HH.out hb2⟩
end
end Go.Proofs.Ytmfdcaalbpikpaa
