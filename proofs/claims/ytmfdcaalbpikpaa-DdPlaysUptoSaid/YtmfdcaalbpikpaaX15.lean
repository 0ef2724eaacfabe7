/- The document's Eval. -/
import Derived.Test.YtmfdcaalbpikpaaX7
import Derived.Test.YtmfdcaalbpikpaaW8
namespace Go.Proofs.Ytmfdcaalbpikpaa
open Go.RowKit Go.Maps
set_option linter.unusedVariables false
set_option linter.unusedSimpArgs false
section
variable {w w' : World} {rb : Nat} {S : List Int} {M : Int} {N : List Nd} {z : List Nat} {f : Int} {A : Option Addr} {c : Nat} {p : List Int}
set_option maxRecDepth 100000 in
set_option maxHeartbeats 4000000 in
theorem reval_any (h : RAt w rb S M N z) (hp : IntsIn w A p) : Calls Try.prog 51 #[.pointer (some ⟨rb, 0, none⟩), .int .i64 f, .slice A p.length c] w (EvalPost w (evalR S N f p)) := by
  have HF := Hid.mk_ (rhas_at h f)
  have HH := Hid.mk_ h
  have HP := Hid.mk_ hp
  have hS2 := h.good.s2
  have HG := Hid.mk_ h.good
  have hpl := hp.1
  obtain ⟨gs, cs0, r0, hgs, hrb, hsc⟩ := h.sizes
  cases hf : hasA N f with
  | false =>
    have e : evalR S N f p = (false, 1) := by unfold evalR; rw [if_neg (by rw [hf]; simp)]
    rw [hf] at HF
    rw [e]
    clear h hp hf e hsc
    go_enter Try.func51, Try.ntmps51
    go_wp2_with (go_at_call 48; (with_reducible refine HF.out.mono ?_); rintro e w' ⟨rfl, rfl⟩)
    go_ret2
    exact ⟨rfl, Below.refl _ _⟩
  | true =>
    rw [hf] at HF
    have HA := Hid.mk_ hf
    by_cases hl : p.length = S.length
    · have HL := Hid.mk_ hl
      have t1 : ((S.length : Int) != S.length) = false := by simp
      have HSC := Hid.mk_ hsc
      clear h hp hf hsc
      rw [hl]
      clear hl hpl
      go_enter Try.func51, Try.ntmps51
      go_upto_region 4 with (go_at_call 48; (with_reducible refine HF.out.mono ?_); rintro e w' ⟨rfl, rfl⟩)
      go_wp2_with fail
      go_loopw [9] (fun x9 wr => ∃ (k q : Nat), k ≤ S.length ∧ x9 = .int .i64 (k : Int) ∧ wr = w.drewN q ∧ Hid (∀ i, i < k → 0 ≤ p.getD i 0 ∧ p.getD i 0 < S.getD i 0)) (fun x9 _ => S.length - (intOf x9).toNat)
      case atStart => exact ⟨0, 0, Nat.zero_le _, rfl, rfl, fun i hi => by omega⟩
      case round =>
        obtain ⟨k, q, hk, rfl, rfl, HT⟩ := hrel
        by_cases hlt : k < S.length
        · have hlt1 : (k : Int) < S.length := by omega
          have hkp : k < p.length := by have := HL.out; omega
          obtain ⟨g, o, rfl, hg, hcs⟩ := HP.out.2 (by omega)
          have c0 := hcs k hkp
          have c1 := HSC.out k hlt
          obtain ⟨x, hx⟩ : ∃ x, x = p[k]'hkp := ⟨_, rfl⟩
          obtain ⟨y, hy⟩ : ∃ y, y = S[k]'hlt := ⟨_, rfl⟩
          rw [← hx] at c0
          rw [← hy] at c1
          have HX : Hid (p.getD k 0 = x) := by rw [getD_mem hkp, hx]; exact rfl
          have HY : Hid (S.getD k 0 = y) := by rw [getD_mem hlt, hy]; exact rfl
          clear hcs hx hy
          go_upto_region 7 with fail
          by_cases hx0 : x < 0
          · have hx1 : decide (x < 0) = true := decide_eq_true hx0
            go_big_quiet (fail)
            go_wp2_with fail
            go_ret2
            have e : evalR S N f p = (false, 1) := by
              unfold evalR
              rw [if_neg (fun e => by have := e.2.2 k hlt; rw [HX.out] at this; omega)]
            rw [e]
            first | exact ⟨rfl, (Drawn_below w q).trans (Drawn_below _ _)⟩ | exact ⟨rfl, Drawn_below _ _⟩
          · have hx1 : decide (x < 0) = false := decide_eq_false hx0
            by_cases hxy : x < y
            · have hxy1 : ¬ y ≤ x := by omega
              have hxy2 : decide (y ≤ x) = false := decide_eq_false hxy1
              go_big_quiet (fail)
              go_wp2_with fail
              refine ⟨⟨k + 1, q + nq, by omega, by go_num, rfl, Hid.mk_ fun i hi => ?_⟩, by simp [intOf]; omega⟩
              by_cases e : i = k
              · rw [e, HX.out, HY.out]; omega
              · exact HT.out i (by omega)
            · have hxy1 : y ≤ x := by omega
              have hxy2 : decide (y ≤ x) = true := decide_eq_true hxy1
              go_big_quiet (fail)
              go_wp2_with fail
              go_ret2
              have e : evalR S N f p = (false, 1) := by
                unfold evalR
                rw [if_neg (fun e => by have := e.2.2 k hlt; rw [HX.out, HY.out] at this; omega)]
              rw [e]
              first | exact ⟨rfl, (Drawn_below w q).trans (Drawn_below _ _)⟩ | exact ⟨rfl, Drawn_below _ _⟩
        · have hke : k = S.length := by omega
          subst hke
          have hlt1 : ¬ ((S.length : Nat) : Int) < S.length := by omega
          have hpt : Pt S p := ⟨HL.out, HT.out⟩
          have HPT := Hid.mk_ hpt
          have E : Hid (evalR S N f p = (den N p f, 0)) := by
            unfold evalR
            rw [if_pos ⟨HA.out, HL.out, HT.out⟩]
            exact rfl
          clear hpt
          go_wp2_with fail
          go_loopw [1] (fun x1 wr => ∃ (f1 : Int), x1 = .int .i64 f1 ∧ wr = w.drewN q ∧ Hid (hasA N f1 = true ∧ den N p f1 = den N p f)) (fun x1 _ => (intOf x1).toNat)
          case atStart => exact ⟨f, rfl, rfl, ⟨HA.out, rfl⟩⟩
          case round =>
            obtain ⟨f1, rfl, rfl, HF1⟩ := hrel
            have hr := has_iff.1 HF1.out.1
            by_cases h1 : 1 < f1
            · rcases leaf_or HG.out HF1.out.1 with e | ⟨l, ks, ha⟩
              · omega
              · have hl0 := ha.l0
                obtain ⟨ln, rfl⟩ : ∃ ln : Nat, l = (ln : Int) := ⟨l.toNat, by omega⟩
                have hlS : ln < S.length := by omega
                have hlS1 : (ln : Int) < S.length := by omega
                have hlp : ln < p.length := by have := HL.out; omega
                obtain ⟨hc, hden⟩ := ha.says HPT.out
                rw [Int.toNat_natCast] at hc hden
                have hpe := HPT.out.each ln hlS
                obtain ⟨cn, hcn⟩ : ∃ cn : Nat, p.getD ln 0 = (cn : Int) := ⟨(p.getD ln 0).toNat, by omega⟩
                rw [hcn, Int.toNat_natCast] at hc hden
                have hra := HH.out.new (Drawn_below w q)
                have HLV := Hid.mk_ (rlevel_at hra f1)
                rw [ha.lv] at HLV
                have HKI := Hid.mk_ (rkid_at hra ha hc)
                have hlow := ha.low _ (List.getElem_mem hc)
                rw [getD_mem hc] at hden
                obtain ⟨y, hy⟩ : ∃ y, y = ks[cn]'hc := ⟨_, rfl⟩
                rw [← hy] at HKI hlow hden
                obtain ⟨g, o, rfl, hg, hcs⟩ := (HP.out.new (Drawn_below w q)).2 (by omega)
                have c0 := hcs ln hlp
                have hpc : p[ln]'hlp = (cn : Int) := by rw [← hcn, getD_mem hlp]
                rw [hpc] at c0
                have HLOW := Hid.mk_ hlow
                have HDEN := Hid.mk_ hden
                have hyy : 0 ≤ y ∧ y < f1 := by have := has_iff.1 hlow.1; omega
                clear hcs ha hlow hden hy hpc hcn hpe hra
                go_wp2_with (first
                  | (go_at_call 49; (with_reducible refine HLV.out.mono ?_); rintro e w' ⟨rfl, rfl⟩)
                  | (go_at_call 66; (with_reducible refine HKI.out.mono ?_); rintro e w' ⟨rfl, rfl⟩))
                exact ⟨⟨y, rfl, by first | trivial | rfl, HLOW.out.1, by rw [← HF1.out.2, HDEN.out]⟩, by simp [intOf]; omega⟩
            · go_wp2_with fail
              go_ret2
              rw [E.out]
              refine ⟨?_, Drawn_below _ _⟩
              have := HF1.out.2
              rw [den_low (by omega)] at this
              rw [← this]
              rfl
    · have e : evalR S N f p = (false, 1) := by unfold evalR; rw [if_neg (fun e => hl e.2.1)]
      have t1 : ((p.length : Int) != S.length) = true := by simp; omega
      have t2 : decide (¬ (p.length : Int) = S.length) = true := by simp; omega
      rw [e]
      clear h hp hf e hsc hl
      go_enter Try.func51, Try.ntmps51
      go_wp2_with (go_at_call 48; (with_reducible refine HF.out.mono ?_); rintro e w' ⟨rfl, rfl⟩)
      go_ret2
      exact ⟨rfl, Below.refl _ _⟩
end
end Go.Proofs.Ytmfdcaalbpikpaa
namespace Go.Proofs.Ytmfdcaalbpikpaa
open Go.RowKit Go.Maps
set_option linter.unusedVariables false
set_option linter.unusedSimpArgs false
section
variable {w w' : World} {rb : Nat} {S : List Int} {M : Int} {N : List Nd} {z : List Nat} {f : Int}
set_option maxRecDepth 100000 in
set_option maxHeartbeats 4000000 in
theorem rpath_any (h : RAt w rb S M N z) : Calls Try.prog 52 #[.pointer (some ⟨rb, 0, none⟩), .int .i64 f] w (PathPost w (pathR S N f)) := by
  have HF := Hid.mk_ (rhas_at h f)
  have HH := Hid.mk_ h
  have hS2 := h.good.s2
  have HG := Hid.mk_ h.good
  obtain ⟨gs, cs0, r0, hgs, hrb, hsc⟩ := h.sizes
  cases hf : hasA N f with
  | false =>
    rw [hf] at HF
    have e : pathR S N f = ([], false, 1) := by unfold pathR; rw [if_neg (by rw [hf]; simp)]
    rw [e]
    clear h hf e hsc
    go_enter Try.func52, Try.ntmps52
    go_wp2_with (go_at_call 48; (with_reducible refine HF.out.mono ?_); rintro e w' ⟨rfl, rfl⟩)
    refine bodyPost_ret (v := .tuple #[.slice none 0 0, .bool false, .int .i64 1]) (by simp [results, Try.results52, go_sem]) rfl ?_
    exact ⟨_, rfl, Row.nil _ _ _, fun k hk => by simp [Value.ownBlock] at hk, Below.refl _ _⟩
  | true =>
    rw [hf] at HF
    have HA := Hid.mk_ hf
    by_cases h0 : f = 0
    · subst h0
      have e : pathR S N 0 = ([], false, 0) := by unfold pathR; rw [if_pos hf, if_pos rfl]
      rw [e]
      clear h hf e hsc
      go_enter Try.func52, Try.ntmps52
      go_wp2_with (go_at_call 48; (with_reducible refine HF.out.mono ?_); rintro e w' ⟨rfl, rfl⟩)
      refine bodyPost_ret (v := .tuple #[.slice none 0 0, .bool false, .int .i64 0]) (by simp [results, Try.results52, go_sem]) rfl ?_
      exact ⟨_, rfl, Row.nil _ _ _, fun k hk => by simp [Value.ownBlock] at hk, Below.refl _ _⟩
    · have E : Hid (pathR S N f = (pathA N f.toNat f (List.replicate S.length 0), true, 0)) := by unfold pathR; rw [if_pos hf, if_neg h0]; exact rfl
      obtain ⟨i3, hi3, ha0, ha1, ha2⟩ := info_parts Try.info3
      have hi8 : i3.bytes = 8 := ha2
      have hb0 : (f == 0) = false := by simpa using h0
      clear h hf hsc
      go_enter Try.func52, Try.ntmps52
      go_upto_region 7 with (first
        | (go_at_call 48; (with_reducible refine HF.out.mono ?_); rintro e w' ⟨rfl, rfl⟩)
        | (at_make; refine make_row' _ rfl (.tmp 21) (.tmp 21) 22 rfl 3 i3 (.int .i64 0) Try.underlying22 hi3 ha0 ha1 rfl .i64 .i64 S.length (S.length : Int) rfl rfl rfl (by rw [hi8]; omega) (by omega) ?_))
      obtain ⟨w4, hw4⟩ : ∃ w4, w4 = w.alloc (.cells (Array.replicate S.length (.int .i64 0)) 3) := ⟨_, rfl⟩
      obtain ⟨go, hgo⟩ : ∃ gk, gk = w.heap.size := ⟨_, rfl⟩
      rw [← hw4, ← hgo]
      rw [show Array.replicate S.length (Value.int .i64 0) = (List.replicate S.length (Value.int .i64 0)).toArray by simp] at hw4
      have hb4 : Below w.heap.size w w4 := by rw [hw4]; exact (Below.refl _ _).alloc (Nat.le_refl _) _
      have hblk : Blk w4 go ((List.replicate S.length (0 : Int)).map (Value.int .i64)) 3 := by rw [hw4, hgo, List.map_replicate]; exact Blk.new w _ 3
      have hgw : w.heap.size ≤ go := by omega
      have HGW := Hid.mk_ hgw
      have HB4 := Hid.mk_ hb4
      have HBLK := Hid.mk_ hblk
      obtain ⟨T, hT⟩ : ∃ T, T = pathA N f.toNat f (List.replicate S.length 0) := ⟨_, rfl⟩
      rw [← hT] at E
      have HT := Hid.mk_ hT
      have hz0 : ∀ i, (List.replicate S.length (0 : Int)).getD i 0 = 0 := fun i => by
        by_cases hi : i < S.length
        · simp [List.getD, hi]
        · simp [List.getD, hi]
      have HZ0 := Hid.mk_ hz0
      clear hw4 hgo hb4 hblk hgw hi3 ha0 ha1 ha2 hi8 hT hz0 hb0 r0 hgs hrb
      go_wp2_with fail
      go_loopw [1] (fun x1 wr => ∃ (f1 : Int) (n : Nat) (out : List Int), x1 = .int .i64 f1 ∧ Hid (hasA N f1 = true ∧ f1.toNat ≤ n ∧ pathA N n f1 out = T ∧ out.length = S.length ∧ ∀ i, (lvl S.length N f1).toNat ≤ i → out.getD i 0 = 0) ∧ Hid (Below w.heap.size w wr) ∧ Hid (Blk wr go (out.map (Value.int .i64)) 3)) (fun x1 _ => (intOf x1).toNat)
      case atStart => exact ⟨f, f.toNat, List.replicate S.length 0, rfl, ⟨HA.out, Nat.le_refl _, HT.out.symm, by simp, fun i _ => HZ0.out i⟩, HB4, HBLK⟩
      case round =>
        obtain ⟨f1, n, out, rfl, HF1, HBR, HK⟩ := hrel
        have hr := has_iff.1 HF1.out.1
        by_cases h1 : 1 < f1
        · rcases leaf_or HG.out HF1.out.1 with e | ⟨l, ks, ha⟩
          · omega
          · have hl0 := ha.l0
            have hlv : lvl 0 N f1 = l := by
              have := ha.lv
              unfold lvl at this ⊢
              rw [dif_pos ha.lt] at this ⊢
              exact this
            obtain ⟨ln, rfl⟩ : ∃ ln : Nat, l = (ln : Int) := ⟨l.toNat, by omega⟩
            have hlS : (ln : Int) < S.length := by omega
            have hnz := nz_lt ha.one
            have HLV := Hid.mk_ (rlevel_at (HH.out.new HBR.out) f1)
            rw [ha.lv] at HLV
            have HKI : Hid (∀ W, Below w.heap.size w W → ∀ j (hj : j < ks.length), Calls Try.prog 66 #[.pointer (some ⟨rb, 0, none⟩), .int .i64 f1, .int .i64 (j : Int)] W fun e w' => e = .returned (.int .i64 (ks[j]'hj)) ∧ W = w') := fun W hW j hj => rkid_at (HH.out.new hW) ha hj
            obtain ⟨m, rfl⟩ : ∃ m, n = m + 1 := ⟨n - 1, by have := HF1.out.2.1; omega⟩
            have hstep : pathA N m (ks.getD (nz ks) 0) (out.set ln (nz ks : Nat)) = T := by
              rw [← HF1.out.2.2.1]
              conv => rhs; unfold pathA
              rw [if_neg (by omega), ha.kse, hlv, Int.toNat_natCast]
            have hlow := ha.low _ (List.getElem_mem hnz)
            rw [getD_mem hnz] at hstep
            have hol : ln < out.length := by have := HF1.out.2.2.2.1; omega
            have hoz : out[ln]'hol = 0 := by
              have := HF1.out.2.2.2.2 ln (by rw [ha.lv]; omega)
              rw [getD_mem hol] at this
              exact this
            have hset0 : out.set ln ((0 : Nat) : Int) = out := by
              refine List.ext_getElem (by simp) fun i h1 h2 => ?_
              by_cases e : ln = i
              · subst e; rw [List.getElem_set_self, hoz]; rfl
              · rw [List.getElem_set_ne e]
            have HLVN : Hid ((lvl S.length N f1).toNat = ln) := by rw [ha.lv]; exact Int.toNat_natCast ln
            have HST := Hid.mk_ hstep
            have HLOW := Hid.mk_ hlow
            have HNZ := Hid.mk_ hnz
            have HOL := Hid.mk_ hol
            have HS0 := Hid.mk_ hset0
            have hob : ks.length ≤ 256 := by
              have e1 := ha.len.1
              have e3 := HG.out.toSized.at_ ln (by omega)
              rw [← getD_mem] at e3
              rw [Int.toNat_natCast] at e1
              omega
            have hln8 : ln < 12 := by omega
            clear hstep hlow ha hlv hoz hset0
            go_upto_region 9 with (go_at_call 49; (with_reducible refine HLV.out.mono ?_); rintro e w' ⟨rfl, rfl⟩)
            have HK0 : Hid (Blk wr go ((out.set ln ((0 : Nat) : Int)).map (Value.int .i64)) 3) := by rw [HS0.out]; exact HK.out
            clear HK
            go_wp2_with fail
            go_loopw [] (fun wq => ∃ (j : Nat), Hid (j ≤ nz ks) ∧ Hid (Below w.heap.size w wq) ∧ Hid (Blk wq go ((out.set ln (j : Int)).map (Value.int .i64)) 3)) (fun wq => ks.length - (intOf ((wq.cell? ⟨go, ln, none⟩).getD undef)).toNat)
            case atStart => exact ⟨0, Nat.zero_le _, HBR, HK0⟩
            case round =>
              obtain ⟨j, HJ, HBJ, HKJ⟩ := hrel
              have hjl : j < ks.length := by have := HJ.out; have := HNZ.out; omega
              have hjl1 : (j : Int) < ks.length := by omega
              have g0 : wr.cell? ⟨go, ln, none⟩ = some (.int .i64 (j : Int)) := by rw [HKJ.out.cell ln]; simp [hol]
              have g1 := HKJ.out.free ln
              have g2 := HKJ.out.lt
              have HKC := Hid.mk_ (HKI.out wr HBJ.out j hjl)
              obtain ⟨y, hy⟩ : ∃ y, y = ks[j]'hjl := ⟨_, rfl⟩
              rw [← hy] at HKC
              by_cases hj : j < nz ks
              · have e := nz_before hj hjl
                have HJL := Hid.mk_ hj
                have hy0 : y = 0 := hy.trans e
                clear hy e hj
                subst hy0
                go_wp2_with (go_at_call 66; (with_reducible refine HKC.out.mono ?_); rintro e w' ⟨rfl, rfl⟩)
                have hk6 := HKJ.out.set ln (.int .i64 ((j : Int) + 1))
                have e6 : ((out.set ln (j : Int)).map (Value.int .i64)).set ln (.int .i64 ((j : Int) + 1)) = (out.set ln ((j + 1 : Nat) : Int)).map (Value.int .i64) := by
                  rw [← List.map_set, List.set_set]; simp
                rw [e6] at hk6
                have c6 : (wr.setCell ⟨go, ln, none⟩ (.int .i64 ((j : Int) + 1))).cell? ⟨go, ln, none⟩ = some (.int .i64 ((j + 1 : Nat) : Int)) := by rw [hk6.cell ln]; simp [hol]
                refine ⟨⟨j + 1, HJL.out, HBJ.out.setCell HGW.out _, hk6⟩, ?_⟩
                rw [c6, g0]
                simp [intOf]
                omega
              · have hjn : j = nz ks := by have := HJ.out; omega
                have hy0 : ¬ y = 0 := by subst hjn; rw [hy]; exact nz_at hjl
                have hb0 : (y == 0) = false := by simpa using hy0
                have HY := Hid.mk_ hy
                have HJN := Hid.mk_ hjn
                have hyr : 0 ≤ y ∧ y < f1 := by
                  have e := HLOW.out
                  have e2 := has_iff.1 e.1
                  subst hjn
                  rw [hy]; omega
                clear hy hjn
                go_wp2_with (go_at_call 66; (with_reducible refine HKC.out.mono ?_); rintro e w' ⟨rfl, rfl⟩)
                have hyy : ks[nz ks]'HNZ.out = y := by have h1 := HY.out; have h2 := HJN.out; subst h2; exact h1.symm
                have hst := HST.out
                have hlo := HLOW.out
                rw [hyy] at hst hlo
                refine ⟨⟨y, m, out.set ln (j : Int), rfl, ⟨hlo.1, ?_, ?_, ?_, fun i hi => ?_⟩, HBJ, HKJ⟩, ?_⟩
                · have := HF1.out.2.1; omega
                · rw [HJN.out]; exact hst
                · rw [List.length_set]; exact HF1.out.2.2.2.1
                · have h2 := hlo.2.2
                  have h3 : ¬ ln = i := by omega
                  have h4 : (out.set ln (j : Int)).getD i 0 = out.getD i 0 := by simp [List.getD, h3]
                  rw [h4]
                  exact HF1.out.2.2.2.2 i (by rw [HLVN.out]; omega)
                · simp [intOf]; omega
        · go_wp2_with fail
          refine bodyPost_ret (v := .tuple #[.slice (some ⟨go, 0, none⟩) S.length S.length, .bool true, .int .i64 0]) (by simp [results, Try.results52, go_sem]) rfl ?_
          rw [E.out]
          have hT : T = out := by
            rw [← HF1.out.2.2.1]
            cases n with
            | zero => unfold pathA; rfl
            | succ n => unfold pathA; rw [if_pos (by omega)]
          rw [hT]
          have hol := HF1.out.2.2.2.1
          rw [← hol]
          exact ⟨_, rfl, row_of_blk HK.out (by simp) (by unfold maxLen; omega), fun k hk => by cases hk; exact HGW.out, HBR.out⟩
end
end Go.Proofs.Ytmfdcaalbpikpaa
