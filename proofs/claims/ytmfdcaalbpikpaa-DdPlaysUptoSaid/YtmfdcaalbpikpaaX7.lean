/- The document's Not, And, Or, Xor, Restrict, Set. -/
import Derived.Test.YtmfdcaalbpikpaaX6
import Derived.Test.YtmfdcaalbpikpaaW6
namespace Go.Proofs.Ytmfdcaalbpikpaa
open Go.RowKit Go.Maps
set_option linter.unusedVariables false
set_option linter.unusedSimpArgs false
section
variable {w w' : World} {rb : Nat} {S : List Int} {M : Int} {N : List Nd} {z : List Nat} {f g lv : Int}
theorem rand_any (h : RAt w rb S M N z) : Calls Try.prog 38 #[.pointer (some ⟨rb, 0, none⟩), .int .i64 f, .int .i64 g] w (ROpPost w rb S M z (binA 0 S M N f g)) := by
  have hb := two_any (what := 1) (f := f) (g := g) (by omega) h
  rw [show (1 : Int) - 1 = 0 by omega] at hb
  have HB := Hid.mk_ hb
  obtain ⟨R, hR⟩ : ∃ R, R = binA 0 S M N f g := ⟨_, rfl⟩
  rw [← hR] at HB ⊢
  clear h hR hb
  go_enter Try.func38, Try.ntmps38
  go_wp2_with (go_at_call 64; (with_reducible refine HB.out.mono ?_); rintro e w' ⟨rfl, hg⟩)
  go_ret2
  exact ⟨rfl, hg⟩
theorem ror_any (h : RAt w rb S M N z) : Calls Try.prog 39 #[.pointer (some ⟨rb, 0, none⟩), .int .i64 f, .int .i64 g] w (ROpPost w rb S M z (binA 1 S M N f g)) := by
  have hb := two_any (what := 2) (f := f) (g := g) (by omega) h
  rw [show (2 : Int) - 1 = 1 by omega] at hb
  have HB := Hid.mk_ hb
  obtain ⟨R, hR⟩ : ∃ R, R = binA 1 S M N f g := ⟨_, rfl⟩
  rw [← hR] at HB ⊢
  clear h hR hb
  go_enter Try.func39, Try.ntmps39
  go_wp2_with (go_at_call 64; (with_reducible refine HB.out.mono ?_); rintro e w' ⟨rfl, hg⟩)
  go_ret2
  exact ⟨rfl, hg⟩
theorem rxor_any (h : RAt w rb S M N z) : Calls Try.prog 40 #[.pointer (some ⟨rb, 0, none⟩), .int .i64 f, .int .i64 g] w (ROpPost w rb S M z (binA 2 S M N f g)) := by
  have hb := two_any (what := 3) (f := f) (g := g) (by omega) h
  rw [show (3 : Int) - 1 = 2 by omega] at hb
  have HB := Hid.mk_ hb
  obtain ⟨R, hR⟩ : ∃ R, R = binA 2 S M N f g := ⟨_, rfl⟩
  rw [← hR] at HB ⊢
  clear h hR hb
  go_enter Try.func40, Try.ntmps40
  go_wp2_with (go_at_call 64; (with_reducible refine HB.out.mono ?_); rintro e w' ⟨rfl, hg⟩)
  go_ret2
  exact ⟨rfl, hg⟩
theorem rnot_any (h : RAt w rb S M N z) : Calls Try.prog 37 #[.pointer (some ⟨rb, 0, none⟩), .int .i64 f] w (ROpPost w rb S M z (binA 2 S M N f 1)) := by
  have HB := Hid.mk_ (rxor_any (f := f) (g := 1) h)
  obtain ⟨R, hR⟩ : ∃ R, R = binA 2 S M N f 1 := ⟨_, rfl⟩
  rw [← hR] at HB ⊢
  clear h hR
  go_enter Try.func37, Try.ntmps37
  go_wp2_with (go_at_call 40; (with_reducible refine HB.out.mono ?_); rintro e w' ⟨rfl, hg⟩)
  go_ret2
  exact ⟨rfl, hg⟩
set_option maxRecDepth 100000 in
set_option maxHeartbeats 4000000 in
theorem rrestrict_any {cl : Int} (h : RAt w rb S M N z) : Calls Try.prog 41 #[.pointer (some ⟨rb, 0, none⟩), .int .i64 f, .int .i64 lv, .int .i64 cl] w (ROpPost w rb S M z (resA S M lv cl N f)) := by
  have HF := Hid.mk_ (rhas_at h f)
  have HH := Hid.mk_ h
  obtain ⟨gs, cs0, r0, hgs, hrb, hsc⟩ := h.sizes
  have hS12 := h.good.s2
  cases hf : hasA N f with
  | false =>
    rw [hf] at HF
    have e : resA S M lv cl N f = (N, 0, 1) := by unfold resA; rw [if_neg (by rw [hf]; simp)]
    rw [e]
    clear h hf e hsc
    go_enter Try.func41, Try.ntmps41
    go_wp2_with (first
      | (go_at_call 48; (with_reducible refine HF.out.mono ?_); rintro e w' ⟨rfl, rfl⟩))
    go_ret2
    exact ⟨rfl, RGrew.same HH.out (Below.refl _ _)⟩
  | true =>
    rw [hf] at HF
    by_cases hl : 0 ≤ lv ∧ lv < S.length
    · obtain ⟨ln, rfl⟩ : ∃ ln : Nat, lv = (ln : Int) := ⟨lv.toNat, by omega⟩
      have hln : ln < S.length := by omega
      have hln1 : (ln : Int) < S.length := by omega
      have hln2 : ¬ ((S.length : Nat) : Int) ≤ ln := by omega
      have hsz : S.getD ((ln : Nat) : Int).toNat 0 = S[ln]'hln := by rw [Int.toNat_natCast, getD_mem hln]
      have s0 := hsc ln hln
      obtain ⟨sz, hsze⟩ : ∃ sz, sz = S[ln]'hln := ⟨_, rfl⟩
      rw [← hsze] at hsz s0
      by_cases hc : 0 ≤ cl ∧ cl < sz
      · have e : resA S M ln cl N f = outA N (cutT S M ln cl N f) := by unfold resA; rw [if_pos ⟨hf, hl, by rw [hsz]; exact hc⟩]
        rw [e]
        obtain ⟨cn, rfl⟩ : ∃ cn : Nat, cl = (cn : Int) := ⟨cl.toNat, by omega⟩
        have hC : 0 ≤ (cn : Int) ∧ (cn : Int) < S.getD ((ln : Nat) : Int).toNat 0 := by rw [hsz]; exact hc
        have HA := Hid.mk_ hf
        have HFI := Hid.mk_ (cutT_fine (M := M) hl hC h.good hf)
        have HL := Hid.mk_ hl
        have HC := Hid.mk_ hC
        have HLEN := Hid.mk_ (rlen_at h)
        obtain ⟨R, hR⟩ : ∃ R, R = cutT S M ln cn N f := ⟨_, rfl⟩
        rw [← hR] at HFI ⊢
        have HR := Hid.mk_ hR
        have hc1 : (cn : Int) < sz := hc.2
        have hc2 : ¬ sz ≤ (cn : Int) := by omega
        have hl8 := h.good.len2
        have hnn : (0 : Int) ≤ (N.length : Int) + 2 := by omega
        obtain ⟨i3, hi3, ha0, ha1, ha2⟩ := info_parts Try.info3
        have hi8 : i3.bytes = 8 := ha2
        clear h hf e hR hC hc hl hsz hsze hsc
        go_enter Try.func41, Try.ntmps41
        go_upto_region 6 with (first
          | (go_at_call 48; (with_reducible refine HF.out.mono ?_); rintro e w' ⟨rfl, rfl⟩)
          | (go_at_call 19; (with_reducible refine HLEN.out.mono ?_); rintro e w' ⟨rfl, rfl⟩)
          | (at_make; refine make_row' _ rfl (.tmp 53) (.tmp 53) 22 rfl 3 i3 (.int .i64 0) Try.underlying22 hi3 ha0 ha1 rfl .i64 .i64 (N.length + 2) ((N.length : Int) + 2) (by omega) rfl rfl (by rw [hi8]; omega) (by omega) ?_))
        obtain ⟨w1, hw1⟩ : ∃ w1, w1 = w.alloc (.cells (Array.replicate (N.length + 2) (.int .i64 0)) 3) := ⟨_, rfl⟩
        obtain ⟨w2, hw2⟩ : ∃ w2, w2 = w1.alloc (.cells #[.pointer (some ⟨rb, 0, none⟩), .int .i64 (ln : Int), .int .i64 (cn : Int), .slice (some ⟨w.heap.size, 0, none⟩) (N.length + 2) (N.length + 2), .int .i64 0] 105) := ⟨_, rfl⟩
        rw [← hw1, ← hw2]
        rw [show Array.replicate (N.length + 2) (Value.int .i64 0) = (List.replicate (N.length + 2) (Value.int .i64 0)).toArray by simp] at hw1
        have hb1 : Below w.heap.size w w1 := by rw [hw1]; exact (Below.refl _ _).alloc (Nat.le_refl _) _
        have hs1 : w1.heap.size = w.heap.size + 1 := by rw [hw1]; simp
        have hb2 : Below w.heap.size w w2 := by rw [hw2]; exact hb1.alloc (by omega) _
        have hk1 : Blk w1 w.heap.size (List.replicate (N.length + 2) (.int .i64 0)) 3 := by rw [hw1]; exact Blk.new w _ 3
        have hk1' : Blk w2 w.heap.size (List.replicate (N.length + 2) (.int .i64 0)) 3 := by rw [hw2]; exact hk1.alloc _
        have hk2 : Blk w2 (w.heap.size + 1) [.pointer (some ⟨rb, 0, none⟩), .int .i64 (ln : Int), .int .i64 (cn : Int), .slice (some ⟨w.heap.size, 0, none⟩) (N.length + 2) (N.length + 2), .int .i64 0] 105 := by rw [hw2, ← hs1]; exact Blk.new w1 _ 105
        have hrm : RCM w2 (w.heap.size + 1) rb w.heap.size (ln : Int) (cn : Int) 0 S M N z (List.replicate (N.length + 2) 0) := by
          refine ⟨by rw [List.length_replicate]; exact hk2, HH.out.new hb2, by rw [List.map_replicate]; exact hk1', fun hk => ?_, fun hk => ?_⟩
          · have := HH.out.zlt hk; omega
          · have := HH.out.zlt hk; omega
        have hrk : RKc (ln : Int) (cn : Int) S M N N (List.replicate (N.length + 2) 0) := by
          refine ⟨HH.out.good, by simp, List.prefix_refl _, fun fi hf h0 => ?_⟩
          rw [List.getElem_replicate] at h0
          omega
        have hap := rof_any HL.out HC.out (S.length + 1) w2 N z _ f hrm hrk HA.out (cut_lt HH.out.good f)
        rw [← HR.out] at hap
        have HAP := Hid.mk_ hap
        have HB2 := Hid.mk_ hb2
        obtain ⟨gd, hgd⟩ : ∃ gd, gd = w.heap.size := ⟨_, rfl⟩
        obtain ⟨b, hbe⟩ : ∃ b, b = gd + 1 := ⟨_, rfl⟩
        rw [← hgd, ← hbe] at HAP
        rw [← hgd, ← hbe]
        have HGD := Hid.mk_ hgd
        have HBE := Hid.mk_ hbe
        clear hw1 hw2 hb1 hs1 hb2 hk1 hk1' hk2 hrm hrk hap hgd hbe r0 s0 hgs hrb hi3 ha0 ha1 ha2 hi8
        go_upto_region 7 with (go_at_call 65; (with_reducible refine HAP.out.mono ?_); rintro e w3 ⟨rfl, D', hgrew, hkn, hrl⟩)
        obtain ⟨z3, hm3, hmo3, hz3⟩ := hgrew
        have c4 := hm3.blk.cell 4
        have c4l := hm3.blk.lt
        have hmw : Mods (· ∈ z) w w3 := (Mods.of_new (S := (· ∈ z)) HB2.out).trans hmo3 (fun k hk hkz => by
          have := HGD.out
          have := HBE.out
          rcases hkz with e | e | e
          · exact e
          · omega
          · omega)
        have hs2 := HB2.out.size
        have hzz : ∀ k ∈ z3, k ∈ z ∨ w.heap.size ≤ k := fun k hk => by
          rcases hz3 k hk with e | e
          · exact .inl e
          · exact .inr (by omega)
        have HM3 := Hid.mk_ hm3
        have HMW := Hid.mk_ hmw
        have HZZ := Hid.mk_ hzz
        clear hm3 hmo3 hz3 hkn hrl hmw hzz
        by_cases he : R.2.2 = 0
        · have t1 : (R.2.2 != 0) = false := by simp [he]
          have t2 : decide (¬ R.2.2 = 0) = false := by simp [he]
          have HE := Hid.mk_ he
          clear he
          go_wp2_with fail
          go_ret2
          have eo : outA N R = R := by unfold outA; rw [if_pos HE.out]
          rw [eo]
          exact ⟨by rw [HE.out]; rfl, z3, HM3.out.ra, HMW.out, HZZ.out⟩
        · have t1 : (R.2.2 != 0) = true := by simpa using he
          have t2 : decide (¬ R.2.2 = 0) = true := by simpa using he
          have HE := Hid.mk_ he
          have hbk := rback_at HM3.out.ra (N.length : Int)
          have eb : backA R.1 (N.length : Int) = (N, 0) := by
            unfold backA
            rw [if_pos ⟨by omega, by have := HFI.out.pre.length_le; omega⟩]
            obtain ⟨u, hu⟩ := HFI.out.pre
            rw [← hu]
            simp
          rw [eb] at hbk
          have HBK := Hid.mk_ hbk
          clear he hbk eb
          go_upto_region 9 with (go_at_call 15; (with_reducible refine HBK.out.mono ?_); rintro e w4 ⟨rfl, hg4⟩)
          have hmg := HM3.out.grew hg4
          obtain ⟨z4, hm4, hmo4, hz4⟩ := hmg
          have d4 := hm4.blk.cell 4
          have dl := hm4.blk.lt
          have HM4 := Hid.mk_ hm4
          clear hm4 c4 c4l
          go_big_quiet (fail)
          go_wp2_with fail
          go_ret2
          have eo : outA N R = (N, 0, R.2.2) := by unfold outA; rw [if_neg HE.out]
          rw [eo]
          refine ⟨rfl, z4, HM4.out.ra.new (Drawn_below _ _), (HMW.out.trans hmo4 (fun k hk hkz => ?_)).drewN _, fun k hk => ?_⟩
          · rcases HZZ.out k hkz with e | e
            · exact e
            · omega
          · rcases hz4 k hk with e | e
            · exact HZZ.out k e
            · exact .inr (by have := HMW.out.size; omega)
      · have e : resA S M ln cl N f = (N, 0, 1) := by unfold resA; rw [if_neg (by rw [hsz]; exact fun e => hc e.2.2)]
        rw [e]
        by_cases hc0 : cl < 0
        · clear h hf e hc hl hsz hsze hsc
          go_enter Try.func41, Try.ntmps41
          go_wp2_with (first
            | (go_at_call 48; (with_reducible refine HF.out.mono ?_); rintro e w' ⟨rfl, rfl⟩))
          go_ret2
          exact ⟨rfl, RGrew.same HH.out (Below.refl _ _)⟩
        · have hc1 : sz ≤ cl := by omega
          have hc2 : ¬ cl < sz := by omega
          clear h hf e hc hl hsz hsze hsc
          go_enter Try.func41, Try.ntmps41
          go_wp2_with (first
            | (go_at_call 48; (with_reducible refine HF.out.mono ?_); rintro e w' ⟨rfl, rfl⟩))
          go_ret2
          exact ⟨rfl, RGrew.same HH.out (Below.refl _ _)⟩
    · have e : resA S M lv cl N f = (N, 0, 1) := by unfold resA; rw [if_neg (fun e => hl e.2.1)]
      rw [e]
      by_cases h0 : lv < 0
      · clear h hf e hl hsc
        go_enter Try.func41, Try.ntmps41
        go_wp2_with (first
          | (go_at_call 48; (with_reducible refine HF.out.mono ?_); rintro e w' ⟨rfl, rfl⟩))
        go_ret2
        exact ⟨rfl, RGrew.same HH.out (Below.refl _ _)⟩
      · have h1 : ((S.length : Nat) : Int) ≤ lv := by omega
        clear h hf e hl hsc
        go_enter Try.func41, Try.ntmps41
        go_wp2_with (first
          | (go_at_call 48; (with_reducible refine HF.out.mono ?_); rintro e w' ⟨rfl, rfl⟩))
        go_ret2
        exact ⟨rfl, RGrew.same HH.out (Below.refl _ _)⟩
set_option maxRecDepth 100000 in
set_option maxHeartbeats 4000000 in
theorem rset_any {A : Option Addr} {c : Nat} {ins : List Bool} (h : RAt w rb S M N z) (hi : BoolsIn w A ins) : Calls Try.prog 42 #[.pointer (some ⟨rb, 0, none⟩), .int .i64 lv, .slice A ins.length c] w (ROpPost w rb S M z (setA S M N lv ins)) := by
  have HH := Hid.mk_ h
  have HIN := Hid.mk_ hi
  have hS2 := h.good.s2
  have hil := hi.1
  obtain ⟨gs, cs0, r0, hgs, hrb, hsc⟩ := h.sizes
  by_cases hl : 0 ≤ lv ∧ lv < S.length
  · obtain ⟨ln, rfl⟩ : ∃ ln : Nat, lv = (ln : Int) := ⟨lv.toNat, by omega⟩
    have hln : ln < S.length := by omega
    have hln1 : (ln : Int) < S.length := by omega
    have hln2 : ¬ ((S.length : Nat) : Int) ≤ ln := by omega
    have hsz : S.getD ((ln : Nat) : Int).toNat 0 = S[ln]'hln := by rw [Int.toNat_natCast, getD_mem hln]
    have hsb := h.good.toSized.at_ ln hln
    have s0 := hsc ln hln
    obtain ⟨sz, hsze⟩ : ∃ sz, sz = S[ln]'hln := ⟨_, rfl⟩
    rw [← hsze] at hsz hsb s0
    have HSZ := Hid.mk_ hsze
    by_cases hc : (ins.length : Int) = sz
    · have e : setA S M N ln ins = makeA S M N ln (ins.map toI) := by unfold setA; rw [if_pos ⟨hl, by rw [hsz]; exact hc⟩]
      rw [e]
      have t1 : ((ins.length : Int) != sz) = false := by simp [hc]
      have t2 : decide (¬ (ins.length : Int) = sz) = false := by simp [hc]
      have t3 : (!((ins.length : Int) == sz)) = false := by simp [hc]
      have hib : ins.length ≤ 256 := by omega
      have HC := Hid.mk_ hc
      obtain ⟨i3, hi3, ha0, ha1, ha2⟩ := info_parts Try.info3
      have hi8 : i3.bytes = 8 := ha2
      clear h hi e hl hsz hsze hc hsb hsc
      go_enter Try.func42, Try.ntmps42
      go_upto_region 4 with (first
        | (at_make; refine make_row' _ rfl (.tmp 34) (.tmp 34) 22 rfl 3 i3 (.int .i64 0) Try.underlying22 hi3 ha0 ha1 rfl .i64 .i64 ins.length (ins.length : Int) rfl rfl rfl (by rw [hi8]; omega) (by omega) ?_))
      obtain ⟨w4, hw4⟩ : ∃ w4, w4 = w.alloc (.cells (Array.replicate ins.length (.int .i64 0)) 3) := ⟨_, rfl⟩
      obtain ⟨gk, hgk⟩ : ∃ gk, gk = w.heap.size := ⟨_, rfl⟩
      rw [← hw4, ← hgk]
      rw [show Array.replicate ins.length (Value.int .i64 0) = (List.replicate ins.length (Value.int .i64 0)).toArray by simp] at hw4
      have hb4 : Below w.heap.size w w4 := by rw [hw4]; exact (Below.refl _ _).alloc (Nat.le_refl _) _
      have hblk : Blk w4 gk (padI [] ins.length) 3 := by rw [hw4, hgk]; exact Blk.new w _ 3
      have hgw : w.heap.size ≤ gk := by omega
      have HGW := Hid.mk_ hgw
      have HB4 := Hid.mk_ hb4
      have HBLK := Hid.mk_ hblk
      clear hw4 hgk hb4 hblk hgw r0 s0 hgs hrb hi3 ha0 ha1 ha2 hi8 t1 t2 t3
      go_wp2_with fail
      go_loopw [9] (fun x30 wr => ∃ (k : Nat), k ≤ ins.length ∧ x30 = .int .i64 (k : Int) ∧ Hid (Below w.heap.size w wr) ∧ Hid (Blk wr gk (padI ((ins.take k).map toI) ins.length) 3)) (fun x30 _ => ins.length - (intOf x30).toNat)
      case atStart => exact ⟨0, Nat.zero_le _, rfl, HB4, HBLK⟩
      case round =>
        obtain ⟨k, hk, rfl, HBR, HK⟩ := hrel
        by_cases hlt : k < ins.length
        · have hlt1 : (k : Int) < ins.length := by omega
          obtain ⟨g, o, rfl, hg, hcs⟩ := (HIN.out.new HBR.out).2 (by omega)
          have c0 := hcs k hlt
          have hkl : ((ins.take k).map toI).length = k := by rw [List.length_map, List.length_take]; omega
          have c1 : wr.cell? ⟨gk, k, none⟩ = some (.int .i64 0) := (HK.out.cell k).trans (padI_at hkl hlt)
          have f1 := HK.out.free k
          have l1 := HK.out.lt
          have hnext : (ins.take (k + 1)).map toI = (ins.take k).map toI ++ [toI (ins[k]'hlt)] := by rw [List.take_succ_eq_append_getElem hlt, List.map_append]; rfl
          have HNX := Hid.mk_ hnext
          have HKL := Hid.mk_ hkl
          cases hbv : ins[k]'hlt with
          | true =>
            rw [hbv] at c0 HNX
            clear hcs hnext hkl hbv
            go_wp2_with fail
            refine ⟨⟨k + 1, by omega, by go_num, HBR.out.setCell HGW.out _, Hid.mk_ ?_⟩, by simp [intOf]; omega⟩
            have h1 := HK.out.set k (.int .i64 1)
            have e := padI_set (ks := (ins.take k).map toI) (n := ins.length) (r := 1) (by rw [HKL.out]; exact hlt)
            rw [HKL.out] at e
            rw [e] at h1
            rw [HNX.out]
            exact h1
          | false =>
            rw [hbv] at c0 HNX
            clear hcs hnext hkl hbv
            go_wp2_with fail
            refine ⟨⟨k + 1, by omega, by go_num, HBR, Hid.mk_ ?_⟩, by simp [intOf]; omega⟩
            rw [HNX.out]
            show Blk wr gk (padI ((ins.take k).map toI ++ [0]) ins.length) 3
            rw [padI_snoc0 (by rw [HKL.out]; exact hlt)]
            exact HK.out
        · have hke : k = ins.length := by omega
          subst hke
          have hlt1 : ¬ ((ins.length : Nat) : Int) < ins.length := by omega
          have hbk := HK.out
          rw [List.take_length, padI_full (by rw [List.length_map])] at hbk
          have hints : IntsIn wr (some ⟨gk, 0, none⟩) (ins.map toI) := by
            refine ⟨by rw [List.length_map]; omega, fun h0 => ⟨gk, 0, rfl, hbk.lt, fun j hj => ?_⟩⟩
            rw [Nat.zero_add, hbk.cell j]
            rw [List.getElem?_map, List.getElem?_eq_getElem hj]
            rfl
          have hmk := rmake_at (c := ins.length) (HH.out.new HBR.out) hln (by rw [List.length_map, HC.out, HSZ.out]) hints
          rw [List.length_map] at hmk
          have HMK := Hid.mk_ hmk
          clear hmk hints hbk
          go_wp2_with (go_at_call 18; (with_reducible refine HMK.out.mono ?_); rintro e w5 ⟨rfl, hg⟩)
          go_ret2
          refine ⟨rfl, ?_⟩
          obtain ⟨z', hp, hm, hz⟩ := hg
          have hs := HBR.out.size
          exact ⟨z', hp, (Mods.of_new (S := (· ∈ z)) HBR.out).trans hm (fun _ _ h => h), fun q hq => by
            rcases hz q hq with e | e
            · exact .inl e
            · exact .inr (by omega)⟩
    · have e : setA S M N ln ins = (N, 0, 1) := by unfold setA; rw [if_neg (by rw [hsz]; exact fun e => hc e.2)]
      rw [e]
      have t1 : ((ins.length : Int) != sz) = true := by simpa using hc
      have t2 : decide (¬ (ins.length : Int) = sz) = true := by simpa using hc
      have t3 : (!((ins.length : Int) == sz)) = true := by simpa using hc
      clear h hi e hl hsz hsze hsc
      go_enter Try.func42, Try.ntmps42
      go_wp2_with fail
      go_ret2
      exact ⟨rfl, RGrew.same HH.out (Below.refl _ _)⟩
  · have e : setA S M N lv ins = (N, 0, 1) := by unfold setA; rw [if_neg (fun e => hl e.1)]
    rw [e]
    by_cases h0 : lv < 0
    · clear h hi e hl hsc
      go_enter Try.func42, Try.ntmps42
      go_wp2_with fail
      go_ret2
      exact ⟨rfl, RGrew.same HH.out (Below.refl _ _)⟩
    · have h1 : ((S.length : Nat) : Int) ≤ lv := by omega
      clear h hi e hl hsc
      go_enter Try.func42, Try.ntmps42
      go_wp2_with fail
      go_ret2
      exact ⟨rfl, RGrew.same HH.out (Below.refl _ _)⟩
end
end Go.Proofs.Ytmfdcaalbpikpaa
