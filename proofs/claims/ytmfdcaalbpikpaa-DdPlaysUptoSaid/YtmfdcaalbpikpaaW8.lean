/- Path. -/
import Derived.Test.YtmfdcaalbpikpaaW7
namespace Go.Proofs.Ytmfdcaalbpikpaa
open Go.RowKit Go.Maps
set_option linter.unusedVariables false
set_option linter.unusedSimpArgs false
def nz (ks : List Int) : Nat := ks.findIdx (fun k => decide (k ≠ 0))
def pathA (N : List Nd) : Nat → Int → List Int → List Int
  | 0, _, out => out
  | n + 1, f, out => if f < 2 then out else pathA N n ((ksOf N f).getD (nz (ksOf N f)) 0) (out.set (lvl 0 N f).toNat (nz (ksOf N f) : Nat))
def pathR (S : List Int) (N : List Nd) (f : Int) : List Int × Bool × Int := if hasA N f = true then (if f = 0 then ([], false, 0) else (pathA N f.toNat f (List.replicate S.length 0), true, 0)) else ([], false, 1)
theorem nz_lt {ks : List Int} (h : oneA ks = false) : nz ks < ks.length := by
  unfold nz
  refine List.findIdx_lt_length_of_exists ?_
  by_cases e : ∃ x ∈ ks, decide (x ≠ 0) = true
  · exact e
  · exfalso
    have : oneA ks = true := by
      unfold oneA
      refine List.all_eq_true.2 fun k hk => decide_eq_true ?_
      have h0 : ∀ x ∈ ks, x = 0 := fun x hx => by
        by_cases e2 : x = 0
        · exact e2
        · exact absurd ⟨x, hx, by simpa using e2⟩ e
      rw [h0 k hk]
      cases ks with
      | nil => simp at hk
      | cons y t => exact (h0 y (by simp)).symm
    rw [this] at h
    cases h
theorem nz_at {ks : List Int} (h : nz ks < ks.length) : ks[nz ks]'h ≠ 0 := by
  have := List.findIdx_getElem (p := fun k => decide (k ≠ (0 : Int))) (xs := ks) (w := h)
  exact of_decide_eq_true this
theorem nz_before {ks : List Int} {j : Nat} (hj : j < nz ks) (hl : j < ks.length) : ks[j]'hl = 0 := by
  have := List.not_of_lt_findIdx (p := fun k => decide (k ≠ (0 : Int))) (xs := ks) hj
  simpa using this
def PathPost (w : World) (r : List Int × Bool × Int) (e : Ending) (w' : World) : Prop :=
  ∃ v, e = .returned (.tuple #[v, .bool r.2.1, .int .i64 r.2.2]) ∧ Row w' 3 1 v r.1.length (r.1.map (Value.int .i64)) ∧ (∀ k, v.ownBlock = some k → w.heap.size ≤ k) ∧ Below w.heap.size w w'
section
variable {w w' : World} {ab : Nat} {S : List Int} {M : Int} {N : List Nd} {z : List Nat} {f : Int}
set_option maxRecDepth 100000 in
set_option maxHeartbeats 4000000 in
theorem path_any (h : PAt w ab S M N z) : Calls Try.prog 27 #[.pointer (some ⟨ab, 0, none⟩), .int .i64 f] w (PathPost w (pathR S N f)) := by
  have HF := Hid.mk_ (has_at h f)
  have HS := Hid.mk_ (sizes_at h)
  have HH := Hid.mk_ h
  have hS2 := h.good.s2
  have HG := Hid.mk_ h.good
  cases hf : hasA N f with
  | false =>
    rw [hf] at HF
    have e : pathR S N f = ([], false, 1) := by unfold pathR; rw [if_neg (by rw [hf]; simp)]
    rw [e]
    clear h hf e
    go_enter Try.func27, Try.ntmps27
    go_wp2_with (go_at_call 46; (with_reducible refine HF.out.mono ?_); rintro e w' ⟨rfl, rfl⟩)
    refine bodyPost_ret (v := .tuple #[.slice none 0 0, .bool false, .int .i64 1]) (by simp [results, Try.results27, go_sem]) rfl ?_
    exact ⟨_, rfl, Row.nil _ _ _, fun k hk => by simp [Value.ownBlock] at hk, Below.refl _ _⟩
  | true =>
    rw [hf] at HF
    have HA := Hid.mk_ hf
    by_cases h0 : f = 0
    · subst h0
      have e : pathR S N 0 = ([], false, 0) := by unfold pathR; rw [if_pos hf, if_pos rfl]
      rw [e]
      clear h hf e
      go_enter Try.func27, Try.ntmps27
      go_wp2_with (go_at_call 46; (with_reducible refine HF.out.mono ?_); rintro e w' ⟨rfl, rfl⟩)
      refine bodyPost_ret (v := .tuple #[.slice none 0 0, .bool false, .int .i64 0]) (by simp [results, Try.results27, go_sem]) rfl ?_
      exact ⟨_, rfl, Row.nil _ _ _, fun k hk => by simp [Value.ownBlock] at hk, Below.refl _ _⟩
    · have E : Hid (pathR S N f = (pathA N f.toNat f (List.replicate S.length 0), true, 0)) := by unfold pathR; rw [if_pos hf, if_neg h0]; exact rfl
      obtain ⟨i3, hi3, ha0, ha1, ha2⟩ := info_parts Try.info3
      have hi8 : i3.bytes = 8 := ha2
      clear h hf
      go_enter Try.func27, Try.ntmps27
      go_upto_region 6 with (first
        | (go_at_call 46; (with_reducible refine HF.out.mono ?_); rintro e w' ⟨rfl, rfl⟩)
        | (go_at_call 44; (with_reducible refine HS.out.mono ?_); rintro e w2 ⟨v, rfl, ⟨gs, rfl, hgs, hrow⟩, hb⟩)
        | (at_make; refine make_row' _ rfl (.tmp 19) (.tmp 19) 22 rfl 3 i3 (.int .i64 0) Try.underlying22 hi3 ha0 ha1 rfl .i64 .i64 S.length (S.length : Int) rfl rfl rfl (by rw [hi8]; omega) (by omega) ?_))
      obtain ⟨w4, hw4⟩ : ∃ w4, w4 = w2.alloc (.cells (Array.replicate S.length (.int .i64 0)) 3) := ⟨_, rfl⟩
      obtain ⟨go, hgo⟩ : ∃ gk, gk = w2.heap.size := ⟨_, rfl⟩
      rw [← hw4, ← hgo]
      rw [show Array.replicate S.length (Value.int .i64 0) = (List.replicate S.length (Value.int .i64 0)).toArray by simp] at hw4
      have hb4 : Below w.heap.size w w4 := by rw [hw4]; exact hb.alloc hb.size _
      have hblk : Blk w4 go ((List.replicate S.length (0 : Int)).map (Value.int .i64)) 3 := by rw [hw4, hgo, List.map_replicate]; exact Blk.new w2 _ 3
      have hgw : w.heap.size ≤ go := by rw [hgo]; exact hb.size
      have HGW := Hid.mk_ hgw
      have HB4 := Hid.mk_ hb4
      have HBLK := Hid.mk_ hblk
      obtain ⟨T, hT⟩ : ∃ T, T = pathA N f.toNat f (List.replicate S.length 0) := ⟨_, rfl⟩
      rw [← hT] at E
      have HT := Hid.mk_ hT
      clear hw4 hgo hb4 hblk hgw hb hrow hgs hi3 ha0 ha1 ha2 hi8 hT
      go_wp2_with fail
      go_loopw [1] (fun x1 wr => ∃ (f1 : Int) (n : Nat) (out : List Int), x1 = .int .i64 f1 ∧ Hid (hasA N f1 = true ∧ f1.toNat ≤ n ∧ pathA N n f1 out = T ∧ out.length = S.length) ∧ Hid (Below w.heap.size w wr) ∧ Hid (Blk wr go (out.map (Value.int .i64)) 3)) (fun x1 _ => (intOf x1).toNat)
      case atStart => exact ⟨f, f.toNat, List.replicate S.length 0, rfl, ⟨HA.out, Nat.le_refl _, HT.out.symm, by simp⟩, HB4, HBLK⟩
      case round =>
        obtain ⟨f1, n, out, rfl, HF1, HBR, HK⟩ := hrel
        have hr := has_iff.1 HF1.out.1
        by_cases h1 : 1 < f1
        · rcases leaf_or HG.out HF1.out.1 with e | ⟨l, ks, ha⟩
          · omega
          · have hl0 := ha.l0
            have hlv : lvl 0 N f1 = l := by
              have := ha.lv
              unfold lvl at this ⊢
              rw [dif_pos ha.lt] at this ⊢
              exact this
            obtain ⟨ln, rfl⟩ : ∃ ln : Nat, l = (ln : Int) := ⟨l.toNat, by omega⟩
            have hlS : (ln : Int) < S.length := by omega
            have hnz := nz_lt ha.one
            have HNO := Hid.mk_ (node_at (HH.out.new HBR.out) ha)
            obtain ⟨m, rfl⟩ : ∃ m, n = m + 1 := ⟨n - 1, by have := HF1.out.2.1; omega⟩
            have hstep : pathA N m (ks.getD (nz ks) 0) (out.set ln (nz ks : Nat)) = T := by
              rw [← HF1.out.2.2.1]
              conv => rhs; unfold pathA
              rw [if_neg (by omega), ha.kse, hlv, Int.toNat_natCast]
            have hlow := ha.low _ (List.getElem_mem hnz)
            rw [getD_mem hnz] at hstep
            have HST := Hid.mk_ hstep
            have HLOW := Hid.mk_ hlow
            have HNZ := Hid.mk_ hnz
            have hob : ks.length ≤ 256 := by
              have e1 := ha.len.1
              have e3 := HG.out.toSized.at_ ln (by omega)
              rw [← getD_mem] at e3
              rw [Int.toNat_natCast] at e1
              omega
            clear hstep hlow ha hlv
            go_upto_region 8 with (go_at_call 17; (with_reducible refine HNO.out.mono ?_); rintro e w3 ⟨v, rfl, ⟨gk, rfl, hgk, hrow⟩, hb⟩; have HB3 := Hid.mk_ hb; have HROW3 := Hid.mk_ hrow; clear hb hrow)
            obtain ⟨w5, hw5⟩ : ∃ w5, w5 = w3.alloc (.cells #[.int .i64 (ln : Int), .slice (some ⟨gk, 0, none⟩) ks.length ks.length] 55) := ⟨_, rfl⟩
            obtain ⟨bn, hbn⟩ : ∃ bn, bn = w3.heap.size := ⟨_, rfl⟩
            rw [← hw5, ← hbn]
            have hnb : Blk w5 bn [.int .i64 (ln : Int), .slice (some ⟨gk, 0, none⟩) ks.length ks.length] 55 := by rw [hw5, hbn]; exact Blk.new w3 _ 55
            have hb5 : Below wr.heap.size wr w5 := by rw [hw5]; exact HB3.out.alloc HB3.out.size _
            have hr5 : Row w5 3 1 (.slice (some ⟨gk, 0, none⟩) ks.length ks.length) ks.length (ks.map (Value.int .i64)) := by rw [hw5]; exact HROW3.out.alloc _
            have n0 := hnb.cell 0
            have n1 := hnb.cell 1
            have hnl := hnb.lt
            have hgk5 := hr5.lt gk rfl
            have hk5 := HK.out.below hb5 HK.out.lt
            have HK5 := Hid.mk_ hk5
            have HNB := Hid.mk_ hnb
            have HR5 := Hid.mk_ hr5
            have HB5 := Hid.mk_ hb5
            have hgne : gk ≠ go := by have := HK.out.lt; omega
            have HGNE := Hid.mk_ hgne
            have hbne : bn ≠ go := by have := HK.out.lt; have := HB3.out.size; omega
            have HBNE := Hid.mk_ hbne
            clear hw5 hbn hnb hb5 hr5 hk5 hgne hbne hgk
            go_wp2_with fail
            go_loopw [10] (fun x10 wr => ∃ (j : Nat), x10 = .int .i64 (j : Int) ∧ wr = w5 ∧ Hid (j ≤ nz ks)) (fun x10 _ => ks.length - (intOf x10).toNat)
            case atStart => exact ⟨0, rfl, rfl, Nat.zero_le _⟩
            case round =>
              obtain ⟨j, rfl, rfl, HJ⟩ := hrel
              have hjl : j < ks.length := by have := HJ.out; have := HNZ.out; omega
              have hjl1 : (j : Int) < ks.length := by omega
              have c1 := row3 HR5.out j hjl
              obtain ⟨y, hy⟩ : ∃ y, y = ks[j]'hjl := ⟨_, rfl⟩
              rw [← hy] at c1
              by_cases hj : j < nz ks
              · have e := nz_before hj hjl
                have HE := Hid.mk_ (hy.trans e)
                have HJL := Hid.mk_ hj
                have hy0 : y = 0 := hy.trans e
                clear hy e hj
                subst hy0
                go_wp2_with fail
                refine ⟨⟨j + 1, by go_num, by first | trivial | rfl, Hid.mk_ HJL.out⟩, by simp [intOf]; omega⟩
              · have hjn : j = nz ks := by have := HJ.out; omega
                have hy0 : ¬ y = 0 := by subst hjn; rw [hy]; exact nz_at hjl
                have hb0 : (y == 0) = false := by simpa using hy0
                have HY := Hid.mk_ hy
                have HJN := Hid.mk_ hjn
                have hol : ln < out.length := by have := HF1.out.2.2.2; omega
                have g0 : wr.cell? ⟨go, ln, none⟩ = some (.int .i64 (out[ln]'hol)) := by rw [HK5.out.cell ln]; simp [hol]
                have g1 := HK5.out.free ln
                have g2 := HK5.out.lt
                have HOL := Hid.mk_ hol
                obtain ⟨q, hq⟩ : ∃ q, q = out[ln]'hol := ⟨_, rfl⟩
                rw [← hq] at g0
                clear hy hjn hol hq
                go_upto_region 12 with fail
                obtain ⟨w6, hw6⟩ : ∃ w6, w6 = wr.setCell ⟨go, ln, none⟩ (.int .i64 (j : Int)) := ⟨_, rfl⟩
                rw [← hw6]
                have hk6 : Blk w6 go ((out.set ln (j : Int)).map (Value.int .i64)) 3 := by rw [hw6, List.map_set]; exact HK5.out.set ln _
                have hn6 := HNB.out.far (p := ⟨go, ln, none⟩) HBNE.out (.int .i64 (j : Int))
                rw [← hw6] at hn6
                have m1 := hn6.cell 1
                have ml := hn6.lt
                have k6 : w6.cell? ⟨gk, j, none⟩ = some (.int .i64 y) := by rw [hw6]; exact cell_far (fun e => HGNE.out e) c1
                have kl : gk < w6.heap.size := by rw [hw6]; simp [World.setCell]; exact HR5.out.lt gk rfl
                have hb6 : Below w.heap.size w w6 := by rw [hw6]; exact (HBR.out.trans (HB5.out.mono HBR.out.size)).setCell HGW.out _
                have HK6 := Hid.mk_ hk6
                have HB6 := Hid.mk_ hb6
                clear hw6 hk6 hn6 hb6 g0 g1 g2 c1 n0 n1
                go_wp2_with fail
                refine ⟨⟨y, m, out.set ln (j : Int), rfl, Hid.mk_ ⟨?_, ?_, ?_, ?_⟩, HB6, HK6⟩, ?_⟩
                · have e := HLOW.out.1
                  have hyy : ks[nz ks]'HNZ.out = y := by have h1 := HY.out; have h2 := HJN.out; subst h2; exact h1.symm
                  rw [hyy] at e; exact e
                · have e := HLOW.out.2.1
                  have hyy : ks[nz ks]'HNZ.out = y := by have h1 := HY.out; have h2 := HJN.out; subst h2; exact h1.symm
                  rw [hyy] at e
                  have := HF1.out.2.1
                  omega
                · have e := HST.out
                  have hyy : ks[nz ks]'HNZ.out = y := by have h1 := HY.out; have h2 := HJN.out; subst h2; exact h1.symm
                  rw [hyy, ← HJN.out] at e; exact e
                · rw [List.length_set]; exact HF1.out.2.2.2
                · have e := HLOW.out.2.1
                  have hyy : ks[nz ks]'HNZ.out = y := by have h1 := HY.out; have h2 := HJN.out; subst h2; exact h1.symm
                  rw [hyy] at e
                  show y.toNat < f1.toNat
                  omega
        · have e : pathA N n f1 out = out := by
            cases n with
            | zero => rfl
            | succ n => unfold pathA; rw [if_pos (by omega)]
          have HE := Hid.mk_ (e.symm.trans HF1.out.2.2.1)
          clear e
          go_wp2_with fail
          refine bodyPost_ret (v := .tuple #[.slice (some ⟨go, 0, none⟩) S.length S.length, .bool true, .int .i64 0]) (by simp [results, Try.results27, go_sem]) rfl ?_
          rw [E.out]
          have hol := HF1.out.2.2.2
          refine ⟨.slice (some ⟨go, 0, none⟩) S.length S.length, rfl, ?_, fun k hk => by cases hk; exact HGW.out, HBR.out⟩
          show Row wr 3 1 _ T.length (T.map (Value.int .i64))
          rw [← HE.out, hol]
          refine ⟨by simp [hol], .inr ⟨go, S.length, _, rfl, HK.out, by omega, by unfold maxLen; omega, by simp [hol], ?_⟩⟩
          rw [Nat.mul_one]
          exact List.take_of_length_le (by rw [List.length_map, hol]; exact Nat.le_refl _)
end
end Go.Proofs.Ytmfdcaalbpikpaa
