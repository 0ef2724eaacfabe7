/- The document's And, Or, Xor, Not. -/
import Derived.Test.YtmfdcaalbpikpaaX3
import Derived.Test.YtmfdcaalbpikpaaW4
namespace Go.Proofs.Ytmfdcaalbpikpaa
open Go.RowKit Go.Maps
set_option linter.unusedVariables false
set_option linter.unusedSimpArgs false
theorem Try.info124 : (Try.prog.info? 124).map (fun i => (i.zero, i.size, i.bytes)) = some (some (.slice none 0 0), 1, 24) := by kernel_rfl
def ROpPost (w : World) (rb : Nat) (S : List Int) (M : Int) (z : List Nat) (R : Out) (e : Ending) (w' : World) : Prop :=
  e = .returned (.tuple #[.int .i64 R.2.1, .int .i64 R.2.2]) ∧ RGrew w w' rb S M R.1 z
theorem row_of_blk {w : World} {g n : Nat} {cs : List Value} {t : TypeId} (h : Blk w g cs t) (hn : cs.length = n) (hm : n ≤ maxLen) : Row w t 1 (.slice (some ⟨g, 0, none⟩) n n) n cs :=
  ⟨by omega, .inr ⟨g, n, _, rfl, h, Nat.le_refl _, hm, by simp [hn], by rw [Nat.mul_one]; exact List.take_of_length_le (by show cs.length ≤ n; omega)⟩⟩
theorem RGrew.same {w w' : World} {rb : Nat} {S : List Int} {M : Int} {N : List Nd} {z : List Nat} (h : RAt w rb S M N z) (hb : Below w.heap.size w w') : RGrew w w' rb S M N z := ⟨z, h.new hb, Mods.of_new hb, fun k hk => .inl hk⟩
section
variable {w w' : World} {rb : Nat} {what : Int} {S : List Int} {M : Int} {N : List Nd} {z : List Nat} {f g : Int}
set_option maxRecDepth 100000 in
set_option maxHeartbeats 4000000 in
theorem two_any (hw : 1 ≤ what ∧ what ≤ 3) (h : RAt w rb S M N z) : Calls Try.prog 64 #[.pointer (some ⟨rb, 0, none⟩), .int .i64 what, .int .i64 f, .int .i64 g] w (ROpPost w rb S M z (binA (what - 1) S M N f g)) := by
  have HF := Hid.mk_ (rhas_at h f)
  have HG := Hid.mk_ (rhas_at h g)
  have HH := Hid.mk_ h
  by_cases hh : hasA N f = true ∧ hasA N g = true
  · obtain ⟨hf, hg⟩ := hh
    rw [hf] at HF
    rw [hg] at HG
    have e : binA (what - 1) S M N f g = outA N (runT (what - 1) S M N f g) := by unfold binA; rw [if_pos ⟨hf, hg⟩]
    rw [e]
    have HA := Hid.mk_ (⟨hf, hg⟩ : hasA N f = true ∧ hasA N g = true)
    have HLEN := Hid.mk_ (rlen_at h)
    have HFI := Hid.mk_ (runT_fine (op := what - 1) h.good hf hg)
    obtain ⟨R, hR⟩ : ∃ R, R = runT (what - 1) S M N f g := ⟨_, rfl⟩
    rw [← hR] at HFI ⊢
    have HR := Hid.mk_ hR
    have hl8 := h.good.len2
    have HW := Hid.mk_ hw
    obtain ⟨i124, hi124, hz0, hz1, hz2⟩ := info_parts Try.info124
    have hib : i124.bytes = 24 := hz2
    have hnn : (0 : Int) ≤ (N.length : Int) + 2 := by omega
    clear h hf hg e hR
    go_enter Try.func64, Try.ntmps64
    go_upto_region 7 with (first
      | (go_at_call 48; (with_reducible refine HF.out.mono ?_); rintro e w' ⟨rfl, rfl⟩)
      | (go_at_call 48; (with_reducible refine HG.out.mono ?_); rintro e w' ⟨rfl, rfl⟩)
      | (go_at_call 19; (with_reducible refine HLEN.out.mono ?_); rintro e w' ⟨rfl, rfl⟩)
      | (at_make; refine make_row' _ rfl (.tmp 32) (.tmp 32) 117 rfl 124 i124 (.slice none 0 0) Try.underlying117 hi124 hz0 hz1 rfl .i64 .i64 (N.length + 2) ((N.length : Int) + 2) (by omega) rfl rfl (by rw [hib]; omega) (by omega) ?_))
    obtain ⟨w1, hw1⟩ : ∃ w1, w1 = w.alloc (.cells (Array.replicate (N.length + 2) (.slice none 0 0)) 124) := ⟨_, rfl⟩
    obtain ⟨w2, hw2⟩ : ∃ w2, w2 = w1.alloc (.cells #[.pointer (some ⟨rb, 0, none⟩), .int .i64 what, .slice (some ⟨w.heap.size, 0, none⟩) (N.length + 2) (N.length + 2), .int .i64 0] 119) := ⟨_, rfl⟩
    rw [← hw1, ← hw2]
    rw [show Array.replicate (N.length + 2) (Value.slice none 0 0) = (List.replicate (N.length + 2) (Value.slice none 0 0)).toArray by simp] at hw1
    have hb1 : Below w.heap.size w w1 := by rw [hw1]; exact (Below.refl _ _).alloc (Nat.le_refl _) _
    have hs1 : w1.heap.size = w.heap.size + 1 := by rw [hw1]; simp
    have hb2 : Below w.heap.size w w2 := by rw [hw2]; exact hb1.alloc (by omega) _
    have hk1 : Blk w1 w.heap.size (List.replicate (N.length + 2) (.slice none 0 0)) 124 := by rw [hw1]; exact Blk.new w _ 124
    have hk1' : Blk w2 w.heap.size (List.replicate (N.length + 2) (.slice none 0 0)) 124 := by rw [hw2]; exact hk1.alloc _
    have hk2 : Blk w2 (w.heap.size + 1) [.pointer (some ⟨rb, 0, none⟩), .int .i64 what, .slice (some ⟨w.heap.size, 0, none⟩) (N.length + 2) (N.length + 2), .int .i64 0] 119 := by rw [hw2, ← hs1]; exact Blk.new w1 _ 119
    have hrm : RM w2 (w.heap.size + 1) rb what 0 S M N z (.slice (some ⟨w.heap.size, 0, none⟩) (N.length + 2) (N.length + 2)) (List.replicate (N.length + 2) (.slice none 0 0)) (List.replicate (N.length + 2) []) := by
      refine ⟨hk2, HH.out.new hb2, ?_, by simp, fun i hi hi2 => ?_, fun i j hi hj hij k hk => ?_, fun k hk hkz => ?_⟩
      · rw [List.length_replicate]
        exact row_of_blk hk1' (by simp) (by unfold maxLen; omega)
      · rw [List.getElem_replicate, List.getElem_replicate]
        exact Row.nil _ _ _
      · rw [List.getElem_replicate] at hk
        simp [Value.ownBlock] at hk
      · have hz := HH.out.zlt hkz
        rcases hk with e | e | ⟨v, hv, e⟩
        · omega
        · have e : w.heap.size = k := Option.some.inj e
          omega
        · rw [List.eq_of_mem_replicate hv] at e
          simp [Value.ownBlock] at e
    have hrk : RKn (what - 1) S M N N (List.replicate (N.length + 2) []) := by
      refine ⟨HH.out.good, by simp, List.prefix_refl _, fun fi hf p hp => ?_, fun fi hf => ?_⟩
      · rw [List.getElem_replicate] at hp
        simp at hp
      · rw [List.getElem_replicate]
        simp
    have hap := rapply_any HW.out (S.length + 1) w2 N z _ _ f g hrm hrk HA.out.1 HA.out.2 (deep_lt HH.out.good f g)
    rw [← HR.out] at hap
    have HAP := Hid.mk_ hap
    have HB2 := Hid.mk_ hb2
    obtain ⟨lv, hlv⟩ : ∃ lv, lv = Value.slice (some ⟨w.heap.size, 0, none⟩) (N.length + 2) (N.length + 2) := ⟨_, rfl⟩
    obtain ⟨b, hbe⟩ : ∃ b, b = w.heap.size + 1 := ⟨_, rfl⟩
    rw [← hlv, ← hbe] at HAP
    rw [← hbe]
    have HLV := Hid.mk_ hlv
    have HBE := Hid.mk_ hbe
    clear hw1 hw2 hb1 hs1 hb2 hk1 hk1' hk2 hrm hrk hap hlv hbe
    go_upto_region 8 with (go_at_call 76; (with_reducible refine HAP.out.mono ?_); rintro e w3 ⟨rfl, R', hgrew, hkn, hrl⟩)
    obtain ⟨z3, rows3, hm3, hmo3, hz3⟩ := hgrew
    have c3 := hm3.blk.cell 3
    have c3l := hm3.blk.lt
    have hmw : Mods (· ∈ z) w w3 := (Mods.of_new (S := (· ∈ z)) HB2.out).trans hmo3 (fun k hk hkz => by
      rcases hkz with e | e | e | ⟨v, hv, e⟩
      · exact e
      · have := HBE.out; omega
      · rw [HLV.out] at e
        have e : w.heap.size = k := Option.some.inj e
        omega
      · rw [List.eq_of_mem_replicate hv] at e
        simp [Value.ownBlock] at e)
    have hs2 := HB2.out.size
    have hzz : ∀ k ∈ z3, k ∈ z ∨ w.heap.size ≤ k := fun k hk => by
      rcases hz3 k (.inl hk) with e | e
      · rcases e with e | e | e | ⟨v, hv, e⟩
        · exact .inl e
        · have := HBE.out; exact .inr (by omega)
        · rw [HLV.out] at e
          have e : w.heap.size = k := Option.some.inj e
          exact .inr (by omega)
        · rw [List.eq_of_mem_replicate hv] at e
          simp [Value.ownBlock] at e
      · exact .inr (by omega)
    have HM3 := Hid.mk_ hm3
    have HMW := Hid.mk_ hmw
    have HZZ := Hid.mk_ hzz
    clear hm3 hmo3 hz3 hkn hrl hmw hzz
    by_cases he : R.2.2 = 0
    · have t1 : (R.2.2 != 0) = false := by simp [he]
      have t2 : decide (¬ R.2.2 = 0) = false := by simp [he]
      have HE := Hid.mk_ he
      clear he
      go_wp2_with fail
      go_ret2
      have eo : outA N R = R := by unfold outA; rw [if_pos HE.out]
      rw [eo]
      exact ⟨by rw [HE.out]; rfl, z3, HM3.out.ra, HMW.out, HZZ.out⟩
    · have t1 : (R.2.2 != 0) = true := by simpa using he
      have t2 : decide (¬ R.2.2 = 0) = true := by simpa using he
      have HE := Hid.mk_ he
      have hbk := rback_at HM3.out.ra (N.length : Int)
      have eb : backA R.1 (N.length : Int) = (N, 0) := by
        unfold backA
        rw [if_pos ⟨by omega, by have := HFI.out.pre.length_le; omega⟩]
        obtain ⟨u, hu⟩ := HFI.out.pre
        rw [← hu]
        simp
      rw [eb] at hbk
      have HBK := Hid.mk_ hbk
      clear he hbk eb
      go_upto_region 10 with (go_at_call 15; (with_reducible refine HBK.out.mono ?_); rintro e w4 ⟨rfl, hg4⟩)
      have hmg := HM3.out.grew hg4
      obtain ⟨z4, hm4, hmo4, hz4⟩ := hmg
      have d3 := hm4.blk.cell 3
      have dl := hm4.blk.lt
      have HM4 := Hid.mk_ hm4
      clear hm4 c3 c3l
      go_big_quiet (fail)
      go_wp2_with fail
      go_ret2
      have eo : outA N R = (N, 0, R.2.2) := by unfold outA; rw [if_neg HE.out]
      rw [eo]
      refine ⟨rfl, z4, HM4.out.ra.new (Drawn_below _ _), (HMW.out.trans hmo4 (fun k hk hkz => ?_)).drewN _, fun k hk => ?_⟩
      · rcases HZZ.out k hkz with e | e
        · exact e
        · omega
      · rcases hz4 k hk with e | e
        · exact HZZ.out k e
        · exact .inr (by have := HMW.out.size; omega)
  · have e : binA (what - 1) S M N f g = (N, 0, 1) := by unfold binA; rw [if_neg hh]
    rw [e]
    clear h hw e
    cases hf : hasA N f with
    | false =>
      rw [hf] at HF
      clear hf hh
      cases hg : hasA N g
      all_goals (
        rw [hg] at HG
        clear hg
        go_enter Try.func64, Try.ntmps64
        go_wp2_with (first
          | (go_at_call 48; (with_reducible refine HF.out.mono ?_); rintro e w' ⟨rfl, rfl⟩)
          | (go_at_call 48; (with_reducible refine HG.out.mono ?_); rintro e w' ⟨rfl, rfl⟩))
        go_ret2
        exact ⟨rfl, RGrew.same HH.out (Below.refl _ _)⟩)
    | true =>
      have hg : hasA N g = false := by
        cases hg : hasA N g
        · rfl
        · exact absurd ⟨hf, hg⟩ hh
      rw [hf] at HF
      rw [hg] at HG
      clear hf hg hh
      go_enter Try.func64, Try.ntmps64
      go_wp2_with (first
        | (go_at_call 48; (with_reducible refine HF.out.mono ?_); rintro e w' ⟨rfl, rfl⟩)
        | (go_at_call 48; (with_reducible refine HG.out.mono ?_); rintro e w' ⟨rfl, rfl⟩))
      go_ret2
      exact ⟨rfl, RGrew.same HH.out (Below.refl _ _)⟩
end
end Go.Proofs.Ytmfdcaalbpikpaa
