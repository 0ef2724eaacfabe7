/- The document's Nodes: its walk. -/
import Derived.Test.YtmfdcaalbpikpaaX17
import Derived.Test.YtmfdcaalbpikpaaX3
namespace Go.Proofs.Ytmfdcaalbpikpaa
open Go.RowKit Go.Maps
set_option linter.unusedVariables false
set_option linter.unusedSimpArgs false
structure RWK (b : Nat) (w w' : World) (mb : Nat) (s : List Bool × List Int) (v : Value) : Prop where
  bl : Below b w w'
  row : Row w' 3 1 v s.2.length (s.2.map (Value.int .i64))
  own : ∀ k, v.ownBlock = some k → b ≤ k
  mt : Blk w' mb (s.1.map Value.bool) 4
  ge : b ≤ mb
def RWalkPost (b : Nat) (w0 w : World) (mb : Nat) (v : Value) (s : List Bool × List Int) (e : Ending) (w' : World) : Prop :=
  ∃ v', e = .returned v' ∧ RWK b w0 w' mb s v' ∧ Mods (fun k => k = mb ∨ v.ownBlock = some k) w w' ∧ ∀ k, v'.ownBlock = some k → v.ownBlock = some k ∨ w.heap.size ≤ k
structure RWL (b : Nat) (w0 w wr : World) (mb : Nat) (v : Value) (s : List Bool × List Int) (v' : Value) : Prop where
  wk : RWK b w0 wr mb s v'
  mods : Mods (fun k => k = mb ∨ v.ownBlock = some k) w wr
  own : ∀ k, v'.ownBlock = some k → v.ownBlock = some k ∨ w.heap.size ≤ k
section
variable {b : Nat} {w0 w w' : World} {rb mb : Nat} {S : List Int} {M : Int} {N : List Nd} {z : List Nat} {s : List Bool × List Int} {v : Value}
theorem RWK.far (h : RWK b w0 w mb s v) {fn : Nat} : RWK b w0 (w.setCell ⟨mb, fn, none⟩ (.bool true)) mb (s.1.set fn true, s.2) v := by
  have hmt := h.mt
  refine ⟨h.bl.setCell h.ge _, ?_, h.own, ?_, h.ge⟩
  · exact h.row.move fun k hk => Below.heap_setCell _ _ _ _ (fun e => row_blk h.row hmt (by decide) (by rw [hk]; exact congrArg some e))
  · have := hmt.set fn (.bool true)
    rwa [← List.map_set] at this
theorem RWK.new (h : RWK b w0 w mb s v) (hb : Below w.heap.size w w') (hs : b ≤ w.heap.size) : RWK b w0 w' mb s v :=
  ⟨h.bl.trans (hb.mono hs), h.row.move fun k hk => hb.block k (h.row.lt k hk), h.own, h.mt.below hb h.mt.lt, h.ge⟩
theorem rwalk_skip (h : RWK b w0 w mb s v) : RWalkPost b w0 w mb v s (.returned v) w := ⟨v, rfl, h, Mods.refl _ _, fun k hk => .inl hk⟩
set_option maxRecDepth 100000 in
set_option maxHeartbeats 4000000 in
theorem rwalk_low (h : RWK b w0 w mb s v) {f : Int} (hf : f < 2) : Calls Try.prog 68 #[.pointer (some ⟨rb, 0, none⟩), .int .i64 f, .slice (some ⟨mb, 0, none⟩) s.1.length s.1.length, v] w (RWalkPost b w0 w mb v s) := by
  have HH := Hid.mk_ h
  have t1 : decide (f < 2) = true := decide_eq_true hf
  obtain ⟨Ao, co, rfl⟩ := h.row.shape
  clear h
  go_enter Try.func68, Try.ntmps68
  go_wp2_with fail
  go_ret
  exact rwalk_skip HH.out
set_option maxRecDepth 100000 in
set_option maxHeartbeats 4000000 in
theorem rwalk_met (h : RWK b w0 w mb s v) {f : Nat} (hf : 2 ≤ f) (hm : s.1.getD f false = true) (hl : f < s.1.length) : Calls Try.prog 68 #[.pointer (some ⟨rb, 0, none⟩), .int .i64 (f : Int), .slice (some ⟨mb, 0, none⟩) s.1.length s.1.length, v] w (RWalkPost b w0 w mb v s) := by
  have HH := Hid.mk_ h
  have t0 : ¬ (f : Int) < 2 := by omega
  have t1 : decide ((f : Int) < 2) = false := decide_eq_false t0
  have c2 : w.cell? ⟨mb, f, none⟩ = some (.bool true) := by rw [h.mt.cell f]; simp [List.getD, hl] at hm; simp [hl, hm]
  have l2 := h.mt.lt
  have hl1 : (f : Int) < s.1.length := by omega
  obtain ⟨Ao, co, rfl⟩ := h.row.shape
  clear h
  go_enter Try.func68, Try.ntmps68
  go_wp2_with fail
  go_ret
  exact rwalk_skip HH.out
set_option maxRecDepth 100000 in
set_option maxHeartbeats 8000000 in
theorem rwalk_any (hb : b = w0.heap.size) (hP : RAt w0 rb S M N z) : ∀ (n : Nat) (f : Int) (w : World) (s : List Bool × List Int) (v : Value), f.toNat ≤ n → hasA N f = true → Fits N 0 s → RWK b w0 w mb s v → b ≤ w.heap.size →
    Calls Try.prog 68 #[.pointer (some ⟨rb, 0, none⟩), .int .i64 f, .slice (some ⟨mb, 0, none⟩) s.1.length s.1.length, v] w (RWalkPost b w0 w mb v (walkN N n f s))
  | 0, f, w, s, v, hn, hf, hs, h, hbw => by
    rw [walkN_skip (.inl (by omega))]
    exact rwalk_low h (by omega)
  | n + 1, f, w, s, v, hn, hf, hs, h, hbw => by
    by_cases h1 : f < 2
    · rw [walkN_skip (.inl h1)]
      exact rwalk_low h h1
    · have hr := has_iff.1 hf
      obtain ⟨fn, rfl⟩ : ∃ fn : Nat, f = (fn : Int) := ⟨f.toNat, by omega⟩
      have hl : fn < s.1.length := by have := hs.len; omega
      cases h2 : s.1.getD fn false with
      | true =>
        rw [walkN_skip (.inr (by rw [Int.toNat_natCast]; exact h2))]
        exact rwalk_met h (by omega) h2 hl
      | false =>
        rw [walkN_do h1 (by rw [Int.toNat_natCast]; exact h2)]
        rcases leaf_or hP.good hf with e | ⟨lv, ks, ha⟩
        · omega
        · have hG := hP.good
          rw [ha.kse, Int.toNat_natCast]
          have hs1 := hs.set hf (by rw [Int.toNat_natCast]; exact h2)
          rw [Int.toNat_natCast] at hs1
          obtain ⟨s1, hs1e⟩ : ∃ s1, s1 = (s.1.set fn true, s.2) := ⟨_, rfl⟩
          rw [← hs1e] at hs1 ⊢
          have HIH := Hid.mk_ (rwalk_any hb hP n)
          have t0 : ¬ (fn : Int) < 2 := h1
          have t1 : decide ((fn : Int) < 2) = false := decide_eq_false h1
          have c2 : w.cell? ⟨mb, fn, none⟩ = some (.bool false) := by rw [h.mt.cell fn]; simp [List.getD, hl] at h2; simp [hl, h2]
          have f2 := h.mt.free fn
          have l2 := h.mt.lt
          have hl1 : (fn : Int) < s.1.length := by omega
          have hkk : ∀ k ∈ ks, hasA N k = true ∧ k.toNat ≤ n := fun k hk => ⟨(ha.low k hk).1, by have := (ha.low k hk).2.1; have := has_iff.1 (ha.low k hk).1; omega⟩
          obtain ⟨ln, rfl⟩ : ∃ ln : Nat, lv = (ln : Int) := ⟨lv.toNat, by have := ha.l0; omega⟩
          have hlS : ln < S.length := by have := ha.l0; omega
          have hlSi : (ln : Int) < S.length := by omega
          have hS2 := hG.s2
          have hob : S[ln]'hlS = (ks.length : Int) ∧ ks.length ≤ 256 := by
            have e1 := ha.len.1
            have e3 := hG.toSized.at_ ln (by omega)
            rw [← getD_mem] at e3
            rw [Int.toNat_natCast, getD_mem hlS] at e1
            rw [getD_mem hlS] at e3
            omega
          have hks := hob.2
          have hfar := h.far (fn := fn)
          rw [← hs1e] at hfar
          obtain ⟨Ao, co, rfl⟩ := h.row.shape
          have HH := Hid.mk_ h
          have HP := Hid.mk_ hP
          have HS1 := Hid.mk_ hs1
          have HKK := Hid.mk_ hkk
          have HAT := Hid.mk_ ha
          have HFAR := Hid.mk_ hfar
          have HSE := Hid.mk_ hs1e
          have HBB := Hid.mk_ hb
          have HOB := Hid.mk_ hob
          have hsl : s.1.length = N.length + 2 := hs.len
          have HSL := Hid.mk_ hsl
          clear h hs1 hkk ha hfar hs1e hP hf hs h2 hn hG hb hsl hob
          go_enter Try.func68, Try.ntmps68
          go_upto_region 4 with fail
          obtain ⟨w1, hw1⟩ : ∃ w1, w1 = w.setCell ⟨mb, fn, none⟩ (.bool true) := ⟨_, rfl⟩
          rw [← hw1]
          rw [← hw1] at HFAR
          have hmo1 : Mods (fun k => k = mb ∨ (Value.slice Ao s.2.length co).ownBlock = some k) w w1 := by rw [hw1]; exact (Mods.refl _ w).setCell (fun _ => .inl rfl) _
          have hwl : RWL b w0 w w1 mb (.slice Ao s.2.length co) (walksN N n (ks.take 0) s1) (.slice Ao s.2.length co) := ⟨HFAR.out, hmo1, fun k hk => .inl hk⟩
          have HWL := Hid.mk_ hwl
          clear hw1 c2 f2 l2 hmo1 hwl
          go_wp2_with fail
          go_loopw [3, 9] (fun x3 x9 wr => ∃ k : Nat, k ≤ ks.length ∧ x9 = .int .i64 (k : Int) ∧ Hid (RWL b w0 w wr mb (.slice Ao s.2.length co) (walksN N n (ks.take k) s1) x3)) (fun _ x9 _ => ks.length - (intOf x9).toNat)
          case atStart => exact ⟨0, Nat.zero_le _, rfl, HWL⟩
          case round =>
            obtain ⟨k, hk, rfl, HL⟩ := hrel
            have HPR := Hid.mk_ (HP.out.new (HBB.out ▸ HL.out.wk.bl))
            obtain ⟨gs, cs0, r0, hgs, hrb, hsc⟩ := HPR.out.sizes
            have c1 := hsc ln hlS
            rw [HOB.out.1] at c1
            have HLQ := Hid.mk_ (fun q => quietly (w := wr) q (rlevel_at (HPR.out.new (Drawn_below wr q)) fn))
            rw [HAT.out.lv] at HLQ
            clear hsc
            by_cases hlt : k < ks.length
            · have hlt1 : (k : Int) < ks.length := by omega
              have t5 : decide ((k : Int) < ks.length) = true := decide_eq_true hlt1
              go_upto_region 5 with fail
              go_big_quiet ((go_at_call 49; with_reducible exact HLQ.out _))
              clear c1 r0
              obtain ⟨w2, hw2⟩ : ∃ w2, w2 = wr.drewN nq := ⟨_, rfl⟩
              rw [← hw2]
              have hb2 : Below wr.heap.size wr w2 := by rw [hw2]; exact Drawn_below _ _
              have HPR2 := Hid.mk_ (HPR.out.new hb2)
              have hsz : b ≤ wr.heap.size := Nat.le_trans hbw HL.out.mods.size
              have HWK2 := Hid.mk_ (HL.out.wk.new hb2 hsz)
              have HKI := Hid.mk_ (rkid_at HPR2.out HAT.out hlt)
              obtain ⟨y, hy⟩ : ∃ y, y = ks[k]'hlt := ⟨_, rfl⟩
              have hky := HKK.out y (by rw [hy]; exact List.getElem_mem hlt)
              have hft : Fits N 1 (walksN N n (ks.take k) s1) := walks_fits_ HP.out.good (fun k hk' => (HKK.out k (List.mem_of_mem_take hk')).1) HS1.out
              have hca := HIH.out y w2 (walksN N n (ks.take k) s1) u3 hky.2 hky.1 (hft.mono (by omega)) HWK2.out (Nat.le_trans hsz hb2.size)
              have hst : walkN N n y (walksN N n (ks.take k) s1) = walksN N n (ks.take (k + 1)) s1 := by rw [walksN_take hlt, hy]
              rw [hst, hft.len, ← HSL.out] at hca
              rw [← hy] at HKI
              have HCA := Hid.mk_ hca
              have HB2 := Hid.mk_ hb2
              clear hca hst hft hky hy hw2 hb2
              go_wp2_with (first
                | (go_at_call 66; (with_reducible refine HKI.out.mono ?_); rintro e w' ⟨rfl, rfl⟩)
                | (go_at_call 68; (with_reducible refine HCA.out.mono ?_); rintro e w7 ⟨v7, rfl, hk7, hm7, ho7⟩))
              have hs2 := HB2.out.size
              refine ⟨⟨k + 1, by omega, by go_num, ⟨hk7, ?_, fun q hq => ?_⟩⟩, by simp [intOf]; omega⟩
              · refine (HL.out.mods.then_new HB2.out).trans hm7 fun q hq hqq => ?_
                rcases hqq with e | e
                · exact .inl e
                · rcases HL.out.own q e with e2 | e2
                  · exact .inr e2
                  · omega
              · rcases ho7 q hq with e | e
                · exact HL.out.own q e
                · exact .inr (by have := HL.out.mods.size; omega)
            · have hke : k = ks.length := by omega
              subst hke
              rw [List.take_length] at HL
              have hlt1 : ¬ ((ks.length : Nat) : Int) < ks.length := by omega
              have t5 : decide (((ks.length : Nat) : Int) < ks.length) = false := decide_eq_false hlt1
              go_upto_region 5 with fail
              go_big_quiet ((go_at_call 49; with_reducible exact HLQ.out _))
              clear c1 r0
              obtain ⟨w2, hw2⟩ : ∃ w2, w2 = wr.drewN nq := ⟨_, rfl⟩
              rw [← hw2]
              have hb2 : Below wr.heap.size wr w2 := by rw [hw2]; exact Drawn_below _ _
              have hsz : b ≤ wr.heap.size := Nat.le_trans hbw HL.out.mods.size
              have hwk2 := HL.out.wk.new hb2 hsz
              obtain ⟨A3, c3, hvs⟩ := hwk2.row.shape
              have hft : Fits N 1 (walksN N n ks s1) := walks_fits_ HP.out.good (fun k hk => (HKK.out k hk).1) HS1.out
              obtain ⟨T, hT⟩ : ∃ T, T = walksN N n ks s1 := ⟨_, rfl⟩
              rw [← hT] at HL hwk2 hft hvs
              subst hvs
              have HT := Hid.mk_ hT
              have HWK2 := Hid.mk_ hwk2
              have hmo2 := HL.out.mods.then_new hb2
              have HMO2 := Hid.mk_ hmo2
              have HB2 := Hid.mk_ hb2
              have hol := hft.cnt
              have hnn := HP.out.good.len2
              obtain ⟨i3, hi3, ha0, ha1, ha2⟩ := info_parts Try.info3
              clear hT hw2 hb2 hwk2 hmo2 hft
              go_wp2_with (at_builtin; refine wpList_append_row _ rfl (.tmp 43) (.tmp 45) 22 rfl 3 i3 (.int .i64 0) 1 8 Try.underlying22 hi3 ha0 ha1 ha2 rfl (by omega) (.slice A3 T.2.length c3) T.2.length (T.2.map (Value.int .i64)) rfl (HWK2.out.row.alloc _) ⟨w2.heap.size, 0, none⟩ 1 1 [.int .i64 (fn : Int)] rfl rfl (one_cells_at w2 _ _ rfl) (by simp [Value.oneCell']) (by omega) (by unfold maxLen; omega) (by omega) (w2.heap.size + 1) (by simp) ?_; intro g' c' w' hrow hgrow hloc hlt')
              have hs2 := HMO2.out.size
              have hbg : ∀ q, (Value.slice A3 T.2.length c3).ownBlock = some q → b ≤ q := HWK2.out.own
              refine bodyPost_ret (v := .slice (some ⟨g', 0, none⟩) (T.2.length + 1) c') (by simp [results, Try.results68, go_sem]) rfl ?_
              rw [← HT.out]
              refine ⟨.slice (some ⟨g', 0, none⟩) (T.2.length + 1) c', rfl, ⟨?_, ?_, ?_, ?_, HWK2.out.ge⟩, ?_, ?_⟩
              · exact (HWK2.out.bl.alloc (by omega) _).grown hgrow (by simp; omega) hbg
              · have e : (T.2 ++ [(fn : Int)]).map (Value.int .i64) = T.2.map (Value.int .i64) ++ [.int .i64 (fn : Int)] := by simp
                rw [show ((T.1, T.2 ++ [(fn : Int)]) : List Bool × List Int).2 = T.2 ++ [(fn : Int)] from rfl, e, List.length_append]
                exact hrow
              · intro q hq
                have e1 : g' = q := Option.some.inj hq
                subst e1
                rcases hloc with h | h
                · exact hbg _ h
                · omega
              · exact (HWK2.out.mt.alloc _).grown hgrow (fun e => row_blk HWK2.out.row HWK2.out.mt (by decide) e.symm)
              · refine (HMO2.out.alloc _).grown hgrow fun q hq hlt => ?_
                rcases HL.out.own q hq with e | e
                · exact .inr e
                · omega
              · intro q hq
                have e1 : g' = q := Option.some.inj hq
                subst e1
                rcases hloc with h | h
                · exact HL.out.own _ h
                · exact .inr (by omega)
end
end Go.Proofs.Ytmfdcaalbpikpaa
namespace Go.Proofs.Ytmfdcaalbpikpaa
open Go.RowKit Go.Maps
set_option linter.unusedVariables false
set_option linter.unusedSimpArgs false
section
variable {w w' : World} {rb : Nat} {S : List Int} {M : Int} {N : List Nd} {z : List Nat} {A : Option Addr} {c : Nat} {roots : List Int}
set_option maxRecDepth 100000 in
set_option maxHeartbeats 8000000 in
theorem rnodes_any (h : RAt w rb S M N z) (hr : IntsIn w A roots) : Calls Try.prog 54 #[.pointer (some ⟨rb, 0, none⟩), .slice A roots.length c] w (NodesPost w (nodesR N roots)) := by
  have HP := Hid.mk_ h
  have HR := Hid.mk_ hr
  have hrl := hr.1
  have hnn := h.good.len2
  obtain ⟨R, hRq⟩ : ∃ R, R = nodesR N roots := ⟨_, rfl⟩
  rw [← hRq]
  have HRR := Hid.mk_ hRq
  obtain ⟨i4, hi4, hb0, hb1', hb2⟩ := info_parts Try.info4
  have hi1 : i4.bytes = 1 := hb2
  have HBY := Hid.mk_ hi1
  have HLEN := Hid.mk_ (rlen_at h)
  clear h hr hRq hi1
  go_enter Try.func54, Try.ntmps54
  go_upto_region 2 with (first
        | (go_at_call 19; (with_reducible refine HLEN.out.mono ?_); rintro e w' ⟨rfl, rfl⟩)
        | (at_make; refine make_row' _ rfl (.tmp 12) (.tmp 12) 34 rfl 4 i4 (.bool false) Try.underlying34 hi4 hb0 hb1' rfl .i64 .i64 (N.length + 2) ((N.length : Int) + 2) (by omega) rfl rfl (by rw [HBY.out]; omega) (by omega) ?_))
  obtain ⟨w4, hw4⟩ : ∃ w4, w4 = w.alloc (.cells (Array.replicate (N.length + 2) (.bool false)) 4) := ⟨_, rfl⟩
  obtain ⟨mb, hmb⟩ : ∃ mb, mb = w.heap.size := ⟨_, rfl⟩
  rw [← hw4, ← hmb]
  have hmt4 : Blk w4 mb ((List.replicate (N.length + 2) false).map Value.bool) 4 := by
    rw [hw4, hmb, List.map_replicate]
    have e : Array.replicate (N.length + 2) (Value.bool false) = (List.replicate (N.length + 2) (Value.bool false)).toArray := by simp
    rw [e]
    exact Blk.new w _ 4
  have hb4 : Below w.heap.size w w4 := by rw [hw4]; exact (Below.refl _ _).alloc (Nat.le_refl _) _
  have hw0 : RWK w.heap.size w w4 mb (List.replicate (N.length + 2) false, []) (.slice none 0 0) := ⟨hb4, Row.nil _ _ _, fun k hk => by simp [Value.ownBlock] at hk, hmt4, by omega⟩
  have HW0 := Hid.mk_ hw0
  clear hw4 hmb hmt4 hb4 hw0 HLEN
  go_wp2_with fail
  go_loopw [7, 8] (fun x7 x8 wr => ∃ k : Nat, k ≤ roots.length ∧ x8 = .int .i64 (k : Int) ∧ Hid (∀ i (hi : i < roots.length), i < k → hasA N (roots[i]'hi) = true) ∧ Hid (RWK w.heap.size w wr mb (walksN N (N.length + 2) (roots.take k) (List.replicate (N.length + 2) false, [])) x7)) (fun _ x8 _ => roots.length - (intOf x8).toNat)
  case atStart => exact ⟨0, Nat.zero_le _, rfl, fun i hi h0 => by omega, HW0⟩
  case round =>
    obtain ⟨k, hk, rfl, HT, HL⟩ := hrel
    by_cases hlt : k < roots.length
    · have hlt1 : (k : Int) < roots.length := by omega
      obtain ⟨g, o, rfl, hg, hcs⟩ := (HR.out.move HL.out.bl.size (fun g o e hg => HL.out.bl.block g hg)).2 (by omega)
      have c0 := hcs k hlt
      obtain ⟨x, hx⟩ : ∃ x, x = roots[k]'hlt := ⟨_, rfl⟩
      rw [← hx] at c0
      have HX := Hid.mk_ hx
      have HF := Hid.mk_ (rhas_at (HP.out.new HL.out.bl) x)
      clear hcs hx
      cases hf : hasA N x with
      | false =>
        have e : R = ([], 1) := by rw [HRR.out]; exact nodesR_bad hlt (by rw [← HX.out]; exact hf)
        rw [hf] at HF
        subst e
        clear hf
        go_wp2_with (go_at_call 48; (with_reducible refine HF.out.mono ?_); rintro e w' ⟨rfl, rfl⟩)
        go_ret2
        exact nil_post HL.out.bl
      | true =>
        rw [hf] at HF
        have hrx := has_iff.1 hf
        have HFX : Hid (∀ i (hi : i < roots.length), i < k + 1 → hasA N (roots[i]'hi) = true) := Hid.mk_ fun i hi hik => by
          by_cases e : i = k
          · subst e; rw [← HX.out]; exact hf
          · exact HT.out i hi (by omega)
        have hkt : ∀ f ∈ roots.take k, hasA N f = true := fun f hf => by
          obtain ⟨i, hi, rfl⟩ := List.getElem_of_mem hf
          rw [List.getElem_take]
          rw [List.length_take] at hi
          exact HT.out i (by omega) (by omega)
        have hft : Fits N 0 (walksN N (N.length + 2) (roots.take k) (List.replicate (N.length + 2) false, [])) := walks_fits_ HP.out.good hkt Fits.start
        have hca := rwalk_any rfl HP.out (N.length + 2) x wr (walksN N (N.length + 2) (roots.take k) (List.replicate (N.length + 2) false, [])) u7 (by omega) hf hft HL.out HL.out.bl.size
        have hst : walkN N (N.length + 2) x (walksN N (N.length + 2) (roots.take k) (List.replicate (N.length + 2) false, [])) = walksN N (N.length + 2) (roots.take (k + 1)) (List.replicate (N.length + 2) false, []) := by rw [walksN_take hlt, HX.out]
        rw [hst, hft.len] at hca
        have HCA := Hid.mk_ hca
        clear hca hst hft hf hrx hkt
        go_wp2_with (first
          | (go_at_call 48; (with_reducible refine HF.out.mono ?_); rintro e w' ⟨rfl, rfl⟩)
          | (go_at_call 68; (with_reducible refine HCA.out.mono ?_); rintro e w7 ⟨v7, rfl, hk7, hm7, ho7⟩))
        exact ⟨⟨k + 1, by omega, by go_num, HFX, hk7⟩, by simp [intOf]; omega⟩
    · have hke : k = roots.length := by omega
      subst hke
      rw [List.take_length] at HL
      have hlt1 : ¬ ((roots.length : Nat) : Int) < roots.length := by omega
      have hall : ∀ f ∈ roots, hasA N f = true := fun f hf => by
        obtain ⟨i, hi, rfl⟩ := List.getElem_of_mem hf
        exact HT.out i hi hi
      have HR2 := Hid.mk_ (HRR.out.trans (nodesR_ok hall))
      obtain ⟨A3, c3, rfl⟩ := HL.out.row.shape
      clear hall
      go_wp2_with fail
      refine bodyPost_ret (v := .tuple #[.slice A3 (walksN N (N.length + 2) roots (List.replicate (N.length + 2) false, [])).2.length c3, .int .i64 0]) (by simp [results, Try.results54, go_sem]) rfl ?_
      rw [HR2.out]
      exact ⟨_, rfl, HL.out.row, HL.out.own, HL.out.bl⟩
end
end Go.Proofs.Ytmfdcaalbpikpaa
