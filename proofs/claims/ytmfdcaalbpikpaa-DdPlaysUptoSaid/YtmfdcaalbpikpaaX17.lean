/- Nodes: the closure that goes through a diagram. -/
import Derived.Test.YtmfdcaalbpikpaaQ10
import Derived.Test.YtmfdcaalbpikpaaW8
import Derived.Test.YtmfdcaalbpikpaaW11
namespace Go.Proofs.Ytmfdcaalbpikpaa
open Go.RowKit Go.Maps
set_option linter.unusedVariables false
set_option linter.unusedSimpArgs false
def capt (gm ga gw go : Nat) : Array Value := #[.pointer (some ⟨gm, 0, none⟩), .pointer (some ⟨ga, 0, none⟩), .pointer (some ⟨gw, 0, none⟩), .pointer (some ⟨go, 0, none⟩)]
structure WK (b : Nat) (w w' : World) (ab gm ga gw go mb : Nat) (s : List Bool × List Int) (v : Value) : Prop where
  bl : Below b w w'
  pm : Blk w' gm [.slice (some ⟨mb, 0, none⟩) s.1.length s.1.length] 34
  pa : Blk w' ga [.pointer (some ⟨ab, 0, none⟩)] 30
  pw : Blk w' gw [.func (.func 67) #[] #[.pointer (some ⟨gm, 0, none⟩), .pointer (some ⟨ga, 0, none⟩), .pointer (some ⟨gw, 0, none⟩), .pointer (some ⟨go, 0, none⟩)]] 106
  po : Blk w' go [v] 22
  row : Row w' 3 1 v s.2.length (s.2.map (Value.int .i64))
  own : ∀ k, v.ownBlock = some k → b ≤ k
  mt : Blk w' mb (s.1.map Value.bool) 4
  ge : b ≤ mb ∧ b ≤ go
theorem blk_ne {w : World} {b b' : Nat} {cs cs' : List Value} {e e' : TypeId} (h : Blk w b cs e) (h' : Blk w b' cs' e') (hne : e ≠ e') : b ≠ b' := fun hb => by
  subst hb
  have := h.symm.trans h'
  simp at this
  exact hne this.2
def WalkPost (b : Nat) (w0 w : World) (ab gm ga gw go mb : Nat) (v : Value) (s : List Bool × List Int) (e : Ending) (w' : World) : Prop :=
  e = .returned (.tuple #[]) ∧ ∃ v', WK b w0 w' ab gm ga gw go mb s v' ∧ Mods (fun k => k = mb ∨ k = go ∨ v.ownBlock = some k) w w' ∧ ∀ k, v'.ownBlock = some k → v.ownBlock = some k ∨ w.heap.size ≤ k
/-- the state of a node whose kids are gone through -/
structure WL (b : Nat) (w0 w wr : World) (ab gm ga gw go mb gk bn : Nat) (lv : Int) (ks : List Int) (v : Value) (s : List Bool × List Int) (v' : Value) : Prop where
  wk : WK b w0 wr ab gm ga gw go mb s v'
  mods : Mods (fun k => k = mb ∨ k = go ∨ v.ownBlock = some k) w wr
  own : ∀ k, v'.ownBlock = some k → v.ownBlock = some k ∨ w.heap.size ≤ k
  row : Row wr 3 1 (.slice (some ⟨gk, 0, none⟩) ks.length ks.length) ks.length (ks.map (Value.int .i64))
  nb : Blk wr bn [.int .i64 lv, .slice (some ⟨gk, 0, none⟩) ks.length ks.length] 55
  gks : w.heap.size ≤ gk ∧ v'.ownBlock ≠ some gk
section
variable {b : Nat} {w0 w w' : World} {ab gm ga gw go mb : Nat} {S : List Int} {M : Int} {N : List Nd} {z : List Nat} {s : List Bool × List Int} {v : Value}
theorem WK.far (h : WK b w0 w ab gm ga gw go mb s v) {fn : Nat} : WK b w0 (w.setCell ⟨mb, fn, none⟩ (.bool true)) ab gm ga gw go mb (s.1.set fn true, s.2) v := by
  have hmt := h.mt
  refine ⟨h.bl.setCell h.ge.1 _, ?_, h.pa.far (p := ⟨mb, fn, none⟩) (blk_ne h.pa hmt (by decide)) _, h.pw.far (p := ⟨mb, fn, none⟩) (blk_ne h.pw hmt (by decide)) _, h.po.far (p := ⟨mb, fn, none⟩) (blk_ne h.po hmt (by decide)) _, ?_, h.own, ?_, h.ge⟩
  · simp only [List.length_set]
    exact h.pm.far (p := ⟨mb, fn, none⟩) (blk_ne h.pm hmt (by decide)) _
  · exact h.row.move fun k hk => Below.heap_setCell _ _ _ _ (fun e => row_blk h.row hmt (by decide) (by rw [hk]; exact congrArg some e))
  · have := hmt.set fn (.bool true)
    rwa [← List.map_set] at this
theorem WK.new (h : WK b w0 w ab gm ga gw go mb s v) (hb : Below w.heap.size w w') (hs : b ≤ w.heap.size) : WK b w0 w' ab gm ga gw go mb s v :=
  ⟨h.bl.trans (hb.mono hs), h.pm.below hb h.pm.lt, h.pa.below hb h.pa.lt, h.pw.below hb h.pw.lt, h.po.below hb h.po.lt, h.row.move fun k hk => hb.block k (h.row.lt k hk), h.own, h.mt.below hb h.mt.lt, h.ge⟩
theorem walk_skip (h : WK b w0 w ab gm ga gw go mb s v) : WalkPost b w0 w ab gm ga gw go mb v s (.returned (.tuple #[])) w := ⟨rfl, v, h, Mods.refl _ _, fun k hk => .inl hk⟩
set_option maxRecDepth 100000 in
set_option maxHeartbeats 4000000 in
theorem walk_low (h : WK b w0 w ab gm ga gw go mb s v) {f : Int} (hf : f < 2) : Calls Try.prog 67 #[.int .i64 f, .pointer (some ⟨gm, 0, none⟩), .pointer (some ⟨ga, 0, none⟩), .pointer (some ⟨gw, 0, none⟩), .pointer (some ⟨go, 0, none⟩)] w (WalkPost b w0 w ab gm ga gw go mb v s) := by
  have HH := Hid.mk_ h
  have t1 : decide (f < 2) = true := decide_eq_true hf
  clear h
  go_enter Try.func67, Try.ntmps67
  go_wp2_with fail
  go_end0
  exact walk_skip HH.out
set_option maxRecDepth 100000 in
set_option maxHeartbeats 4000000 in
theorem walk_met (h : WK b w0 w ab gm ga gw go mb s v) {f : Nat} (hf : 2 ≤ f) (hm : s.1.getD f false = true) (hl : f < s.1.length) : Calls Try.prog 67 #[.int .i64 (f : Int), .pointer (some ⟨gm, 0, none⟩), .pointer (some ⟨ga, 0, none⟩), .pointer (some ⟨gw, 0, none⟩), .pointer (some ⟨go, 0, none⟩)] w (WalkPost b w0 w ab gm ga gw go mb v s) := by
  have HH := Hid.mk_ h
  have t0 : ¬ (f : Int) < 2 := by omega
  have t1 : decide ((f : Int) < 2) = false := decide_eq_false t0
  have c1 : w.cell? ⟨gm, 0, none⟩ = some (.slice (some ⟨mb, 0, none⟩) s.1.length s.1.length) := h.pm.cell 0
  have c2 : w.cell? ⟨mb, f, none⟩ = some (.bool true) := by rw [h.mt.cell f]; simp [List.getD, hl] at hm; simp [hl, hm]
  have l1 := h.pm.lt
  have l2 := h.mt.lt
  have hl1 : (f : Int) < s.1.length := by omega
  clear h
  go_enter Try.func67, Try.ntmps67
  go_wp2_with fail
  go_end0
  exact walk_skip HH.out
theorem WL.fits {ks : List Int} (hG : Good S M N) (hk : ∀ k ∈ ks, hasA N k = true) {n j : Nat} (h : Fits N 1 s) : Fits N 1 (walksN N n (ks.take j) s) :=
  walks_fits_ hG (fun k hk' => hk k (List.mem_of_mem_take hk')) h
set_option maxRecDepth 100000 in
set_option maxHeartbeats 8000000 in
theorem walk_any (hb : b = w0.heap.size) (hP : PAt w0 ab S M N z) : ∀ (n : Nat) (f : Int) (w : World) (s : List Bool × List Int) (v : Value), f.toNat ≤ n → hasA N f = true → Fits N 0 s → WK b w0 w ab gm ga gw go mb s v → b ≤ w.heap.size →
    Calls Try.prog 67 #[.int .i64 f, .pointer (some ⟨gm, 0, none⟩), .pointer (some ⟨ga, 0, none⟩), .pointer (some ⟨gw, 0, none⟩), .pointer (some ⟨go, 0, none⟩)] w (WalkPost b w0 w ab gm ga gw go mb v (walkN N n f s))
  | 0, f, w, s, v, hn, hf, hs, h, hbw => by
    rw [walkN_skip (.inl (by omega))]
    exact walk_low h (by omega)
  | n + 1, f, w, s, v, hn, hf, hs, h, hbw => by
    by_cases h1 : f < 2
    · rw [walkN_skip (.inl h1)]
      exact walk_low h h1
    · have hr := has_iff.1 hf
      obtain ⟨fn, rfl⟩ : ∃ fn : Nat, f = (fn : Int) := ⟨f.toNat, by omega⟩
      have hl : fn < s.1.length := by have := hs.len; omega
      cases h2 : s.1.getD fn false with
      | true =>
        rw [walkN_skip (.inr (by rw [Int.toNat_natCast]; exact h2))]
        exact walk_met h (by omega) h2 hl
      | false =>
        rw [walkN_do h1 (by rw [Int.toNat_natCast]; exact h2)]
        rcases leaf_or hP.good hf with e | ⟨lv, ks, ha⟩
        · omega
        · have hG := hP.good
          rw [ha.kse, Int.toNat_natCast]
          have hs1 := hs.set hf (by rw [Int.toNat_natCast]; exact h2)
          rw [Int.toNat_natCast] at hs1
          obtain ⟨s1, hs1e⟩ : ∃ s1, s1 = (s.1.set fn true, s.2) := ⟨_, rfl⟩
          rw [← hs1e] at hs1 ⊢
          have HIH := Hid.mk_ (walk_any hb hP n)
          have t0 : ¬ (fn : Int) < 2 := h1
          have t1 : decide ((fn : Int) < 2) = false := decide_eq_false h1
          have c1 : w.cell? ⟨gm, 0, none⟩ = some (.slice (some ⟨mb, 0, none⟩) s.1.length s.1.length) := h.pm.cell 0
          have c2 : w.cell? ⟨mb, fn, none⟩ = some (.bool false) := by rw [h.mt.cell fn]; simp [List.getD, hl] at h2; simp [hl, h2]
          have f2 := h.mt.free fn
          have l1 := h.pm.lt
          have l2 := h.mt.lt
          have hl1 : (fn : Int) < s.1.length := by omega
          have hkk : ∀ k ∈ ks, hasA N k = true ∧ k.toNat ≤ n := fun k hk => ⟨(ha.low k hk).1, by have := (ha.low k hk).2.1; have := has_iff.1 (ha.low k hk).1; omega⟩
          have hob : ks.length ≤ 256 := by
            have e1 := ha.len.1
            have e2 := ha.l0
            have e3 := hG.toSized.at_ lv.toNat (by omega)
            rw [← getD_mem] at e3
            omega
          have hfar := h.far (fn := fn)
          rw [← hs1e] at hfar
          have HH := Hid.mk_ h
          have HP := Hid.mk_ hP
          have HS1 := Hid.mk_ hs1
          have HKK := Hid.mk_ hkk
          have HAT := Hid.mk_ ha
          have HFAR := Hid.mk_ hfar
          have HSE := Hid.mk_ hs1e
          have HBB := Hid.mk_ hb
          have hsl : s1.1.length = s.1.length := by rw [hs1e]; simp
          have HSL := Hid.mk_ hsl
          clear h hs1 hkk ha hfar hs1e hP hf hs h2 hn hG hb hsl
          go_enter Try.func67, Try.ntmps67
          go_upto_region 2 with fail
          obtain ⟨w1, hw1⟩ : ∃ w1, w1 = w.setCell ⟨mb, fn, none⟩ (.bool true) := ⟨_, rfl⟩
          rw [← hw1]
          rw [← hw1] at HFAR
          have hmo1 : Mods (fun k => k = mb ∨ k = go ∨ v.ownBlock = some k) w w1 := by rw [hw1]; exact (Mods.refl _ w).setCell (fun _ => .inl rfl) _
          have hsz : w1.heap.size = w.heap.size := by rw [hw1]; simp [World.setCell]
          have hp1 := HP.out.new (HBB.out ▸ HFAR.out.bl)
          have HNO := Hid.mk_ (node_at hp1 HAT.out)
          have a1 : w1.cell? ⟨ga, 0, none⟩ = some (.pointer (some ⟨ab, 0, none⟩)) := HFAR.out.pa.cell 0
          have la := HFAR.out.pa.lt
          have HM1 := Hid.mk_ hmo1
          clear hw1 c1 c2 f2 l1 l2 hmo1 hp1
          go_upto_region 3 with (go_at_call 17; (with_reducible refine HNO.out.mono ?_); rintro e w3 ⟨y, rfl, ⟨gk, rfl, hgk, hrow⟩, hb3⟩; have HB3 := Hid.mk_ hb3; have HROW3 := Hid.mk_ hrow; clear hb3 hrow)
          obtain ⟨w5, hw5⟩ : ∃ w5, w5 = w3.alloc (.cells #[.int .i64 lv, .slice (some ⟨gk, 0, none⟩) ks.length ks.length] 55) := ⟨_, rfl⟩
          obtain ⟨bn, hbn⟩ : ∃ bn, bn = w3.heap.size := ⟨_, rfl⟩
          rw [← hw5, ← hbn]
          have hnb : Blk w5 bn [.int .i64 lv, .slice (some ⟨gk, 0, none⟩) ks.length ks.length] 55 := by rw [hw5, hbn]; exact Blk.new w3 _ 55
          have hb5 : Below w1.heap.size w1 w5 := by rw [hw5]; exact HB3.out.alloc HB3.out.size _
          have hr5 : Row w5 3 1 (.slice (some ⟨gk, 0, none⟩) ks.length ks.length) ks.length (ks.map (Value.int .i64)) := by rw [hw5]; exact HROW3.out.alloc _
          have hwl : WL b w0 w w5 ab gm ga gw go mb gk bn lv ks v (walksN N n (ks.take 0) s1) v :=
            ⟨HFAR.out.new hb5 (by omega), HM1.out.then_new hb5, fun k hk => .inl hk, hr5, hnb, by omega, fun e => by have := HFAR.out.row.lt gk e; omega⟩
          have n1 := hnb.cell 1
          have nl := hnb.lt
          have HWL := Hid.mk_ hwl
          clear hw5 hbn hnb hb5 hr5 hwl hgk a1 la
          go_wp2_with fail
          go_loopw [30] (fun x30 wr => ∃ (k : Nat) (v' : Value), k ≤ ks.length ∧ x30 = .int .i64 (k : Int) ∧ Hid (WL b w0 w wr ab gm ga gw go mb gk bn lv ks v (walksN N n (ks.take k) s1) v')) (fun x30 _ => ks.length - (intOf x30).toNat)
          case atStart => exact ⟨0, v, Nat.zero_le _, rfl, HWL⟩
          case round =>
            obtain ⟨k, v', hk, rfl, HL⟩ := hrel
            by_cases hlt : k < ks.length
            · have hlt1 : (k : Int) < ks.length := by omega
              have c0 := row3 HL.out.row k hlt
              have gl := HL.out.row.lt gk rfl
              have w0_ := HL.out.wk.pw.cell 0
              have wl := HL.out.wk.pw.lt
              obtain ⟨y, hy⟩ : ∃ y, y = ks[k]'hlt := ⟨_, rfl⟩
              have hky := HKK.out y (by rw [hy]; exact List.getElem_mem hlt)
              have hft := WL.fits (n := n) (j := k) HP.out.good (fun k hk => (HKK.out k hk).1) HS1.out
              have hca := HIH.out y wr (walksN N n (ks.take k) s1) v' hky.2 hky.1 (hft.mono (by omega)) HL.out.wk (Nat.le_trans hbw HL.out.mods.size)
              have hst : walkN N n y (walksN N n (ks.take k) s1) = walksN N n (ks.take (k + 1)) s1 := by rw [walksN_take hlt, hy]
              rw [hst] at hca
              rw [← hy] at c0
              have HCA := Hid.mk_ hca
              clear hca hst hft hky hy
              go_wp2_with (go_at_call 67; (with_reducible refine HCA.out.mono ?_); rintro e w7 ⟨rfl, v7, hk7, hm7, ho7⟩)
              refine ⟨⟨k + 1, v7, by omega, by go_num, ⟨hk7, ?_, fun q hq => ?_, ?_, ?_, HL.out.gks.1, ?_⟩⟩, by simp [intOf]; omega⟩
              · refine HL.out.mods.trans hm7 fun q hq hqq => ?_
                rcases hqq with e | e | e
                · exact .inl e
                · exact .inr (.inl e)
                · rcases HL.out.own q e with e2 | e2
                  · exact .inr (.inr e2)
                  · omega
              · rcases ho7 q hq with e | e
                · exact HL.out.own q e
                · exact .inr (by have := HL.out.mods.size; omega)
              · refine HL.out.row.move fun q hq => hm7.block q (HL.out.row.lt q hq) ?_
                have hq' : gk = q := Option.some.inj hq
                subst hq'
                rintro (e | e | e)
                · exact row_blk HL.out.row HL.out.wk.mt (by decide) (congrArg some e)
                · exact row_blk HL.out.row HL.out.wk.po (by decide) (congrArg some e)
                · exact HL.out.gks.2 e
              · refine HL.out.nb.move (hm7.block bn HL.out.nb.lt ?_)
                rintro (e | e | e)
                · exact blk_ne HL.out.nb HL.out.wk.mt (by decide) e
                · exact blk_ne HL.out.nb HL.out.wk.po (by decide) e
                · exact row_blk HL.out.wk.row HL.out.nb (by decide) e
              · intro e
                rcases ho7 gk e with e2 | e2
                · exact HL.out.gks.2 e2
                · have := HL.out.row.lt gk rfl; omega
            · have hke : k = ks.length := by omega
              subst hke
              rw [List.take_length] at HL
              have hlt1 : ¬ ((ks.length : Nat) : Int) < ks.length := by omega
              obtain ⟨Ao, co, hvs⟩ := HL.out.wk.row.shape
              have hft : Fits N 1 (walksN N n ks s1) := walks_fits_ HP.out.good (fun k hk => (HKK.out k hk).1) HS1.out
              obtain ⟨T, hT⟩ : ∃ T, T = walksN N n ks s1 := ⟨_, rfl⟩
              rw [← hT] at HL hft hvs ⊢
              subst hvs
              have HT := Hid.mk_ hT
              clear hT
              have g0 : wr.cell? ⟨go, 0, none⟩ = some (.slice Ao T.2.length co) := HL.out.wk.po.cell 0
              have g1 := HL.out.wk.po.free 0
              have gl := HL.out.wk.po.lt
              have hol := hft.cnt
              have hnn := HP.out.good.len2
              obtain ⟨i3, hi3, ha0, ha1, ha2⟩ := info_parts Try.info3
              go_wp2_with (at_builtin; refine wpList_append_row _ rfl (.tmp 38) (.tmp 40) 22 rfl 3 i3 (.int .i64 0) 1 8 Try.underlying22 hi3 ha0 ha1 ha2 rfl (by omega) (.slice Ao T.2.length co) T.2.length (T.2.map (Value.int .i64)) rfl (HL.out.wk.row.alloc _) ⟨wr.heap.size, 0, none⟩ 1 1 [.int .i64 (fn : Int)] rfl rfl (one_cells_at wr _ _ rfl) (by simp [Value.oneCell']) (by omega) (by unfold maxLen; omega) (by omega) (wr.heap.size + 1) (by simp) ?_; intro g' c' w' hrow hgrow hloc hlt'; have hpo8 := (HL.out.wk.po.alloc _).grown hgrow (fun e => row_blk HL.out.wk.row HL.out.wk.po (by decide) e.symm); have g08 := hpo8.cell 0; have g18 := hpo8.free 0; have gl8 := hpo8.lt)
              go_end0
              have hgne : ¬ g' = go := fun e => by
                rcases hloc with h | h
                · exact row_blk HL.out.wk.row HL.out.wk.po (by decide) (h.trans (congrArg some e))
                · omega
              have hno : some go ≠ (Value.slice Ao T.2.length co).ownBlock := fun e => row_blk HL.out.wk.row HL.out.wk.po (by decide) e.symm
              have hbg : ∀ q, (Value.slice Ao T.2.length co).ownBlock = some q → b ≤ q := HL.out.wk.own
              rw [← HT.out]
              refine ⟨rfl, .slice (some ⟨g', 0, none⟩) (T.2.length + 1) c', ⟨?_, ?_, ?_, ?_, ?_, ?_, ?_, ?_, HL.out.wk.ge⟩, ?_, ?_⟩
              · exact (((HL.out.wk.bl.alloc (by have := HL.out.mods.size; omega) _).grown hgrow (by have := HL.out.mods.size; simp; omega) hbg).setCell HL.out.wk.ge.2 _)
              · exact ((HL.out.wk.pm.alloc _).grown hgrow (fun e => row_blk HL.out.wk.row HL.out.wk.pm (by decide) e.symm)).far (p := ⟨go, 0, none⟩) (blk_ne HL.out.wk.pm HL.out.wk.po (by decide)) _
              · exact ((HL.out.wk.pa.alloc _).grown hgrow (fun e => row_blk HL.out.wk.row HL.out.wk.pa (by decide) e.symm)).far (p := ⟨go, 0, none⟩) (blk_ne HL.out.wk.pa HL.out.wk.po (by decide)) _
              · exact ((HL.out.wk.pw.alloc _).grown hgrow (fun e => row_blk HL.out.wk.row HL.out.wk.pw (by decide) e.symm)).far (p := ⟨go, 0, none⟩) (blk_ne HL.out.wk.pw HL.out.wk.po (by decide)) _
              · exact hpo8.set 0 _
              · have e : (T.2 ++ [(fn : Int)]).map (Value.int .i64) = T.2.map (Value.int .i64) ++ [.int .i64 (fn : Int)] := by simp
                rw [show ((T.1, T.2 ++ [(fn : Int)]) : List Bool × List Int).2 = T.2 ++ [(fn : Int)] from rfl, e, List.length_append]
                exact hrow.move fun q hq => Below.heap_setCell _ _ _ _ (fun e => hgne (by have e1 : g' = q := Option.some.inj hq; rw [e1]; exact e))
              · intro q hq
                have e1 : g' = q := Option.some.inj hq
                subst e1
                rcases hloc with h | h
                · exact hbg _ h
                · have := HL.out.mods.size; omega
              · exact ((HL.out.wk.mt.alloc _).grown hgrow (fun e => row_blk HL.out.wk.row HL.out.wk.mt (by decide) e.symm)).far (p := ⟨go, 0, none⟩) (blk_ne HL.out.wk.mt HL.out.wk.po (by decide)) _
              · refine (((HL.out.mods.alloc _).grown hgrow fun q hq hlt => ?_)).setCell (fun _ => .inr (.inl rfl)) _
                rcases HL.out.own q hq with e | e
                · exact .inr (.inr e)
                · omega
              · intro q hq
                have e1 : g' = q := Option.some.inj hq
                subst e1
                rcases hloc with h | h
                · exact HL.out.own _ h
                · exact .inr (by have := HL.out.mods.size; omega)
end
end Go.Proofs.Ytmfdcaalbpikpaa
namespace Go.Proofs.Ytmfdcaalbpikpaa
open Go.RowKit Go.Maps
set_option linter.unusedVariables false
set_option linter.unusedSimpArgs false
def NodesPost (w : World) (r : List Int × Int) (e : Ending) (w' : World) : Prop :=
  ∃ v, e = .returned (.tuple #[v, .int .i64 r.2]) ∧ Row w' 3 1 v r.1.length (r.1.map (Value.int .i64)) ∧ (∀ k, v.ownBlock = some k → w.heap.size ≤ k) ∧ Below w.heap.size w w'
theorem nodesR_bad {N : List Nd} {roots : List Int} {k : Nat} (h : k < roots.length) (hf : hasA N (roots[k]'h) = false) : nodesR N roots = ([], 1) := by
  unfold nodesR
  rw [if_neg (fun e => by have := List.all_eq_true.1 e _ (List.getElem_mem h); rw [hf] at this; cases this)]
theorem nodesR_ok {N : List Nd} {roots : List Int} (h : ∀ f ∈ roots, hasA N f = true) : nodesR N roots = ((walksN N (N.length + 2) roots (List.replicate (N.length + 2) false, [])).2, 0) := by
  unfold nodesR
  rw [if_pos (List.all_eq_true.2 h)]
theorem nil_post {w w' : World} (hb : Below w.heap.size w w') : NodesPost w ([], 1) (.returned (.tuple #[.slice none 0 0, .int .i64 1])) w' :=
  ⟨_, rfl, Row.nil _ _ _, fun k hk => by simp [Value.ownBlock] at hk, hb⟩
section
variable {w w' : World} {ab : Nat} {S : List Int} {M : Int} {N : List Nd} {z : List Nat} {A : Option Addr} {c : Nat} {roots : List Int}
set_option maxRecDepth 100000 in
set_option maxHeartbeats 8000000 in
theorem nodes_any (h : PAt w ab S M N z) (hr : IntsIn w A roots) : Calls Try.prog 53 #[.pointer (some ⟨ab, 0, none⟩), .slice A roots.length c] w (NodesPost w (nodesR N roots)) := by
  have HP := Hid.mk_ h
  have HR := Hid.mk_ hr
  have hrl := hr.1
  have hnn := h.good.len2
  obtain ⟨w1, hw1⟩ : ∃ w1, w1 = w.alloc (.cells #[.pointer (some ⟨ab, 0, none⟩)] 30) := ⟨_, rfl⟩
  obtain ⟨ga, hga⟩ : ∃ ga, ga = w.heap.size := ⟨_, rfl⟩
  have hb1 : Below w.heap.size w w1 := by rw [hw1]; exact (Below.refl _ _).alloc (Nat.le_refl _) _
  have hpa : Blk w1 ga [.pointer (some ⟨ab, 0, none⟩)] 30 := by rw [hw1, hga]; exact Blk.new w _ 30
  have hp1 := h.new hb1
  have HP1 := Hid.mk_ hp1
  have HR1 := Hid.mk_ (hr.new hb1)
  have HB1 := Hid.mk_ hb1
  have HPA := Hid.mk_ hpa
  have HGA := Hid.mk_ hga
  have a1 : w1.cell? ⟨ga, 0, none⟩ = some (.pointer (some ⟨ab, 0, none⟩)) := hpa.cell 0
  have la := hpa.lt
  obtain ⟨R, hRq⟩ : ∃ R, R = nodesR N roots := ⟨_, rfl⟩
  rw [← hRq]
  have HRR := Hid.mk_ hRq
  obtain ⟨i4, hi4, hb0, hb1', hb2⟩ := info_parts Try.info4
  have hi1 : i4.bytes = 1 := hb2
  clear h hr hb1 hpa hp1 hRq
  go_enter Try.func53, Try.ntmps53
  go_upto_region 1 with fail
  rw [← hw1, ← hga]
  clear hw1 hga
  go_wp2_with fail
  go_loopw [15] (fun x15 wr => ∃ k : Nat, k ≤ roots.length ∧ x15 = .int .i64 (k : Int) ∧ wr = w1 ∧ Hid (∀ i (hi : i < roots.length), i < k → hasA N (roots[i]'hi) = true)) (fun x15 _ => roots.length - (intOf x15).toNat)
  case atStart => exact ⟨0, Nat.zero_le _, rfl, rfl, fun i hi h0 => by omega⟩
  case round =>
    obtain ⟨k, hk, rfl, rfl, HT⟩ := hrel
    by_cases hlt : k < roots.length
    · have hlt1 : (k : Int) < roots.length := by omega
      obtain ⟨g, o, rfl, hg, hcs⟩ := HR1.out.2 (by omega)
      have c0 := hcs k hlt
      obtain ⟨x, hx⟩ : ∃ x, x = roots[k]'hlt := ⟨_, rfl⟩
      rw [← hx] at c0
      have HX := Hid.mk_ hx
      have HF := Hid.mk_ (has_at HP1.out x)
      clear hcs hx
      cases hf : hasA N x with
      | false =>
        have e : R = ([], 1) := by rw [HRR.out]; exact nodesR_bad hlt (by rw [← HX.out]; exact hf)
        rw [hf] at HF
        subst e
        clear hf
        go_wp2_with (go_at_call 46; (with_reducible refine HF.out.mono ?_); rintro e w' ⟨rfl, rfl⟩)
        go_ret2
        exact nil_post HB1.out
      | true =>
        rw [hf] at HF
        have HFF := Hid.mk_ hf
        clear hf
        go_wp2_with (go_at_call 46; (with_reducible refine HF.out.mono ?_); rintro e w' ⟨rfl, rfl⟩)
        refine ⟨⟨k + 1, by omega, by go_num, by first | trivial | rfl, Hid.mk_ fun i hi hik => ?_⟩, by simp [intOf]; omega⟩
        by_cases e : i = k
        · subst e; rw [← HX.out]; exact HFF.out
        · exact HT.out i hi (by omega)
    · have hall : ∀ f ∈ roots, hasA N f = true := fun f hf => by
        obtain ⟨i, hi, rfl⟩ := List.getElem_of_mem hf
        exact HT.out i hi (by omega)
      have hR := HRR.out.trans (nodesR_ok hall)
      have HALL := Hid.mk_ hall
      have hke : k = roots.length := by omega
      subst hke
      have hlt1 : ¬ ((roots.length : Nat) : Int) < roots.length := by omega
      have HW := Hid.mk_ hR
      clear HT hall hR
      go_upto_region 8 with fail
      obtain ⟨w2, hw2⟩ : ∃ w2, w2 = wr.alloc (.cells #[.slice none 0 0] 22) := ⟨_, rfl⟩
      obtain ⟨go, hgo⟩ : ∃ go, go = wr.heap.size := ⟨_, rfl⟩
      rw [← hw2, ← hgo]
      have hb2 : Below wr.heap.size wr w2 := by rw [hw2]; exact (Below.refl _ _).alloc (Nat.le_refl _) _
      have hpo2 : Blk w2 go [.slice none 0 0] 22 := by rw [hw2, hgo]; exact Blk.new wr _ 22
      have hpa2 : Blk w2 ga [.pointer (some ⟨ab, 0, none⟩)] 30 := by rw [hw2]; exact HPA.out.alloc _
      have hzf := 0
      have HLEN := Hid.mk_ (len_at (HP1.out.new hb2))
      have a2 := hpa2.cell 0
      have la2 := hpa2.lt
      have HB2 := Hid.mk_ hb2
      have HPO2 := Hid.mk_ hpo2
      have HPA2 := Hid.mk_ hpa2
      have HGO := Hid.mk_ hgo
      have HBY := Hid.mk_ hi1
      clear hw2 hgo hb2 hpo2 hpa2 a1 la hi1
      go_upto_region 9 with (first
        | (go_at_call 16; (with_reducible refine HLEN.out.mono ?_); rintro e w' ⟨rfl, rfl⟩)
        | (at_make; refine make_row' _ rfl (.tmp 26) (.tmp 26) 34 rfl 4 i4 (.bool false) Try.underlying34 hi4 hb0 hb1' rfl .i64 .i64 (N.length + 2) ((N.length : Int) + 2) (by omega) rfl rfl (by rw [HBY.out]; omega) (by omega) ?_))
      obtain ⟨w4, hw4⟩ : ∃ w4, w4 = (w2.alloc (.cells (Array.replicate (N.length + 2) (.bool false)) 4)).alloc (.cells #[.slice (some ⟨w2.heap.size, 0, none⟩) (N.length + 2) (N.length + 2)] 34) := ⟨_, rfl⟩
      obtain ⟨mb, hmb⟩ : ∃ mb, mb = w2.heap.size := ⟨_, rfl⟩
      obtain ⟨gm, hgm⟩ : ∃ gm, gm = w2.heap.size + 1 := ⟨_, rfl⟩
      rw [← hw4, ← hgm, ← hmb]
      rw [← hmb] at hw4
      have hmt4 : Blk w4 mb ((List.replicate (N.length + 2) false).map Value.bool) 4 := by
        rw [hw4, hmb, List.map_replicate]
        have e : Array.replicate (N.length + 2) (Value.bool false) = (List.replicate (N.length + 2) (Value.bool false)).toArray := by simp
        rw [e]
        exact (Blk.new w2 _ 4).alloc _
      have hpm4 : Blk w4 gm [.slice (some ⟨mb, 0, none⟩) (N.length + 2) (N.length + 2)] 34 := by
        have := Blk.new (w2.alloc (.cells (Array.replicate (N.length + 2) (.bool false)) 4)) [.slice (some ⟨mb, 0, none⟩) (N.length + 2) (N.length + 2)] 34
        rw [hw4, hgm, show w2.heap.size + 1 = (w2.alloc (.cells (Array.replicate (N.length + 2) (.bool false)) 4)).heap.size by simp]
        exact this
      have hb4 : Below w2.heap.size w2 w4 := by rw [hw4]; exact ((Below.refl _ _).alloc (Nat.le_refl _) _).alloc (by simp) _
      have hpo4 := HPO2.out.below hb4 HPO2.out.lt
      have hpa4 := HPA2.out.below hb4 HPA2.out.lt
      have HMT4 := Hid.mk_ hmt4
      have HPM4 := Hid.mk_ hpm4
      have HB4 := Hid.mk_ hb4
      have HPO4 := Hid.mk_ hpo4
      have HPA4 := Hid.mk_ hpa4
      have HMB := Hid.mk_ hmb
      have HGM := Hid.mk_ hgm
      clear hw4 hmb hgm hmt4 hpm4 hb4 hpo4 hpa4 a2 la2 hzf
      go_upto_region 10 with fail
      obtain ⟨w5, hw5⟩ : ∃ w5, w5 = w4.alloc (.cells #[.nilFunc] 106) := ⟨_, rfl⟩
      obtain ⟨gw, hgw⟩ : ∃ gw, gw = w4.heap.size := ⟨_, rfl⟩
      rw [← hw5, ← hgw]
      have hpw5 : Blk w5 gw [.nilFunc] 106 := by rw [hw5, hgw]; exact Blk.new w4 _ 106
      have hb5 : Below w4.heap.size w4 w5 := by rw [hw5]; exact (Below.refl _ _).alloc (Nat.le_refl _) _
      have g5 := hpw5.cell 0
      have f5 := hpw5.free 0
      have l5 := hpw5.lt
      have HB5 := Hid.mk_ hb5
      have HPW5 := Hid.mk_ hpw5
      have HGW := Hid.mk_ hgw
      clear hw5 hgw hb5 hpw5
      have hsf : ∀ (a : Addr) (fn : Fn) (x y : Array Value) (m : Mode) (W : World), (store a (.func fn x y) m).run Try.prog W = stored Try.prog W a (.func fn x y) m := fun a fn x y m W => run_store Try.prog W a _ m rfl
      go_upto_region 11 with fail
      clear hsf
      obtain ⟨w6, hw6⟩ : ∃ w6, w6 = w5.setCell ⟨gw, 0, none⟩ (.func (.func 67) #[] #[.pointer (some ⟨gm, 0, none⟩), .pointer (some ⟨ga, 0, none⟩), .pointer (some ⟨gw, 0, none⟩), .pointer (some ⟨go, 0, none⟩)]) := ⟨_, rfl⟩
      rw [← hw6]
      have hs1 := HB1.out.size
      have hs2 := HB2.out.size
      have hs4 := HB4.out.size
      have hs5 := HB5.out.size
      have e1 := HGO.out
      have e2 := HGW.out
      have e3 := HMB.out
      have hw0 : WK w.heap.size w w6 ab gm ga gw go mb (List.replicate (N.length + 2) false, []) (.slice none 0 0) := by
        have hbb : Below w.heap.size w w6 := by
          rw [hw6]
          exact (((HB1.out.trans (HB2.out.mono hs1)).trans (HB4.out.mono (by omega))).trans (HB5.out.mono (by omega))).setCell (by show w.heap.size ≤ gw; omega) _
        have q0 := HPW5.out
        have q1 := HPM4.out.below HB5.out HPM4.out.lt
        have q2 := HPA4.out.below HB5.out HPA4.out.lt
        have q3 := HPO4.out.below HB5.out HPO4.out.lt
        have q4 := HMT4.out.below HB5.out HMT4.out.lt
        refine ⟨hbb, ?_, ?_, ?_, ?_, Row.nil _ _ _, fun k hk => by simp [Value.ownBlock] at hk, ?_, by omega, by omega⟩
        · simp only [List.length_replicate]
          rw [hw6]
          exact q1.far (p := ⟨gw, 0, none⟩) (blk_ne q1 q0 (by decide)) _
        · rw [hw6]; exact q2.far (p := ⟨gw, 0, none⟩) (blk_ne q2 q0 (by decide)) _
        · rw [hw6]; exact q0.set 0 _
        · rw [hw6]; exact q3.far (p := ⟨gw, 0, none⟩) (blk_ne q3 q0 (by decide)) _
        · rw [hw6]; exact q4.far (p := ⟨gw, 0, none⟩) (blk_ne q4 q0 (by decide)) _
      have HW0 := Hid.mk_ hw0
      clear hw6 g5 f5 l5 hs1 hs2 hs4 hs5 e1 e2 e3 hw0 HPW5 HB5 HPM4 HPA4 HPO4 HMT4 HB4 HB2 HPO2 HPA2 HLEN hlt1
      go_wp2_with fail
      go_loopw [31] (fun x31 wr => ∃ (k : Nat) (v : Value), k ≤ roots.length ∧ x31 = .int .i64 (k : Int) ∧ Hid (WK w.heap.size w wr ab gm ga gw go mb (walksN N (N.length + 2) (roots.take k) (List.replicate (N.length + 2) false, [])) v)) (fun x31 _ => roots.length - (intOf x31).toNat)
      case atStart => exact ⟨0, .slice none 0 0, Nat.zero_le _, rfl, HW0⟩
      case round =>
        obtain ⟨k, v, hk, rfl, HL⟩ := hrel
        by_cases hlt : k < roots.length
        · have hlt1 : (k : Int) < roots.length := by omega
          obtain ⟨g, o, rfl, hg, hcs⟩ := (HR.out.move HL.out.bl.size (fun g o e hg => HL.out.bl.block g hg)).2 (by omega)
          have c0 := hcs k hlt
          obtain ⟨x, hx⟩ : ∃ x, x = roots[k]'hlt := ⟨_, rfl⟩
          rw [← hx] at c0
          have w0_ := HL.out.pw.cell 0
          have wl := HL.out.pw.lt
          have hfx := HALL.out x (by rw [hx]; exact List.getElem_mem hlt)
          have hrx := has_iff.1 hfx
          have hft : Fits N 0 (walksN N (N.length + 2) (roots.take k) (List.replicate (N.length + 2) false, [])) := walks_fits_ HP.out.good (fun k hk' => HALL.out k (List.mem_of_mem_take hk')) Fits.start
          have hca := walk_any rfl HP.out (N.length + 2) x wr (walksN N (N.length + 2) (roots.take k) (List.replicate (N.length + 2) false, [])) v (by omega) hfx hft HL.out HL.out.bl.size
          have hst : walkN N (N.length + 2) x (walksN N (N.length + 2) (roots.take k) (List.replicate (N.length + 2) false, [])) = walksN N (N.length + 2) (roots.take (k + 1)) (List.replicate (N.length + 2) false, []) := by rw [walksN_take hlt, hx]
          rw [hst] at hca
          have HCA := Hid.mk_ hca
          clear hca hst hft hx hcs hrx hfx
          go_wp2_with (go_at_call 67; (with_reducible refine HCA.out.mono ?_); rintro e w7 ⟨rfl, v7, hk7, hm7, ho7⟩)
          exact ⟨⟨k + 1, v7, by omega, by go_num, hk7⟩, by simp [intOf]; omega⟩
        · have hke : k = roots.length := by omega
          subst hke
          rw [List.take_length] at HL
          have hlt1 : ¬ ((roots.length : Nat) : Int) < roots.length := by omega
          have g0 := HL.out.po.cell 0
          have gl := HL.out.po.lt
          go_wp2_with fail
          refine bodyPost_ret (v := .tuple #[v, .int .i64 0]) (by simp [results, Try.results53, go_sem]) rfl ?_
          rw [HW.out]
          exact ⟨v, rfl, HL.out.row, HL.out.own, HL.out.bl⟩
end
end Go.Proofs.Ytmfdcaalbpikpaa
