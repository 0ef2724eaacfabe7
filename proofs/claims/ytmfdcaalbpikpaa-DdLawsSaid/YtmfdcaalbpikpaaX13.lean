/- DdLaws: its walk. -/
import Derived.Test.YtmfdcaalbpikpaaX12
import Derived.Test.YtmfdcaalbpikpaaD2
namespace Go.Proofs.Ytmfdcaalbpikpaa
open Go.RowKit Go.Maps
set_option linter.unusedVariables false
set_option linter.unusedSimpArgs false
/-- a script as it came in -/
structure OpsIn (w : World) (A : Option Addr) (ops : List OpD) : Prop where
  len : ops.length ≤ 9223372036854775807
  cell : 0 < ops.length → ∃ g o, A = some ⟨g, o, none⟩ ∧ g < w.heap.size ∧ ∀ j (hj : j < ops.length) r, r < 9 → w.cell? ⟨g, o + j * 9 + r, none⟩ = (ops[j]'hj).cells[r]?
  ok : ∀ op ∈ ops, OpDOk w op ∧ ∀ x ∈ op.cls, i64 x
def four (l : List Int) (i : Nat) : List Int := (l.take i).map fun x => 1 + pickI x 4
theorem four_succ {l : List Int} {i : Nat} (h : i < l.length) : four l (i + 1) = four l i ++ [1 + pickI (l[i]'h) 4] := by
  unfold four
  rw [List.take_succ_eq_append_getElem h, List.map_append]; rfl
theorem four_sz {l : List Int} {i : Nat} : ∀ s ∈ four l i, 1 ≤ s ∧ s ≤ 4 := fun s hs => by
  unfold four at hs
  obtain ⟨x, _, rfl⟩ := List.mem_map.1 hs
  have := pickI_range x 4 (by omega)
  omega
theorem four_length {l : List Int} {i : Nat} (h : i ≤ l.length) : (four l i).length = i := by unfold four; rw [List.length_map, List.length_take]; omega
theorem opR_ok {S : List Int} {M : Int} {N : List Nd} {o : OpD} (hG : Good S M N) (hf : hasA N o.f = true) (hg : hasA N o.g = true) (hl : 0 ≤ o.l ∧ o.l < S.length) (hc : 0 ≤ o.c ∧ o.c < S.getD o.l.toNat 0) (hi : (o.ins.length : Int) = S.getD o.l.toNat 0) : ∃ φ, Ok S M N (opR S M N o) φ := by
  unfold opR
  split
  · exact ⟨_, binA_ok hG hf (has01 (.inr rfl))⟩
  · split
    · exact ⟨_, binA_ok hG hf hg⟩
    · split
      · exact ⟨_, binA_ok hG hf hg⟩
      · split
        · exact ⟨_, binA_ok hG hf hg⟩
        · split
          · exact ⟨_, resA_ok hG hf hl hc⟩
          · exact ⟨_, setA_ok hG hl hi⟩
/-- the arenas of a law, all of it behind what came in -/
structure LW (w0 w : World) (wb ab xb : Nat) (S : List Int) (N N' : List Nd) (zp zr : List Nat) : Prop where
  ws : WS w wb ab xb (.slice none 0 0) S 8192 N N' zp zr
  new : ∀ k, wsz zp zr k ∨ k = wb → w0.heap.size ≤ k
  below : Below w0.heap.size w0 w
section
variable {w0 w w' : World} {wb ab xb : Nat} {S : List Int} {N N' N1 N1' : List Nd} {zp zr : List Nat}
theorem LW.on (h : LW w0 w wb ab xb S N N' zp zr) (hb : Below w.heap.size w w') : LW w0 w' wb ab xb S N N' zp zr := ⟨h.ws.new hb, h.new, h.below.trans (hb.mono h.below.size)⟩
theorem LW.step (h : LW w0 w wb ab xb S N N' zp zr) (hg : WGrew w w' wb ab xb (.slice none 0 0) S 8192 N1 N1' zp zr) : ∃ zp' zr', LW w0 w' wb ab xb S N1 N1' zp' zr' := by
  obtain ⟨zp', zr', h1, h2, h3⟩ := hg
  refine ⟨zp', zr', h1, fun k hk => ?_, h.below.trans (h2.below h.below.size (fun k _ hk => h.new k (.inl hk)))⟩
  rcases hk with e | e
  · rcases h3 k e with e2 | e2
    · exact h.new k (.inl e2)
    · have := h.below.size; omega
  · exact h.new k (.inr e)
theorem PS.wgrew {M : Int} {lv : Value} {zp0 : List Nat} {N0 : List Nd} (h : PS w w' wb ab xb lv S M N0 N N' zp0 zp zr) (hd : ∀ k ∈ zr, k < w.heap.size) : WGrew w w' wb ab xb lv S M N N' zp0 zr :=
  ⟨zp, zr, h.ws, h.mods, fun k hk => by
    rcases hk with e | e
    · rcases h.zs k e with e2 | e2
      · exact .inl (.inl e2)
      · exact .inr e2
    · exact .inl (.inr e)⟩
theorem WGrew.ofR {M : Int} {lv : Value} (h : WS w wb ab xb lv S M N N' zp zr) (hg : RGrew w w' xb S M N1 zr) : WGrew w w' wb ab xb lv S M N N1 zp zr := by
  obtain ⟨zr', h1, h2, h3⟩ := h.opR hg
  exact ⟨zp, zr', h1, h2, fun k hk => by
    rcases hk with e | e
    · exact .inl (.inl e)
    · rcases h3 k e with e2 | e2
      · exact .inl (.inr e2)
      · exact .inr e2⟩
end
section
variable {w w' w0 : World} {A1 A2 : Option Addr} {S0 : List Int} {ops : List OpD} {c1 c2 : Nat} {level : Int}
set_option maxRecDepth 100000 in
set_option maxHeartbeats 16000000 in
theorem ddlaws_any (h1 : IntsIn w A1 S0) (hi64 : ∀ x ∈ S0, i64 x) (h2 : OpsIn w A2 ops) (h3 : i64 level) : Calls Try.prog 4 #[.slice A1 S0.length c1, .slice A2 ops.length c2, .int .i64 level] w fun e w' => e = .returned (.bool true) ∧ Below w.heap.size w w' := by
  have HI := Hid.mk_ h1
  have H64 := Hid.mk_ hi64
  have HO := Hid.mk_ h2
  have HLV := Hid.mk_ h3
  have hl1 := h1.1
  have hl2 := h2.len
  have HKN := Hid.mk_ (known_any w)
  obtain ⟨i3, hi3, ha0, ha1, ha2⟩ := info_parts Try.info3
  clear h1 hi64 h2 h3
  go_enter Try.func4, Try.ntmps4
  go_upto_region 2 with (go_at_call 6; (with_reducible refine HKN.out.mono ?_); rintro e w1 ⟨rfl, hb⟩; have HB1 := Hid.mk_ hb; clear hb)
  go_wp2_with fail
  go_loopw [8, 9] (fun x8 x9 wr => ∃ (i : Nat) (A : Option Addr) (c : Nat), i ≤ S0.length ∧ i ≤ 12 ∧ x9 = .int .i64 (i : Int) ∧ x8 = .slice A i c ∧ Hid (Row wr 3 1 (.slice A i c) i ((four S0 i).map (Value.int .i64))) ∧ Hid (∀ q, (Value.slice A i c).ownBlock = some q → w.heap.size ≤ q) ∧ Hid (Below w.heap.size w wr)) (fun _ x9 _ => 12 - (intOf x9).toNat)
  case atStart => exact ⟨0, none, 0, Nat.zero_le _, by omega, rfl, rfl, Row.nil _ _ _, fun q hq => by simp [Value.ownBlock] at hq, HB1⟩
  case round =>
    obtain ⟨i, A, c, hi, hi12, rfl, rfl, HR, HQ, HB⟩ := hrel
    by_cases hlt : i < S0.length ∧ i < 12
    · obtain ⟨hlt1, hlt4⟩ := hlt
      have hlt1i : (i : Int) < S0.length := by omega
      have hlt4i : (i : Int) < 12 := by omega
      obtain ⟨g, o, rfl, hg, hcs⟩ := (HI.out.new HB.out).2 (by omega)
      have c0 := hcs i hlt1
      have h64 := H64.out _ (List.getElem_mem hlt1)
      have hf := four_succ (l := S0) (i := i) hlt1
      obtain ⟨x, hx⟩ : ∃ x, x = S0[i]'hlt1 := ⟨_, rfl⟩
      rw [← hx] at c0 h64 hf
      have HPK := Hid.mk_ (pick_any x 4 (by omega) h64.1 h64.2)
      have hr := pickI_range x 4 (by omega)
      obtain ⟨n, hn⟩ : ∃ n, n = pickI x 4 := ⟨_, rfl⟩
      rw [← hn] at HPK hr hf
      have HF := Hid.mk_ hf
      clear hcs hx hn hf
      go_wp2_with (first
        | (go_at_call 7; (with_reducible refine (HPK.out _).mono ?_); rintro e w' ⟨rfl, rfl⟩)
        | (at_builtin; refine wpList_append_row _ rfl _ _ 22 rfl 3 i3 (.int .i64 0) 1 8 Try.underlying22 hi3 ha0 ha1 ha2 rfl (by decide) (.slice A i c) i ((four S0 i).map (Value.int .i64)) rfl (HR.out.alloc _) ⟨wr.heap.size, 0, none⟩ 1 1 [.int .i64 (1 + n)] rfl rfl (one_cells_at wr _ _ rfl) (by simp [Value.oneCell']) (by decide) (by unfold maxLen; omega) (by omega) (wr.heap.size + 1) (by simp) ?_; intro g' cap' w3 hrow hgrow hloc hlt'; have HROW := Hid.mk_ hrow; have HGR := Hid.mk_ hgrow; have HLC := Hid.mk_ hloc; clear hrow hgrow hloc))
      refine ⟨⟨i + 1, some ⟨g', 0, none⟩, cap', by omega, by omega, by go_num, rfl, Hid.mk_ ?_, Hid.mk_ ?_, Hid.mk_ ?_⟩, by simp [intOf]; omega⟩
      · rw [HF.out, List.map_append]; exact HROW.out
      · intro q hq
        cases hq
        rcases HLC.out with e | e
        · exact HQ.out g' e
        · have := HB.out.size; show w.heap.size ≤ g'; omega
      · exact Below.grown (HB.out.alloc HB.out.size _) HGR.out (by simp; have := HB.out.size; omega) (fun q e => HQ.out q e)
    · by_cases hi0 : i = 0
      · subst hi0
        have hl0 : S0.length = 0 := by omega
        have hlt1 : ¬ ((0 : Nat) : Int) < S0.length := by omega
        have hlt2 : ¬ (0 : Int) < S0.length := by omega
        have HL0 := Hid.mk_ hl0
        clear hl0
        go_wp2_with fail
        go_ret
        exact ⟨rfl, HB.out⟩
      · obtain ⟨S, hS⟩ : ∃ S, S = four S0 i := ⟨_, rfl⟩
        have hSl : S.length = i := by rw [hS]; exact four_length hi
        have hSz : Sized S 8192 := ⟨by omega, by omega, fun s hs => by rw [hS] at hs; have := four_sz s hs; omega, by omega, by omega⟩
        rw [← hS] at HR
        have hints : IntsIn wr A S := by
          obtain ⟨A', c', e9, hh⟩ := ints_row (show Row wr 3 1 (.slice A i c) S.length (S.map (Value.int .i64)) by rw [hSl]; exact HR.out)
          cases e9
          exact hh
        have hnew := new_ok (c := c) hints hSz
        rw [hSl] at hnew
        have HNW := Hid.mk_ hnew
        have HINT := Hid.mk_ hints
        have HSL := Hid.mk_ hSl
        have HSZ := Hid.mk_ hSz
        have hin : ¬ (i : Int) = 0 := by omega
        have hin1 : ((i : Int) == 0) = false := by simp; omega
        have hin2 : ¬ i = 0 := hi0
        have hstop : ¬ (i : Int) < S0.length ∨ ¬ (i : Int) < 12 := by omega
        clear hS hSl hSz hints hnew hi0
        have hstop2 : ¬ (i < S0.length ∧ i < 12) := hlt
        have hgo : (decide ((i : Int) < S0.length) && decide ((i : Int) < 12)) = false := by
          rcases hstop with e | e
          · rw [decide_eq_false e]; rfl
          · rw [decide_eq_false e]; simp
        by_cases hq : (i : Int) < S0.length
        all_goals (
          first
            | (have hq2 : ¬ (i : Int) < 12 := by omega
               clear hstop hstop2 hgo hlt
               go_upto_region 9 with fail)
            | (clear hstop hstop2 hgo hlt
               go_upto_region 9 with fail)
          clear hq
          (try clear hq2)
          go_upto_region 10 with (go_at_call 8; (with_reducible refine HNW.out.mono ?_); rintro e w5 ⟨ab, zp, rfl, hpa, hz, hb5⟩; have HPA := Hid.mk_ hpa; have HZ := Hid.mk_ hz; have HB5 := Hid.mk_ hb5; clear hpa hz hb5)
          have hrn := rnew_any (c := c) (M := 8192) (HINT.out.new HB5.out)
          rw [HSL.out] at hrn
          have HRN := Hid.mk_ hrn
          clear hrn
          go_upto_region 11 with (go_at_call 11; (with_reducible refine HRN.out.mono ?_); rintro e w6 hpost; obtain ⟨hok, _, hb6⟩ := hpost; obtain ⟨xb, zr, rfl, hra, hzr⟩ := hok HSZ.out; have HRA := Hid.mk_ hra; have HZR := Hid.mk_ hzr; have HB6 := Hid.mk_ hb6; clear hok hra hzr hb6)
          go_upto_region 14 with fail
          obtain ⟨w7, hw7⟩ : ∃ W, W = w6.alloc (.cells #[.pointer (some ⟨ab, 0, none⟩), .pointer (some ⟨xb, 0, none⟩), .slice none 0 0] 47) := ⟨_, rfl⟩
          obtain ⟨wb, hwb⟩ : ∃ b, b = w6.heap.size := ⟨_, rfl⟩
          rw [← hw7, ← hwb]
          have hb7 : Below w6.heap.size w6 w7 := by rw [hw7]; exact (Below.refl _ _).alloc (Nat.le_refl _) _
          have hk7 : Blk w7 wb [.pointer (some ⟨ab, 0, none⟩), .pointer (some ⟨xb, 0, none⟩), .slice none 0 0] 47 := by rw [hw7, hwb]; exact Blk.new w6 _ 47
          have t1 := HB.out.size
          have t2 := HB5.out.size
          have t3 := HB6.out.size
          have hlw : LW w w7 wb ab xb S [] [] zp zr := by
            refine ⟨⟨hk7, (HPA.out.new HB6.out).new hb7, HRA.out.new hb7, fun k hk hkr => ?_, fun hk => ?_, fun hk => ?_⟩, fun k hk => ?_, ((HB.out.trans (HB5.out.mono t1)).trans (HB6.out.mono (by omega))).trans (hb7.mono (by omega))⟩
            · have := HPA.out.zlt hk; have := HZR.out k hkr; omega
            · have := HPA.out.zlt hk; omega
            · have := HRA.out.zlt hk; omega
            · rcases hk with (e | e) | e
              · have := HZ.out k e; omega
              · have := HZR.out k e; omega
              · omega
          have HLW := Hid.mk_ hlw
          clear hw7 hwb hb7 hk7 t1 t2 t3 hlw
          go_wp2_with fail
          go_loopw [15] (fun x15 wr => ∃ (j : Nat) (N : List Nd) (zp1 zr1 : List Nat), j ≤ ops.length ∧ x15 = .int .i64 (j : Int) ∧ Hid (LW w wr wb ab xb S N N zp1 zr1)) (fun x15 _ => ops.length - (intOf x15).toNat)
          case atStart => exact ⟨0, [], zp, zr, Nat.zero_le _, rfl, HLW⟩
          case round =>
            obtain ⟨j, N, zp1, zr1, hj, rfl, HL⟩ := hrel
            by_cases hjl : j < ops.length
            · have hjl1 : (j : Int) < ops.length := by omega
              obtain ⟨g, o, rfl, hg, hcs⟩ := HO.out.cell (by omega)
              obtain ⟨op, hop⟩ : ∃ op, op = ops[j]'hjl := ⟨_, rfl⟩
              have hok := HO.out.ok op (by rw [hop]; exact List.getElem_mem hjl)
              have hc : ∀ r, r < 9 → wr.cell? ⟨g, o + j * 9 + r, none⟩ = op.cells[r]? := fun r hr => (HL.out.below.cell (p := ⟨g, o + j * 9 + r, none⟩) hg).trans (by rw [hop]; exact hcs j hjl r hr)
              have hnr := near_any (o := op) HL.out.ws (hok.1.new HL.out.below) hok.2
              have hgl : g < wr.heap.size := Nat.lt_of_lt_of_le hg HL.out.below.size
              clear hcs hop hok
              obtain ⟨near, wh, f0, g0, h0, l0, c0, A0, cA0, ins0, B0, cB0, cls0⟩ := op
              have d0 : wr.cell? ⟨g, o + j * 9, none⟩ = some (.bool near) := hc 0 (by omega)
              have d1 := hc 1 (by omega)
              have d2 := hc 2 (by omega)
              have d3 := hc 3 (by omega)
              have d4 := hc 4 (by omega)
              have d5 := hc 5 (by omega)
              have d6 := hc 6 (by omega)
              have d7 := hc 7 (by omega)
              have d8 := hc 8 (by omega)
              simp only [OpD.cells] at d1 d2 d3 d4 d5 d6 d7 d8
              unfold OpD.agg at hnr
              have HNR := Hid.mk_ hnr
              clear hc hnr
              go_upto_region 18 with (go_at_call 12; (with_reducible refine HNR.out.mono ?_); rintro e w1 ⟨⟨near', wh', f', g', h', l', c', A', cA', ins', B', cB', cls'⟩, rfl, hwh, hok', hg', hmore, hil', hfar', hb1⟩; simp only [OpD.agg])
              obtain ⟨w2, hw2⟩ : ∃ W, W = w1.alloc (.cells #[.bool near', .int .i64 wh', .int .i64 f', .int .i64 g', .int .i64 h', .int .i64 l', .int .i64 c', .slice A' ins'.length cA', .slice B' cls'.length cB'] 37) := ⟨_, rfl⟩
              obtain ⟨bo, hbo⟩ : ∃ b, b = w1.heap.size := ⟨_, rfl⟩
              rw [← hw2, ← hbo]
              have hb2 : Below w1.heap.size w1 w2 := by rw [hw2]; exact (Below.refl _ _).alloc (Nat.le_refl _) _
              have hk2 : Blk w2 bo [.bool near', .int .i64 wh', .int .i64 f', .int .i64 g', .int .i64 h', .int .i64 l', .int .i64 c', .slice A' ins'.length cA', .slice B' cls'.length cB'] 37 := by rw [hw2, hbo]; exact Blk.new w1 _ 37
              have hs1 := hb1.size
              have hbw : Below wr.heap.size wr w2 := hb1.trans (hb2.mono hs1)
              have HL2 := Hid.mk_ (HL.out.on hbw)
              have hbz : ¬ wsz zp1 zr1 bo := fun hk => by have := HL.out.ws.lt (.inl hk); omega
              have HBZ := Hid.mk_ hbz
              have HK2 := Hid.mk_ hk2
              have hmk : Calls Try.prog 13 #[.pointer (some ⟨wb, 0, none⟩), .agg #[.bool near', .int .i64 wh', .int .i64 f', .int .i64 g', .int .i64 h', .int .i64 l', .int .i64 c', .slice A' ins'.length cA', .slice B' cls'.length cB']] w2 (MakesPost w2 wb ab xb (.slice none 0 0) S 8192 zp1 zr1 (opR S 8192 N ⟨near', wh', f', g', h', l', c', A', cA', ins', B', cB', cls'⟩)) := by
                by_cases hw : 2 ≤ wh' ∧ wh' ≤ 6
                · exact makes_ops (o := ⟨near', wh', f', g', h', l', c', A', cA', ins', B', cB', cls'⟩) HL2.out.ws hw
                · exact makes_set (o := ⟨near', wh', f', g', h', l', c', A', cA', ins', B', cB', cls'⟩) HL2.out.ws hw ((hok'.new hb2).ins) (by have : ins'.length ≤ 256 := hil'; show ins'.length ≤ _; omega) (fun g p e h0 hk => by have := hfar' g p e h0; have := HL.out.ws.lt (.inl hk); omega)
              obtain ⟨φ, hOk⟩ := opR_ok (M := 8192) HL.out.ws.pa.good hmore.1 hg' hmore.2.1 hmore.2.2.1 hmore.2.2.2
              obtain ⟨R, hR⟩ : ∃ R, R = opR S 8192 N ⟨near', wh', f', g', h', l', c', A', cA', ins', B', cB', cls'⟩ := ⟨_, rfl⟩
              rw [← hR] at hmk hOk
              have hgN : hasA N g' = true := hg'
              have HMK := Hid.mk_ hmk
              have HOK := Hid.mk_ hOk
              have HGN := Hid.mk_ hgN
              have k1 := hk2.cell 1
              have k0 := hk2.cell 0
              have k2 := hk2.cell 2
              have k3 := hk2.cell 3
              have k4 := hk2.cell 4
              have k5 := hk2.cell 5
              have k6 := hk2.cell 6
              have k7 := hk2.cell 7
              have k8 := hk2.cell 8
              have kl := hk2.lt
              clear hw2 hbo hb2 hk2 hbz hmk hOk hR hg' hgN hmore hok' hfar' hb1 hwh d0 d1 d2 d3 d4 d5 d6 d7 d8 hgl hs1 hg
              by_cases h7 : 7 ≤ wh'
              · go_wp2_with fail
                exact ⟨⟨j + 1, N, zp1, zr1, by omega, by go_num, HL2⟩, by simp [intOf]; omega⟩
              · obtain ⟨N1, p1, q1⟩ := R
                have herr : q1 = 0 ∨ q1 = 2 := HOK.out.err
                go_upto_region 20 with (go_at_call 13; (with_reducible refine HMK.out.mono ?_); rintro e w3 ⟨rfl, hgr⟩; have HGR := Hid.mk_ hgr; clear hgr)
                obtain ⟨zp2, zr2, hws3, hmo3, hzz3⟩ := HGR.out
                have hk3 := HK2.out.mods hmo3 HBZ.out
                have hzz : ¬ wsz zp2 zr2 bo := fun hk => by
                  rcases hzz3 bo hk with e | e
                  · exact HBZ.out e
                  · have := HK2.out.lt; omega
                have HZZ := Hid.mk_ hzz
                have HK3 := Hid.mk_ hk3
                have HL3 : Hid (LW w w3 wb ab xb S N1 N1 zp2 zr2) := by
                  have hb := HL2.out.below
                  refine ⟨hws3, fun k hk => ?_, hb.trans (hmo3.below hb.size (fun k _ hk => HL2.out.new k (.inl hk)))⟩
                  rcases hk with e | e
                  · rcases hzz3 k e with e2 | e2
                    · exact HL2.out.new k (.inl e2)
                    · have := hb.size; omega
                  · exact HL2.out.new k (.inr e)
                clear hws3 hmo3 hzz3 hk3 hzz HMK HGR k0 k1 k2 k3 k4 k5 k6 k7 k8 kl
                rcases herr with rfl | rfl
                · have hpk := pickI_range level (i : Int) (by omega)
                  obtain ⟨ln, hln⟩ : ∃ ln : Nat, pickI level (i : Int) = (ln : Int) := ⟨(pickI level (i : Int)).toNat, by omega⟩
                  have HPK := Hid.mk_ (fun W => pick_any level (i : Int) (by omega) HLV.out.1 HLV.out.2 W)
                  rw [hln] at HPK hpk
                  have hlS : ln < S.length := by rw [HSL.out]; omega
                  have hbd : Below w3.heap.size w3 w3.drew := Below.drew (Below.refl _ w3)
                  have hlaw := laws_any (HL3.out.on hbd).ws HOK.out.has (has_pre HOK.out.pre HGN.out) hlS
                  have HLA := Hid.mk_ hlaw
                  have k3 := HK3.out.cell 3
                  have kl := HK3.out.lt
                  have k3d : w3.drew.cell? ⟨bo, 3, none⟩ = some (.int .i64 g') := k3
                  clear hln hlaw
                  go_upto_region 24 with fail
                  go_region_held3 (fun w' => w'.cell? ⟨bo, 3, none⟩ = some (.int .i64 g')) (first | exact k3d | assumption)
                    (first
                      | (go_at_call 7; (with_reducible refine (HPK.out _).mono ?_); rintro e w' ⟨rfl, rfl⟩)
                      | (go_at_call 14; (with_reducible refine HLA.out.mono ?_); rintro e w4 ⟨rfl, N2, zp3, hps⟩; have HPS := Hid.mk_ hps; have hS : w4.cell? ⟨bo, 3, none⟩ = some (.int .i64 g') := (HK3.out.drew.mods hps.mods HZZ.out).cell 3; clear hps))
                  all_goals (
                    have hl4 := (HL3.out.on hbd).step (HPS.out.wgrew (fun k hk => (HL3.out.on hbd).ws.lt (.inl (.inr hk))))
                    have HL4 : Hid (LW w w4 wb ab xb S N2 N1 zp3 zr2) := by
                      have hb := (HL3.out.on hbd).below
                      refine ⟨HPS.out.ws, fun k hk => ?_, hb.trans (HPS.out.mods.below hb.size (fun k _ hk => HL3.out.new k (.inl hk)))⟩
                      rcases hk with (e | e) | e
                      · rcases HPS.out.zs k e with e2 | e2
                        · exact HL3.out.new k (.inl (.inl e2))
                        · have := hb.size; omega
                      · exact HL3.out.new k (.inl (.inr e))
                      · exact HL3.out.new k (.inr e)
                    clear hl4 k3 kl k3d hS hbd
                    have hbk := rback_at HL4.out.ws.ra 0
                    have eb : backA N1 0 = ([], 0) := by
                      unfold backA
                      rw [if_pos ⟨by omega, by omega⟩]
                      simp
                    rw [eb] at hbk
                    have HBK := Hid.mk_ hbk
                    have HG2 := Hid.mk_ HL4.out.ws.pa.good
                    have hN2 := HL4.out.ws.pa.good.len2
                    clear hbk eb
                    go_upto_region 28 with (go_at_call 15; (with_reducible refine HBK.out.mono ?_); rintro e w5 ⟨rfl, hgr⟩; have hl5 := HL4.out.step (WGrew.ofR HL4.out.ws hgr); obtain ⟨zp4, zr4, hl5⟩ := hl5; have HL5 := Hid.mk_ hl5; clear hl5 hgr)
                    go_wp2_with fail
                    go_loopw [22] (fun x22 wr => ∃ (k : Nat) (zp5 zr5 : List Nat), k ≤ N2.length ∧ x22 = .int .i64 ((k : Int) + 2) ∧ Hid (LW w wr wb ab xb S N2 (N2.take k) zp5 zr5)) (fun x22 _ => N2.length + 2 - (intOf x22).toNat)
                    case atStart => exact ⟨0, zp4, zr4, Nat.zero_le _, rfl, HL5⟩
                    case round =>
                      obtain ⟨k, zp5, zr5, hk, rfl, HL6⟩ := hrel
                      have HLEN := Hid.mk_ (len_at HL6.out.ws.pa)
                      by_cases hkl : k < N2.length
                      · have hkl1 : (k : Int) < N2.length := by omega
                        have hkl2 : (k : Int) + 2 < (N2.length : Int) + 2 := by omega
                        have hsp := HG2.out.spot (f := (k : Int) + 2) (has_iff.2 (by omega)) (by
                          unfold lvl
                          rw [dif_pos ⟨by omega, by omega⟩]
                          have := HG2.out.lt ((k : Int) + 2 - 2).toNat (by omega)
                          omega)
                        obtain ⟨l, ks, hat⟩ := hsp
                        have hl0 := hat.l0
                        obtain ⟨li, rfl⟩ : ∃ li : Nat, l = (li : Int) := ⟨l.toNat, by omega⟩
                        have hliS : li < S.length := by omega
                        have hnd : (⟨(li : Int), ks⟩ : Nd) = N2[k]'hkl := by
                          have e := hat.nd
                          have : ((k : Int) + 2 - 2).toNat = k := by omega
                          rw [e]
                          simp only [this]
                        have hmx := make_next HG2.out hkl
                        rw [← hnd] at hmx
                        have hks : (ks.length : Int) = S[li]'hliS := by
                          have e1 := hat.len.1
                          have e3 := HSZ.out.at_ li hliS
                          rw [Int.toNat_natCast, getD_mem hliS] at e1
                          omega
                        have hks256 : ks.length ≤ 256 := by have e3 := HSZ.out.at_ li hliS; omega
                        have HNO := Hid.mk_ (node_at HL6.out.ws.pa hat)
                        have HMX := Hid.mk_ hmx
                        have HKS := Hid.mk_ hks
                        clear hat hnd hmx hks
                        go_upto_region 32 with (first
                          | (go_at_call 16; (with_reducible refine HLEN.out.mono ?_); rintro e w' ⟨rfl, rfl⟩)
                          | (go_at_call 17; (with_reducible refine HNO.out.mono ?_); rintro e w8 ⟨v, rfl, ⟨gk, rfl, hgk, hrow⟩, hb8⟩; have HB8 := Hid.mk_ hb8; have HROW8 := Hid.mk_ hrow; clear hb8 hrow))
                        obtain ⟨w9, hw9⟩ : ∃ W, W = w8.alloc (.cells #[.int .i64 (li : Int), .slice (some ⟨gk, 0, none⟩) ks.length ks.length] 55) := ⟨_, rfl⟩
                        obtain ⟨bn, hbn⟩ : ∃ b, b = w8.heap.size := ⟨_, rfl⟩
                        rw [← hw9, ← hbn]
                        have hb9 : Below wr.heap.size wr w9 := by rw [hw9]; exact HB8.out.alloc HB8.out.size _
                        have hnb : Blk w9 bn [.int .i64 (li : Int), .slice (some ⟨gk, 0, none⟩) ks.length ks.length] 55 := by rw [hw9, hbn]; exact Blk.new w8 _ 55
                        have hr9 : Row w9 3 1 (.slice (some ⟨gk, 0, none⟩) ks.length ks.length) ks.length (ks.map (Value.int .i64)) := by rw [hw9]; exact HROW8.out.alloc _
                        have HL9 := Hid.mk_ (HL6.out.on hb9)
                        have hin9 : IntsIn w9 (some ⟨gk, 0, none⟩) ks := by
                          obtain ⟨A', c', e9, hh⟩ := ints_row hr9
                          cases e9
                          exact hh
                        have hmk := rmake_at (c := ks.length) HL9.out.ws.ra hliS HKS.out hin9
                        unfold RMakePost at hmk
                        rw [HMX.out] at hmk
                        have HMK := Hid.mk_ hmk
                        have n0 := hnb.cell 0
                        have n1 := hnb.cell 1
                        have nl := hnb.lt
                        clear hw9 hbn hb9 hnb hr9 hin9 hmk hgk
                        go_wp2_with (go_at_call 18; (with_reducible refine HMK.out.mono ?_); rintro e w10 ⟨rfl, hgr⟩; have hl10 := HL9.out.step (WGrew.ofR HL9.out.ws hgr); obtain ⟨zp7, zr7, hl10⟩ := hl10; have HL10 := Hid.mk_ hl10; clear hl10 hgr)
                        exact ⟨⟨k + 1, zp7, zr7, by omega, by go_num, HL10⟩, by simp [intOf]; omega⟩
                      · have hke : k = N2.length := by omega
                        subst hke
                        have hkl2 : ¬ ((N2.length : Nat) : Int) + 2 < (N2.length : Int) + 2 := by omega
                        have hl7 := HL6.out
                        rw [List.take_length] at hl7
                        have HL7 := Hid.mk_ hl7
                        clear hl7
                        go_wp2_with (go_at_call 16; (with_reducible refine HLEN.out.mono ?_); rintro e w' ⟨rfl, rfl⟩)
                        exact ⟨⟨j + 1, N2, zp5, zr5, by omega, by go_num, HL7⟩, by simp [intOf]; omega⟩)
                · go_wp2_with fail
                  go_ret
                  exact ⟨rfl, HL3.out.below⟩
            · have hjl1 : ¬ (j : Int) < ops.length := by omega
              go_wp2_with fail
              go_ret
              exact ⟨rfl, HL.out.below⟩)
end
end Go.Proofs.Ytmfdcaalbpikpaa
