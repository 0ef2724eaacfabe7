/- laws. -/
import Derived.Test.YtmfdcaalbpikpaaX10
namespace Go.Proofs.Ytmfdcaalbpikpaa
open Go.RowKit Go.Maps
set_option linter.unusedVariables false
set_option linter.unusedSimpArgs false
section
variable {w wr w' : World} {wb ab xb : Nat} {lv : Value} {S : List Int} {M : Int} {N0 N N' N1 N2 : List Nd} {zp0 zp zp2 zr : List Nat} {f g op : Int} {R : Out}
theorem PS.trans (h : PS w wr wb ab xb lv S M N0 N N' zp0 zp zr) (h2 : PS wr w' wb ab xb lv S M N N2 N' zp zp2 zr) : PS w w' wb ab xb lv S M N0 N2 N' zp0 zp2 zr := by
  have hs := h.mods.size
  refine ⟨h2.ws, h.pre.trans h2.pre, h.mods.trans h2.mods (fun k hk hkz => ?_), fun k hk => ?_⟩
  · rcases hkz with e | e
    · rcases h.zs k e with e2 | e2
      · exact .inl e2
      · omega
    · exact .inr e
  · rcases h2.zs k hk with e | e
    · exact h.zs k e
    · exact .inr (by omega)
theorem binA_pre (hG : Good S M N) : N <+: (binA op S M N f g).1 := by
  by_cases h : hasA N f = true ∧ hasA N g = true
  · exact (binA_ok hG h.1 h.2).pre
  · unfold binA; rw [if_neg h]; exact List.prefix_refl _
theorem setA_pre (hG : Good S M N) {l : Int} {ins : List Bool} : N <+: (setA S M N l ins).1 := by
  by_cases h : (0 ≤ l ∧ l < S.length) ∧ (ins.length : Int) = S.getD l.toNat 0
  · exact (setA_ok hG h.1 h.2).pre
  · unfold setA; rw [if_neg h]; exact List.prefix_refl _
theorem resA_pre (hG : Good S M N) {l c : Int} : N <+: (resA S M l c N f).1 := by
  by_cases h : hasA N f = true ∧ (0 ≤ l ∧ l < S.length) ∧ 0 ≤ c ∧ c < S.getD l.toNat 0
  · exact (resA_ok hG h.1 h.2.1 h.2.2).pre
  · unfold resA; rw [if_neg h]; exact List.prefix_refl _
set_option maxRecDepth 100000 in
set_option maxHeartbeats 16000000 in
theorem laws_any {ln : Nat} (h : WS w wb ab xb lv S M N N' zp zr) (hf : hasA N f = true) (hg : hasA N g = true) (hl : ln < S.length) :
    Calls Try.prog 14 #[.pointer (some ⟨wb, 0, none⟩), .int .i64 f, .int .i64 g, .int .i64 (ln : Int)] w (PSEnd w wb ab xb lv S M N N' zp zr) := by
  have HS0 := Hid.mk_ (PS.refl h)
  have HF := Hid.mk_ hf
  have HG := Hid.mk_ hg
  have HGO := Hid.mk_ h.pa.good
  have hS2 := h.pa.good.s2
  obtain ⟨⟨N1, r1, e1⟩, h1⟩ : ∃ R, R = binA 2 S M N f 1 := ⟨_, rfl⟩
  obtain ⟨⟨N2, r2, e2⟩, h2⟩ : ∃ R, R = binA 2 S M N1 r1 1 := ⟨_, rfl⟩
  obtain ⟨⟨N3, r3, e3⟩, h3⟩ : ∃ R, R = binA 0 S M N2 f g := ⟨_, rfl⟩
  obtain ⟨⟨N4, r4, e4⟩, h4⟩ : ∃ R, R = binA 0 S M N3 g f := ⟨_, rfl⟩
  obtain ⟨⟨N5, r5, e5⟩, h5⟩ : ∃ R, R = binA 1 S M N4 f g := ⟨_, rfl⟩
  obtain ⟨⟨N6, r6, e6⟩, h6⟩ : ∃ R, R = binA 1 S M N5 g f := ⟨_, rfl⟩
  obtain ⟨⟨N7, r7, e7⟩, h7⟩ : ∃ R, R = binA 2 S M N6 g 1 := ⟨_, rfl⟩
  obtain ⟨⟨N8, r8, e8⟩, h8⟩ : ∃ R, R = binA 0 S M N7 r1 r7 := ⟨_, rfl⟩
  obtain ⟨⟨N9, r9, e9⟩, h9⟩ : ∃ R, R = binA 2 S M N8 r8 1 := ⟨_, rfl⟩
  obtain ⟨⟨N10, r10, e10⟩, h10⟩ : ∃ R, R = binA 0 S M N9 f r1 := ⟨_, rfl⟩
  have HT : Hid (Ten S M N f g (N1, r1, e1) (N2, r2, e2) (N3, r3, e3) (N4, r4, e4) (N5, r5, e5) (N6, r6, e6) (N7, r7, e7) (N8, r8, e8) (N9, r9, e9) (N10, r10, e10)) := ten h.pa.good hf hg h1 h2 h3 h4 h5 h6 h7 h8 h9 h10
  obtain ⟨sz, hsz⟩ : ∃ sz : Nat, S[ln]'hl = (sz : Int) := ⟨(S[ln]'hl).toNat, by have := h.pa.good.toSized.at_ ln hl; omega⟩
  have hsz2 : sz ≤ 256 := by have := h.pa.good.toSized.at_ ln hl; omega
  have hl1 : (ln : Int) < S.length := by omega
  have HSZ := Hid.mk_ hsz
  have y0 := h.blk.cell 0
  have yl := h.blk.lt
  have E1 := Hid.mk_ h1
  have E2 := Hid.mk_ h2
  have E3 := Hid.mk_ h3
  have E4 := Hid.mk_ h4
  have E5 := Hid.mk_ h5
  have E6 := Hid.mk_ h6
  have E7 := Hid.mk_ h7
  have E8 := Hid.mk_ h8
  have E9 := Hid.mk_ h9
  have E10 := Hid.mk_ h10
  clear h hf hg h1 h2 h3 h4 h5 h6 h7 h8 h9 h10 hsz
  go_enter Try.func14, Try.ntmps14
  go_upto_region 2 with fail
  clear y0 yl
  have C1 : Hid (Calls _ _ _ _ (PSPost w wb ab xb lv S M N N' zp zr (N1, r1, e1))) := (not_any (f := f) HS0.out.ws.pa).mono fun e w' hq => HS0.out.post (R := (N1, r1, e1)) (by rw [E1.out]; exact binA_pre HS0.out.good) (by rw [E1.out]; exact hq)
  go_upto_region 3 with (go_at_call 25; (with_reducible refine C1.out.mono ?_); rintro e w1 ⟨rfl, z1, hps⟩; have HS1 : Hid (PS w w1 wb ab xb lv S M N N1 N' zp z1 zr) := hps; clear hps C1)
  have C2 : Hid (Calls _ _ _ _ (PSPost w wb ab xb lv S M N N' zp zr (N2, r2, e2))) := (not_any (f := r1) HS1.out.ws.pa).mono fun e w' hq => HS1.out.post (R := (N2, r2, e2)) (by rw [E2.out]; exact binA_pre HS1.out.good) (by rw [E2.out]; exact hq)
  go_upto_region 4 with (go_at_call 25; (with_reducible refine C2.out.mono ?_); rintro e w2 ⟨rfl, z2, hps⟩; have HS2 : Hid (PS w w2 wb ab xb lv S M N N2 N' zp z2 zr) := hps; clear hps C2)
  clear HS1
  have C3 : Hid (Calls _ _ _ _ (PSPost w wb ab xb lv S M N N' zp zr (N3, r3, e3))) := (and_any (f := f) (g := g) HS2.out.ws.pa).mono fun e w' hq => HS2.out.post (R := (N3, r3, e3)) (by rw [E3.out]; exact binA_pre HS2.out.good) (by rw [E3.out]; exact hq)
  go_upto_region 5 with (go_at_call 24; (with_reducible refine C3.out.mono ?_); rintro e w3 ⟨rfl, z3, hps⟩; have HS3 : Hid (PS w w3 wb ab xb lv S M N N3 N' zp z3 zr) := hps; clear hps C3)
  clear HS2
  have C4 : Hid (Calls _ _ _ _ (PSPost w wb ab xb lv S M N N' zp zr (N4, r4, e4))) := (and_any (f := g) (g := f) HS3.out.ws.pa).mono fun e w' hq => HS3.out.post (R := (N4, r4, e4)) (by rw [E4.out]; exact binA_pre HS3.out.good) (by rw [E4.out]; exact hq)
  go_upto_region 6 with (go_at_call 24; (with_reducible refine C4.out.mono ?_); rintro e w4 ⟨rfl, z4, hps⟩; have HS4 : Hid (PS w w4 wb ab xb lv S M N N4 N' zp z4 zr) := hps; clear hps C4)
  clear HS3
  have C5 : Hid (Calls _ _ _ _ (PSPost w wb ab xb lv S M N N' zp zr (N5, r5, e5))) := (or_any (f := f) (g := g) HS4.out.ws.pa).mono fun e w' hq => HS4.out.post (R := (N5, r5, e5)) (by rw [E5.out]; exact binA_pre HS4.out.good) (by rw [E5.out]; exact hq)
  go_upto_region 7 with (go_at_call 35; (with_reducible refine C5.out.mono ?_); rintro e w5 ⟨rfl, z5, hps⟩; have HS5 : Hid (PS w w5 wb ab xb lv S M N N5 N' zp z5 zr) := hps; clear hps C5)
  clear HS4
  have C6 : Hid (Calls _ _ _ _ (PSPost w wb ab xb lv S M N N' zp zr (N6, r6, e6))) := (or_any (f := g) (g := f) HS5.out.ws.pa).mono fun e w' hq => HS5.out.post (R := (N6, r6, e6)) (by rw [E6.out]; exact binA_pre HS5.out.good) (by rw [E6.out]; exact hq)
  go_upto_region 8 with (go_at_call 35; (with_reducible refine C6.out.mono ?_); rintro e w6 ⟨rfl, z6, hps⟩; have HS6 : Hid (PS w w6 wb ab xb lv S M N N6 N' zp z6 zr) := hps; clear hps C6)
  clear HS5
  have C7 : Hid (Calls _ _ _ _ (PSPost w wb ab xb lv S M N N' zp zr (N7, r7, e7))) := (not_any (f := g) HS6.out.ws.pa).mono fun e w' hq => HS6.out.post (R := (N7, r7, e7)) (by rw [E7.out]; exact binA_pre HS6.out.good) (by rw [E7.out]; exact hq)
  go_upto_region 9 with (go_at_call 25; (with_reducible refine C7.out.mono ?_); rintro e w7 ⟨rfl, z7, hps⟩; have HS7 : Hid (PS w w7 wb ab xb lv S M N N7 N' zp z7 zr) := hps; clear hps C7)
  clear HS6
  have C8 : Hid (Calls _ _ _ _ (PSPost w wb ab xb lv S M N N' zp zr (N8, r8, e8))) := (and_any (f := r1) (g := r7) HS7.out.ws.pa).mono fun e w' hq => HS7.out.post (R := (N8, r8, e8)) (by rw [E8.out]; exact binA_pre HS7.out.good) (by rw [E8.out]; exact hq)
  go_upto_region 10 with (go_at_call 24; (with_reducible refine C8.out.mono ?_); rintro e w8 ⟨rfl, z8, hps⟩; have HS8 : Hid (PS w w8 wb ab xb lv S M N N8 N' zp z8 zr) := hps; clear hps C8)
  clear HS7
  have C9 : Hid (Calls _ _ _ _ (PSPost w wb ab xb lv S M N N' zp zr (N9, r9, e9))) := (not_any (f := r8) HS8.out.ws.pa).mono fun e w' hq => HS8.out.post (R := (N9, r9, e9)) (by rw [E9.out]; exact binA_pre HS8.out.good) (by rw [E9.out]; exact hq)
  go_upto_region 11 with (go_at_call 25; (with_reducible refine C9.out.mono ?_); rintro e w9 ⟨rfl, z9, hps⟩; have HS9 : Hid (PS w w9 wb ab xb lv S M N N9 N' zp z9 zr) := hps; clear hps C9)
  clear HS8
  have C10 : Hid (Calls _ _ _ _ (PSPost w wb ab xb lv S M N N' zp zr (N10, r10, e10))) := (and_any (f := f) (g := r1) HS9.out.ws.pa).mono fun e w' hq => HS9.out.post (R := (N10, r10, e10)) (by rw [E10.out]; exact binA_pre HS9.out.good) (by rw [E10.out]; exact hq)
  go_upto_region 12 with (go_at_call 24; (with_reducible refine C10.out.mono ?_); rintro e w10 ⟨rfl, z10, hps⟩; have HS10 : Hid (PS w w10 wb ab xb lv S M N N10 N' zp z10 zr) := hps; clear hps C10)
  clear HS9
  obtain ⟨wt, hwt⟩ : ∃ wt, wt = w10.alloc (.cells #[.int .i64 e1, .int .i64 e2, .int .i64 e3, .int .i64 e4, .int .i64 e5, .int .i64 e6, .int .i64 e7, .int .i64 e8, .int .i64 e9, .int .i64 e10] 31) := ⟨_, rfl⟩
  obtain ⟨gt, hgt⟩ : ∃ gt, gt = w10.heap.size := ⟨_, rfl⟩
  have hbt : Below w10.heap.size w10 wt := by rw [hwt]; exact (Below.refl _ _).alloc (Nat.le_refl _) _
  have hkt : Blk wt gt ([e1, e2, e3, e4, e5, e6, e7, e8, e9, e10].map (Value.int .i64)) 31 := by rw [hwt, hgt]; exact Blk.new w10 _ 31
  obtain ⟨es, hes⟩ : ∃ es, es = [e1, e2, e3, e4, e5, e6, e7, e8, e9, e10] := ⟨_, rfl⟩
  rw [← hes] at hkt
  have hel : es.length = 10 := by rw [hes]; rfl
  have he02 : ∀ e ∈ es, e = 0 ∨ e = 2 := by rw [hes]; exact HT.out.errs
  have hroom : Calls Try.prog 43 #[.slice (some ⟨gt, 0, none⟩) 10 10] wt fun e w' => e = .returned (.bool true) ∧ wt = w' := by
    have := room_any (c := 10) (ints_blk hkt (by omega)) he02
    rw [hel] at this
    exact this
  have HRO := Hid.mk_ hroom
  have HKT := Hid.mk_ hkt
  have HEL := Hid.mk_ hel
  have HE02 := Hid.mk_ he02
  have HES := Hid.mk_ hes
  have HSt := Hid.mk_ (HS10.out.new hbt)
  go_upto_region 13 with fail
  rw [← hwt, ← hgt]
  clear hwt hgt hbt hkt hel he02 hroom hes HS10
  go_wp2_with fail
  go_loopw [31] (fun x31 wr => ∃ (k : Nat), k ≤ 10 ∧ x31 = .int .i64 (k : Int) ∧ wr = wt ∧ Hid (∀ j (hj : j < es.length), j < k → es[j]'hj = 0)) (fun x31 _ => 10 - (intOf x31).toNat)
  case atStart => exact ⟨0, by omega, rfl, rfl, Hid.mk_ fun j _ h => by omega⟩
  case round =>
    obtain ⟨k, hk, rfl, rfl, HK⟩ := hrel
    by_cases hlt : k < 10
    · have hlt1 : (k : Int) < 10 := by omega
      have hke : k < es.length := by rw [HEL.out]; exact hlt
      have c0 := HKT.out.cell k
      rw [List.getElem?_map, List.getElem?_eq_getElem hke] at c0
      obtain ⟨e, hee⟩ : ∃ e, e = es[k]'hke := ⟨_, rfl⟩
      rw [← hee] at c0
      have c0' : wr.cell? ⟨gt, k, none⟩ = some (.int .i64 e) := c0
      have hgl := HKT.out.lt
      have h02 := HE02.out e (by rw [hee]; exact List.getElem_mem hke)
      have HEE := Hid.mk_ hee
      clear c0 hee
      rcases h02 with rfl | rfl
      · go_wp2_with fail
        refine ⟨⟨k + 1, by omega, by go_num, by first | trivial | rfl, Hid.mk_ fun j hj hjk => ?_⟩, by simp [intOf]; omega⟩
        by_cases e : j = k
        · subst e; exact HEE.out.symm
        · exact HK.out j hj (by omega)
      · go_wp2_with (go_at_call 43; (with_reducible refine HRO.out.mono ?_); rintro e w' ⟨rfl, rfl⟩)
        go_ret
        exact ⟨rfl, _, _, HSt.out⟩
    · have hke : k = 10 := by omega
      subst hke
      have hlt1 : ¬ ((10 : Nat) : Int) < 10 := by omega
      have hall : ∀ e ∈ es, e = 0 := fun e he => by
        obtain ⟨j, hj, rfl⟩ := List.getElem_of_mem he
        exact HK.out j hj (by rw [HEL.out] at hj; exact hj)
      rw [HES.out] at hall
      obtain ⟨q2, q3, q5, q9, q10⟩ := HT.out.laws hall
      have q2 : f = r2 := q2.symm
      have q3 : r3 = r4 := q3
      have q5 : r5 = r6 := q5
      have q9 : r5 = r9 := q9.symm
      have q10 : 0 = r10 := q10.symm
      have qe5 : e5 = 0 := hall e5 (by simp)
      have HAG : Hid (∀ K, N10 <+: K → Good S M K → binA 1 S M K g f = (K, r5, 0)) := HT.out.again qe5
      have HGO10 := Hid.mk_ HSt.out.good
      have HPRE := Hid.mk_ HSt.out.pre
      have HPA := Hid.mk_ (Part.first (f := f) HSt.out.good hl)
      clear hall
      subst q10
      subst q9
      subst q3
      subst q5
      subst q2
      go_upto_region 20 with fail
      clear E1 E2 E3 E4 E5 E6 E7 E8 E9 E10 HT HES HRO HKT HEL HE02 HK hk hlt hlt1
      obtain ⟨i4, hi4, ha0, ha1, ha2⟩ := info_parts Try.info4
      have hi8 : i4.bytes = 1 := ha2
      go_wp2_with fail
      go_loopw [32, 33] (fun x32 x33 wx => ∃ (k : Nat) (Nk : List Nd) (ak : Int) (zk : List Nat), k ≤ sz ∧ x32 = .int .i64 ak ∧ x33 = .int .i64 (k : Int) ∧ Hid (PS w wx wb ab xb lv S M N Nk N' zp zk zr) ∧ Hid (Part S M N10 f ln k Nk ak)) (fun _ x33 _ => sz - (intOf x33).toNat)
      case atStart => exact ⟨0, N10, 0, z10, Nat.zero_le _, rfl, rfl, HSt, HPA⟩
      case round =>
        obtain ⟨k, Nk, ak, zk, hk, rfl, rfl, HSk, HPk⟩ := hrel
        have HSI := Hid.mk_ (sizes_at HSk.out.ws.pa)
        go_upto_if 171 with (go_at_call 44; (with_reducible refine HSI.out.mono ?_); rintro e w1 ⟨v, rfl, ⟨gs, rfl, hgs, hrow⟩, hb1⟩; have hcl := row3 hrow ln hl; rw [HSZ.out] at hcl; have hgs2 := hrow.lt gs rfl)
        have HS1 := Hid.mk_ (HSk.out.new hb1)
        clear HSk HSI hgs hrow hb1 hcl hgs2
        by_cases hlt : k < sz
        · have hlt1 : (k : Int) < sz := by omega
          have HSI2 := Hid.mk_ (sizes_at HS1.out.ws.pa)
          go_upto_region 25 with (first
            | (go_at_call 44; (with_reducible refine HSI2.out.mono ?_); rintro e w2 ⟨v, rfl, ⟨gs2, rfl, hgs, hrow⟩, hb2⟩; have hcl := row3 hrow ln hl; rw [HSZ.out] at hcl; have hgs2 := hrow.lt gs2 rfl)
            | (at_make; refine make_row' _ rfl (.tmp 178) (.tmp 178) 34 rfl 4 i4 (.bool false) Try.underlying34 hi4 ha0 ha1 rfl .i64 .i64 sz (sz : Int) rfl rfl rfl (by rw [hi8]; omega) (by omega) ?_))
          obtain ⟨w3, hw3⟩ : ∃ w3, w3 = w2.alloc (.cells (Array.replicate sz (.bool false)) 4) := ⟨_, rfl⟩
          obtain ⟨gi, hgi⟩ : ∃ gi, gi = w2.heap.size := ⟨_, rfl⟩
          rw [← hw3, ← hgi]
          rw [show Array.replicate sz (Value.bool false) = (List.replicate sz (Value.bool false)).toArray by simp] at hw3
          have hb3 : Below w1.heap.size w1 w3 := by rw [hw3]; exact hb2.alloc hb2.size _
          have hk3 : Blk w3 gi (List.replicate sz (.bool false)) 4 := by rw [hw3, hgi]; exact Blk.new w2 _ 4
          have hgi1 : w1.heap.size ≤ gi := by rw [hgi]; exact hb2.size
          have c3 : w3.cell? ⟨gi, k, none⟩ = some (.bool false) := by rw [hk3.cell k]; simp [hlt]
          have f3 := hk3.free k
          have l3 := hk3.lt
          clear hw3 hgi hb2 hgs hrow hcl hgs2 HSI2
          go_upto_region 26 with fail
          obtain ⟨w4, hw4⟩ : ∃ w4, w4 = w3.setCell ⟨gi, k, none⟩ (.bool true) := ⟨_, rfl⟩
          rw [← hw4]
          have hk4 : Blk w4 gi ((unitL sz k).map Value.bool) 4 := by
            have := hk3.set k (.bool true)
            rw [← hw4] at this
            unfold unitL
            rw [List.map_set, List.map_replicate]
            exact this
          have hb4 : Below w1.heap.size w1 w4 := by rw [hw4]; exact hb3.setCell hgi1 _
          have HS4 := Hid.mk_ (HS1.out.new hb4)
          obtain ⟨⟨NB, rB, eB⟩, hB⟩ : ∃ R, R = setA S M Nk ln (unitL sz k) := ⟨_, rfl⟩
          obtain ⟨⟨ND, rD, eD⟩, hD⟩ : ∃ R, R = resA S M ln k NB f := ⟨_, rfl⟩
          obtain ⟨⟨NP, rP, eP⟩, hP⟩ : ∃ R, R = binA 0 S M ND rB rD := ⟨_, rfl⟩
          obtain ⟨⟨NO, rO, eO⟩, hO⟩ : ∃ R, R = binA 1 S M NP ak rP := ⟨_, rfl⟩
          have hst : PartStep S M N10 f ln k Nk (NB, rB, eB) (ND, rD, eD) (NP, rP, eP) (NO, rO, eO) :=
            HPk.out.step HGO10.out (has_pre HPRE.out HF.out) hl (by rw [HSZ.out]; exact hlt1) (by rw [HSZ.out, Int.toNat_natCast]; exact hB) hD hP hO
          have h02B : eB = 0 ∨ eB = 2 := hst.errs eB (by simp)
          have h02D : eD = 0 ∨ eD = 2 := hst.errs eD (by simp)
          have h02P : eP = 0 ∨ eP = 2 := hst.errs eP (by simp)
          have h02O : eO = 0 ∨ eO = 2 := hst.errs eO (by simp)
          have HOK : Hid (eB = 0 → eD = 0 → eP = 0 → eO = 0 → Part S M N10 f ln (k + 1) NO rO) := hst.ok
          have hset := set_any (lv := (ln : Int)) (c := sz) HS4.out.ws.pa (bools_blk hk4 (by rw [unitL_length]; omega))
          rw [unitL_length] at hset
          have CB : Hid (Calls _ _ _ _ (PSPost w wb ab xb lv S M N N' zp zr (NB, rB, eB))) := hset.mono fun e w' hq => HS4.out.post (R := (NB, rB, eB)) (by rw [hB]; exact setA_pre HS4.out.good) (by rw [hB]; exact hq)
          have EB := Hid.mk_ hB
          have ED := Hid.mk_ hD
          have EP := Hid.mk_ hP
          have EO := Hid.mk_ hO
          clear hw4 hk4 hb4 hb3 hk3 hgi1 c3 f3 l3 hB hD hP hO hst hset
          go_upto_region 27 with (go_at_call 23; (with_reducible refine CB.out.mono ?_); rintro e w5 ⟨rfl, z5, hps⟩; have HS5 : Hid (PS w w5 wb ab xb lv S M N NB N' zp z5 zr) := hps; clear hps CB)
          have CD : Hid (Calls _ _ _ _ (PSPost w wb ab xb lv S M N N' zp zr (ND, rD, eD))) := (restrict_any (f := f) (lv := (ln : Int)) (cl := (k : Int)) HS5.out.ws.pa).mono fun e w' hq => HS5.out.post (R := (ND, rD, eD)) (by rw [ED.out]; exact resA_pre HS5.out.good) (by rw [ED.out]; exact hq)
          go_upto_region 28 with (go_at_call 26; (with_reducible refine CD.out.mono ?_); rintro e w6 ⟨rfl, z6, hps⟩; have HS6 : Hid (PS w w6 wb ab xb lv S M N ND N' zp z6 zr) := hps; clear hps CD)
          have CP : Hid (Calls _ _ _ _ (PSPost w wb ab xb lv S M N N' zp zr (NP, rP, eP))) := (and_any (f := rB) (g := rD) HS6.out.ws.pa).mono fun e w' hq => HS6.out.post (R := (NP, rP, eP)) (by rw [EP.out]; exact binA_pre HS6.out.good) (by rw [EP.out]; exact hq)
          go_upto_region 29 with (go_at_call 24; (with_reducible refine CP.out.mono ?_); rintro e w7 ⟨rfl, z7, hps⟩; have HS7 : Hid (PS w w7 wb ab xb lv S M N NP N' zp z7 zr) := hps; clear hps CP)
          have CO : Hid (Calls _ _ _ _ (PSPost w wb ab xb lv S M N N' zp zr (NO, rO, eO))) := (or_any (f := ak) (g := rP) HS7.out.ws.pa).mono fun e w' hq => HS7.out.post (R := (NO, rO, eO)) (by rw [EO.out]; exact binA_pre HS7.out.good) (by rw [EO.out]; exact hq)
          go_upto_region 30 with (go_at_call 35; (with_reducible refine CO.out.mono ?_); rintro e w8 ⟨rfl, z8, hps⟩; have HS8 : Hid (PS w w8 wb ab xb lv S M N NO N' zp z8 zr) := hps; clear hps CO)
          clear HS1 HS4 HS5 HS6 HS7 EB ED EP EO
          have HRO : Hid (∀ (W : World) (a b c d : Int), (a = 0 ∨ a = 2) → (b = 0 ∨ b = 2) → (c = 0 ∨ c = 2) → (d = 0 ∨ d = 2) → Calls Try.prog 43 #[.slice (some ⟨W.heap.size, 0, none⟩) 4 4] (W.alloc (.cells #[.int .i64 a, .int .i64 b, .int .i64 c, .int .i64 d] 31)) fun e w' => e = .returned (.bool true) ∧ W.alloc (.cells #[.int .i64 a, .int .i64 b, .int .i64 c, .int .i64 d] 31) = w') := fun W a b c d ha hb hc hd =>
            room_any (c := 4) (es := [a, b, c, d]) (ints_blk (Blk.new W [.int .i64 a, .int .i64 b, .int .i64 c, .int .i64 d] 31) (by simp)) (fun e he => by
              simp only [List.mem_cons, List.not_mem_nil, or_false] at he
              rcases he with rfl | rfl | rfl | rfl
              · exact ha
              · exact hb
              · exact hc
              · exact hd)
          by_cases hall : eB = 0 ∧ eD = 0 ∧ eP = 0 ∧ eO = 0
          · obtain ⟨qB, qD, qP, qO⟩ := hall
            have HPn := Hid.mk_ (HOK.out qB qD qP qO)
            subst qB qD qP qO
            go_wp2_with fail
            exact ⟨⟨k + 1, NO, rO, z8, by omega, rfl, by go_num, HS8, HPn⟩, by simp [intOf]; omega⟩
          · have hx := And.intro h02B (And.intro h02D (And.intro h02P h02O))
            have HX := Hid.mk_ hx
            clear hx
            by_cases qB : eB = 0
            · by_cases qD : eD = 0
              · by_cases qP : eP = 0
                · have qO : eO = 2 := by rcases h02O with e | e; exact absurd ⟨qB, qD, qP, e⟩ hall; exact e
                  clear hall h02B h02D h02P h02O HOK
                  subst qB qD qP qO
                  go_wp2_with (go_at_call 43; (with_reducible refine (HRO.out _ _ _ _ _ HX.out.1 HX.out.2.1 HX.out.2.2.1 HX.out.2.2.2).mono ?_); rintro e w9 ⟨rfl, rfl⟩)
                  go_ret
                  exact ⟨rfl, _, _, HS8.out.new ((Below.refl _ _).alloc (Nat.le_refl _) _)⟩
                · have qP2 : eP = 2 := by rcases h02P with e | e; exact absurd e qP; exact e
                  clear hall h02B h02D h02P h02O HOK qP
                  subst qB qD qP2
                  go_wp2_with (go_at_call 43; (with_reducible refine (HRO.out _ _ _ _ _ HX.out.1 HX.out.2.1 HX.out.2.2.1 HX.out.2.2.2).mono ?_); rintro e w9 ⟨rfl, rfl⟩)
                  go_ret
                  exact ⟨rfl, _, _, HS8.out.new ((Below.refl _ _).alloc (Nat.le_refl _) _)⟩
              · have qD2 : eD = 2 := by rcases h02D with e | e; exact absurd e qD; exact e
                clear hall h02B h02D h02P h02O HOK qD
                subst qB qD2
                go_wp2_with (go_at_call 43; (with_reducible refine (HRO.out _ _ _ _ _ HX.out.1 HX.out.2.1 HX.out.2.2.1 HX.out.2.2.2).mono ?_); rintro e w9 ⟨rfl, rfl⟩)
                go_ret
                exact ⟨rfl, _, _, HS8.out.new ((Below.refl _ _).alloc (Nat.le_refl _) _)⟩
            · have qB2 : eB = 2 := by rcases h02B with e | e; exact absurd e qB; exact e
              clear hall h02B h02D h02P h02O HOK qB
              subst qB2
              go_wp2_with (go_at_call 43; (with_reducible refine (HRO.out _ _ _ _ _ HX.out.1 HX.out.2.1 HX.out.2.2.1 HX.out.2.2.2).mono ?_); rintro e w9 ⟨rfl, rfl⟩)
              go_ret
              exact ⟨rfl, _, _, HS8.out.new ((Below.refl _ _).alloc (Nat.le_refl _) _)⟩
        · have hke : k = sz := by omega
          subst hke
          have hlt1 : ¬ ((k : Nat) : Int) < k := by omega
          have qa : ak = f := Part.last HGO10.out (has_pre HPRE.out HF.out) hl (by rw [HSZ.out, Int.toNat_natCast]; exact HPk.out)
          subst qa
          have HLEN := Hid.mk_ (len_at HS1.out.ws.pa)
          have hfk : hasA Nk ak = true := HPk.out.has
          have hpre : N10 <+: Nk := HPk.out.pre
          have hor := or_any (f := g) (g := ak) HS1.out.ws.pa
          rw [HAG.out Nk hpre HS1.out.good] at hor
          have COR : Hid (Calls _ _ _ _ (PSPost w wb ab xb lv S M N N' zp zr (Nk, r5, 0))) := hor.mono fun e w' hq => HS1.out.post (R := (Nk, r5, 0)) (List.prefix_refl _) hq
          have HFK := Hid.mk_ hfk
          clear hor hpre hfk
          go_upto_region 35 with (first
            | (go_at_call 16; (with_reducible refine HLEN.out.mono ?_); rintro e w' ⟨rfl, rfl⟩)
            | (go_at_call 35; (with_reducible refine COR.out.mono ?_); rintro e w2 ⟨rfl, z2, hps⟩; have HS2 : Hid (PS w w2 wb ab xb lv S M N Nk N' zp z2 zr) := hps; clear hps))
          clear HLEN COR HS1
          have HPT := Hid.mk_ (path_any (f := ak) HS2.out.ws.pa)
          by_cases h0 : ak = 0
          · subst h0
            have ep : pathR S Nk 0 = ([], false, 0) := by unfold pathR; rw [if_pos HFK.out, if_pos rfl]
            have HPT2 : Hid (Calls Try.prog 27 #[.pointer (some ⟨ab, 0, none⟩), .int .i64 0] w2 (PathPost w2 ([], false, 0))) := by rw [← ep]; exact HPT.out
            clear HPT ep
            go_upto_region 36 with (go_at_call 27; (with_reducible refine HPT2.out.mono ?_); rintro e w3 ⟨v, rfl, hrow, hown, hb3⟩; have HS3 := Hid.mk_ (HS2.out.new hb3); have HROW := Hid.mk_ hrow; clear hrow hown hb3)
            have HLEN := Hid.mk_ (len_at HS3.out.ws.pa)
            obtain ⟨A, c, rfl, hints⟩ := ints_row (ks := []) HROW.out
            clear hints
            go_wp2_with (go_at_call 16; (with_reducible refine HLEN.out.mono ?_); rintro e w' ⟨rfl, rfl⟩)
            go_ret
            exact ⟨rfl, _, _, HS3.out⟩
          · have ep : pathR S Nk ak = (pathA Nk ak.toNat ak (List.replicate S.length 0), true, 0) := by unfold pathR; rw [if_pos HFK.out, if_neg h0]
            have hpo := path_ok HS2.out.good HFK.out h0
            have HPT2 := HPT.out
            rw [ep] at HPT2
            obtain ⟨P, hP⟩ : ∃ P, P = pathA Nk ak.toNat ak (List.replicate S.length 0) := ⟨_, rfl⟩
            rw [← hP] at HPT2 hpo
            have HPO := Hid.mk_ hpo
            have HPT3 := Hid.mk_ HPT2
            have hb0 : (ak == 0) = false := by simpa using h0
            have hb1 : (ak != 0) = true := by simpa using h0
            have hb2 : decide (¬ ak = 0) = true := by simpa using h0
            have hb3 : decide (ak = 0) = false := by simpa using h0
            clear HPT HPT2 ep hP hpo
            go_upto_region 36 with (go_at_call 27; (with_reducible refine HPT3.out.mono ?_); rintro e w3 ⟨v, rfl, hrow, hown, hb3⟩; have HS3 := Hid.mk_ (HS2.out.new hb3); have HROW := Hid.mk_ hrow; have HOWN := Hid.mk_ hown; clear hrow hown hb3)
            have HLEN := Hid.mk_ (len_at HS3.out.ws.pa)
            obtain ⟨A, cp, rfl⟩ := HROW.out.shape
            obtain ⟨gp, cp', e, hgp, _⟩ := HROW.out.some_ (by have := HPO.out.pt.len; have := HGO.out.s1; show 0 < P.length; omega)
            cases e
            have hfar : ¬ wsz z2 zr gp := fun hk => by
              have h1 := HOWN.out gp rfl
              have h2 := HS2.out.ws.lt (.inl hk)
              omega
            have hfi := first_any (f := ak) HS3.out.ws HFK.out HPO.out HROW.out hfar
            have HFI := Hid.mk_ hfi
            clear hfi hfar hgp
            go_wp2_with (first
              | (go_at_call 16; (with_reducible refine HLEN.out.mono ?_); rintro e w' ⟨rfl, rfl⟩)
              | (go_at_call 45; (with_reducible refine HFI.out.mono ?_); rintro e w4 ⟨rfl, N4, z4, hps⟩))
            go_ret
            exact ⟨rfl, _, _, HS3.out.trans hps⟩
end
end Go.Proofs.Ytmfdcaalbpikpaa
