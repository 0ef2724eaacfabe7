/- room; first. -/
import Derived.Test.YtmfdcaalbpikpaaX9
import Derived.Test.YtmfdcaalbpikpaaQ9
namespace Go.Proofs.Ytmfdcaalbpikpaa
open Go.RowKit Go.Maps
set_option linter.unusedVariables false
set_option linter.unusedSimpArgs false
/-- what has been made by the program beside the document's arena -/
structure PS (w wr : World) (wb ab xb : Nat) (lv : Value) (S : List Int) (M : Int) (N0 N N' : List Nd) (zp0 zp zr : List Nat) : Prop where
  ws : WS wr wb ab xb lv S M N N' zp zr
  pre : N0 <+: N
  mods : Mods (wsz zp0 zr) w wr
  zs : ∀ k ∈ zp, k ∈ zp0 ∨ w.heap.size ≤ k
section
variable {w wr w' : World} {wb ab xb : Nat} {lv : Value} {S : List Int} {M : Int} {N0 N N' N1 : List Nd} {zp0 zp zr : List Nat} {f g : Int} {R : Out}
theorem PS.refl (h : WS w wb ab xb lv S M N N' zp zr) : PS w w wb ab xb lv S M N N N' zp zp zr := ⟨h, List.prefix_refl _, Mods.refl _ _, fun _ hk => .inl hk⟩
theorem PS.new (h : PS w wr wb ab xb lv S M N0 N N' zp0 zp zr) (hb : Below wr.heap.size wr w') : PS w w' wb ab xb lv S M N0 N N' zp0 zp zr := ⟨h.ws.new hb, h.pre, h.mods.then_new hb, h.zs⟩
theorem PS.op (h : PS w wr wb ab xb lv S M N0 N N' zp0 zp zr) (hp : N <+: N1) (hg : Grew wr w' ab S M N1 zp) : ∃ zp', PS w w' wb ab xb lv S M N0 N1 N' zp0 zp' zr := by
  obtain ⟨zp', h1, h2, h3⟩ := h.ws.opP hg
  have hs := h.mods.size
  refine ⟨zp', h1, h.pre.trans hp, h.mods.trans h2 (fun k hk hkz => ?_), fun k hk => ?_⟩
  · rcases hkz with e | e
    · rcases h.zs k e with e2 | e2
      · exact .inl e2
      · omega
    · exact .inr e
  · rcases h3 k hk with e | e
    · exact h.zs k e
    · exact .inr (by omega)
theorem PS.good (h : PS w wr wb ab xb lv S M N0 N N' zp0 zp zr) : Good S M N := h.ws.pa.good
/-- an operation's answer, and what it leaves -/
def PSPost (w : World) (wb ab xb : Nat) (lv : Value) (S : List Int) (M : Int) (N0 N' : List Nd) (zp0 zr : List Nat) (R : Out) (e : Ending) (w' : World) : Prop :=
  e = .returned (.tuple #[.int .i64 R.2.1, .int .i64 R.2.2]) ∧ ∃ zp', PS w w' wb ab xb lv S M N0 R.1 N' zp0 zp' zr
theorem PS.post {e : Ending} (h : PS w wr wb ab xb lv S M N0 N N' zp0 zp zr) (hp : N <+: R.1) (hq : OpPost wr ab S M zp R e w') : PSPost w wb ab xb lv S M N0 N' zp0 zr R e w' := ⟨hq.1, h.op hp hq.2⟩
/-- what is left behind -/
def PSEnd (w : World) (wb ab xb : Nat) (lv : Value) (S : List Int) (M : Int) (N0 N' : List Nd) (zp0 zr : List Nat) (e : Ending) (w' : World) : Prop :=
  e = .returned (.bool true) ∧ ∃ N zp', PS w w' wb ab xb lv S M N0 N N' zp0 zp' zr
theorem room_any {A : Option Addr} {c : Nat} {es : List Int} (h : IntsIn w A es) (he : ∀ e ∈ es, e = 0 ∨ e = 2) : Calls Try.prog 43 #[.slice A es.length c] w fun e w' => e = .returned (.bool true) ∧ w = w' := by
  have HI := Hid.mk_ h
  have HE := Hid.mk_ he
  have hl := h.1
  clear h he
  go_enter Try.func43, Try.ntmps43
  go_wp2_with fail
  go_loopw [3] (fun x3 wr => ∃ (k : Nat), k ≤ es.length ∧ x3 = .int .i64 (k : Int) ∧ wr = w) (fun x3 _ => es.length - (intOf x3).toNat)
  case atStart => exact ⟨0, Nat.zero_le _, rfl, rfl⟩
  case round =>
    obtain ⟨k, hk, rfl, rfl⟩ := hrel
    by_cases hlt : k < es.length
    · have hlt1 : (k : Int) < es.length := by omega
      obtain ⟨g, o, rfl, hg, hc⟩ := HI.out.2 (by omega)
      have c0 := hc k hlt
      obtain ⟨e, hee⟩ : ∃ e, e = es[k]'hlt := ⟨_, rfl⟩
      have h02 := HE.out e (by rw [hee]; exact List.getElem_mem hlt)
      rw [← hee] at c0
      clear hc hee
      rcases h02 with rfl | rfl
      all_goals (
        go_wp2_with fail
        exact ⟨⟨k + 1, by omega, by go_num, by first | trivial | rfl⟩, by simp [intOf]; omega⟩)
    · have hke : k = es.length := by omega
      subst hke
      have hlt1 : ¬ ((es.length : Nat) : Int) < es.length := by omega
      go_wp2_with fail
      go_ret
      exact ⟨rfl, rfl⟩
set_option maxRecDepth 100000 in
set_option maxHeartbeats 8000000 in
theorem first_any {gp cp : Nat} {P : List Int} (h : WS w wb ab xb lv S M N N' zp zr) (hf : hasA N f = true) (hP : PathOk S N f P) (hr : Row w 3 1 (.slice (some ⟨gp, 0, none⟩) P.length cp) P.length (P.map (Value.int .i64))) (hz : ¬ wsz zp zr gp) :
    Calls Try.prog 45 #[.pointer (some ⟨wb, 0, none⟩), .int .i64 f, .slice (some ⟨gp, 0, none⟩) P.length cp] w (PSEnd w wb ab xb lv S M N N' zp zr) := by
  have HH := Hid.mk_ h
  have HF := Hid.mk_ hf
  have HP := Hid.mk_ hP
  have HR := Hid.mk_ hr
  have HZ := Hid.mk_ hz
  have hPl := hP.pt.len
  have hS2 := h.pa.good.s2
  have y0 := h.blk.cell 0
  have yl := h.blk.lt
  have hgpl := hr.lt gp rfl
  have hev : Calls Try.prog 32 #[.pointer (some ⟨ab, 0, none⟩), .int .i64 f, .slice (some ⟨gp, 0, none⟩) P.length cp] w (EvalPost w (true, 0)) := by
    obtain ⟨A, c, e, hi⟩ := ints_row hr
    cases e
    have := eval_any (c := cp) (f := f) h.pa hi
    have e2 : evalR S N f P = (true, 0) := by
      unfold evalR
      rw [if_pos ⟨hf, hP.pt.len, hP.pt.each⟩, hP.says]
    rw [e2] at this
    exact this
  have HEV := Hid.mk_ hev
  have HPL := Hid.mk_ hPl
  clear h hf hP hr hz hev hPl
  go_enter Try.func45, Try.ntmps45
  go_upto_region 2 with (go_at_call 32; (with_reducible refine HEV.out.mono ?_); rintro e w1 ⟨rfl, hb1⟩; have HB1 := Hid.mk_ hb1; clear hb1)
  have HS0 := Hid.mk_ ((PS.refl HH.out).new HB1.out)
  clear y0 yl
  go_wp2_with fail
  go_loopw [9] (fun x9 wr => ∃ (k : Nat) (N1 : List Nd) (zp1 : List Nat), k ≤ P.length ∧ x9 = .int .i64 (k : Int) ∧ Hid (PS w wr wb ab xb lv S M N N1 N' zp zp1 zr)) (fun x9 _ => P.length - (intOf x9).toNat)
  case atStart => exact ⟨0, N, zp, Nat.zero_le _, rfl, HS0⟩
  case round =>
    obtain ⟨k, N1, zp1, hk, rfl, HS1⟩ := hrel
    by_cases hlt : k < P.length
    · have hlt1 : (k : Int) < P.length := by omega
      have HL1 := Hid.mk_ (Lead.first HH.out.pa.good HF.out HP.out.pt HS1.out.good HS1.out.pre)
      go_wp2_with fail
      go_loopw [10, 11] (fun x10 x11 wr => ∃ (i : Nat) (N2 : List Nd) (zp2 : List Nat) (g : Int), i ≤ k ∧ x10 = .int .i64 g ∧ x11 = .int .i64 (i : Int) ∧ Hid (PS w wr wb ab xb lv S M N N2 N' zp zp2 zr) ∧ Hid (Lead S M N f P i N2 g)) (fun _ x11 _ => k - (intOf x11).toNat)
      case atStart => exact ⟨0, N1, zp1, f, Nat.zero_le _, rfl, rfl, HS1, HL1⟩
      case round =>
        obtain ⟨i, N2, zp2, g, hi, rfl, rfl, HS2, HL2⟩ := hrel
        by_cases hik : i < k
        · have hik1 : (i : Int) < k := by omega
          have hiS : i < S.length := by have := HPL.out; omega
          have hiP : i < P.length := by omega
          have hiP1 : (i : Int) < P.length := by omega
          have hrow : Row wr 3 1 (.slice (some ⟨gp, 0, none⟩) P.length cp) P.length (P.map (Value.int .i64)) := HR.out.move (fun q hq => by cases hq; exact HS2.out.mods.block gp hgpl HZ.out)
          have c0 := row3 hrow i hiP
          have y0 := HS2.out.ws.blk.cell 0
          have yl := HS2.out.ws.blk.lt
          have hgl := hrow.lt gp rfl
          obtain ⟨pi, hpi⟩ : ∃ pi, pi = P[i]'hiP := ⟨_, rfl⟩
          rw [← hpi] at c0
          have hpg : P.getD i 0 = pi := by rw [getD_mem hiP, hpi]
          have hbd : Below wr.heap.size wr wr.drew := Below.drew (Below.refl _ wr)
          have hop := restrict_any (f := g) (lv := (i : Int)) (cl := pi) (HS2.out.ws.pa.new hbd)
          have hres := HL2.out.res hiS (HP.out.pt.each i hiS)
          rw [hpg] at hres
          obtain ⟨R, hR⟩ : ∃ R, R = resA S M i pi N2 g := ⟨_, rfl⟩
          rw [← hR] at hop hres
          have hst := fun e => HL2.out.step (R := R) HP.out.pt hiS (by rw [hpg]; exact hR) e
          have HST := Hid.mk_ hst
          have HERR := Hid.mk_ hres.err
          have HOP := Hid.mk_ (hop.mono fun e w' hq => (HS2.out.new hbd).post hres.pre hq)
          have y0d : wr.drew.cell? ⟨wb, 0, none⟩ = some (.pointer (some ⟨ab, 0, none⟩)) := y0
          have c0d : wr.drew.cell? ⟨gp, i, none⟩ = some (.int .i64 pi) := c0
          have HROW : Hid (∀ W zp3 N3, PS w W wb ab xb lv S M N N3 N' zp zp3 zr → W.cell? ⟨gp, i, none⟩ = some (.int .i64 pi)) := fun W zp3 N3 hW => by
            have := row3 (HR.out.move (w' := W) (fun q hq => by cases hq; exact hW.mods.block gp hgpl HZ.out)) i hiP
            rw [← hpi] at this
            exact this
          clear hrow hpi hpg hop hres hR hst hbd
          obtain ⟨N3, r3, e3⟩ := R
          go_upto_region 11 with fail
          go_cut [12, 13] from 46 to 58 (fun x12 x13 wx => ∃ (zp3 : List Nat), x12 = .int .i64 r3 ∧ x13 = .int .i64 e3 ∧ Hid (PS w wx wb ab xb lv S M N N3 N' zp zp3 zr))
          case first =>
           go_wp2_with fail
           go_region_held3 (fun w' => w'.cell? ⟨wb, 0, none⟩ = some (.pointer (some ⟨ab, 0, none⟩)) ∧ w'.cell? ⟨gp, i, none⟩ = some (.int .i64 pi)) (first | exact ⟨y0d, c0d⟩ | assumption)
            ((go_at_call 26; (with_reducible refine HOP.out.mono ?_); rintro e w3 ⟨rfl, zp3, hps⟩; have HPS := Hid.mk_ hps; have hS : w3.cell? ⟨wb, 0, none⟩ = some (.pointer (some ⟨ab, 0, none⟩)) ∧ w3.cell? ⟨gp, i, none⟩ = some (.int .i64 pi) := ⟨hps.ws.blk.cell 0, HROW.out _ _ _ hps⟩; clear hps))
           all_goals (
            go_wp2_with fail
            go_meet
            exact ⟨zp3, rfl, rfl, HPS⟩)
          case rest =>
            obtain ⟨zp3, rfl, rfl, HPS⟩ := hcut
            clear y0 yl c0 y0d c0d
            rcases HERR.out with e | e
            · have e : e3 = 0 := e
              subst e
              go_wp2_with fail
              exact ⟨⟨i + 1, N3, zp3, r3, by omega, rfl, by go_num, HPS, HST.out rfl⟩, by simp [intOf]; omega⟩
            · have e : e3 = 2 := e
              subst e
              go_wp2_with fail
              go_ret
              exact ⟨rfl, _, _, HPS.out⟩
        · have hie : i = k := by omega
          subst hie
          have hik1 : ¬ (i : Int) < i := by omega
          have hiS : i < S.length := by have := HPL.out; omega
          have hpr := HP.out.pt.each i hiS
          rw [getD_mem hlt] at hpr
          obtain ⟨pi, hpi⟩ : ∃ pi, pi = P[i]'hlt := ⟨_, rfl⟩
          rw [← hpi] at hpr
          have HPI := Hid.mk_ hpi
          have HROW : Hid (∀ W zp3 N3, PS w W wb ab xb lv S M N N3 N' zp zp3 zr → W.cell? ⟨gp, i, none⟩ = some (.int .i64 pi) ∧ gp < W.heap.size) := fun W zp3 N3 hW => by
            have h1 := HR.out.move (w' := W) (fun q hq => by cases hq; exact hW.mods.block gp hgpl HZ.out)
            have := row3 h1 i hlt
            rw [← hpi] at this
            exact ⟨this, h1.lt gp rfl⟩
          have HPR := Hid.mk_ hpr
          have hp0 := hpr.1
          have hp256 : pi ≤ 256 := by
            have e1 := HH.out.pa.good.toSized.at_ i hiS
            have e2 := hpr.2
            rw [getD_mem hiS] at e2
            omega
          clear hpi hpr
          go_wp2_with fail
          go_loopw [14] (fun x14 wr => ∃ (c : Nat) (N3 : List Nd) (zp3 : List Nat), (c : Int) ≤ pi ∧ x14 = .int .i64 (c : Int) ∧ Hid (PS w wr wb ab xb lv S M N N3 N' zp zp3 zr) ∧ Hid (Lead S M N f P i N3 g)) (fun x14 _ => pi.toNat - (intOf x14).toNat)
          case atStart => exact ⟨0, N2, zp2, by omega, rfl, HS2, HL2⟩
          case round =>
            obtain ⟨c, N3, zp3, hc, rfl, HS3, HL3⟩ := hrel
            obtain ⟨c0, hgl⟩ := HROW.out _ _ _ HS3.out
            have y0 := HS3.out.ws.blk.cell 0
            have yl := HS3.out.ws.blk.lt
            by_cases hcp : (c : Int) < pi
            · have hop := restrict_any (f := g) (lv := (i : Int)) (cl := (c : Int)) HS3.out.ws.pa
              have hres := HL3.out.res (c := (c : Int)) hiS (by have := HP.out.pt.each i hiS; rw [getD_mem hlt, ← HPI.out] at this; omega)
              obtain ⟨R, hR⟩ : ∃ R, R = resA S M i c N3 g := ⟨_, rfl⟩
              rw [← hR] at hop hres
              have hze := fun e => HL3.out.zero (R := R) HP.out hiS (c := (c : Int)) (by rw [getD_mem hlt, ← HPI.out]; omega) hR e
              have hmo := HL3.out.more hres.pre hres.good
              have HZE := Hid.mk_ hze
              have HMO := Hid.mk_ hmo
              have HERR := Hid.mk_ hres.err
              have HOP := Hid.mk_ (hop.mono fun e w' hq => HS3.out.post hres.pre hq)
              clear hop hres hR hze hmo
              obtain ⟨N4, r4, e4⟩ := R
              rcases HERR.out with e | e
              · have e : e4 = 0 := e
                subst e
                have e2 : r4 = 0 := HZE.out rfl
                subst e2
                go_wp2_with (go_at_call 26; (with_reducible refine HOP.out.mono ?_); rintro e w4 ⟨rfl, zp4, hps⟩; have HPS := Hid.mk_ hps; clear hps)
                exact ⟨⟨c + 1, N4, zp4, by omega, by go_num, HPS, HMO⟩, by simp [intOf]; omega⟩
              · have e : e4 = 2 := e
                subst e
                go_wp2_with (go_at_call 26; (with_reducible refine HOP.out.mono ?_); rintro e w4 ⟨rfl, zp4, hps⟩; have HPS := Hid.mk_ hps; clear hps)
                go_ret
                exact ⟨rfl, _, _, HPS.out⟩
            · go_wp2_with fail
              exact ⟨⟨i + 1, N3, zp3, hlt, by go_num, HS3⟩, by simp [intOf]; have h9 : i < P.length := hlt; omega⟩
    · have hke : k = P.length := by omega
      subst hke
      have hlt1 : ¬ ((P.length : Nat) : Int) < P.length := by omega
      go_wp2_with fail
      go_ret
      exact ⟨rfl, _, _, HS1.out⟩
end
end Go.Proofs.Ytmfdcaalbpikpaa
