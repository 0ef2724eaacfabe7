/- Make: its walk. -/
import Derived.Test.YtmfdcaalbpikpaaA7
import Derived.Deep.RegionLaw
import Derived.LoopN
namespace Go.Proofs.Ytmfdcaalbpikpaa
open Go.RowKit Go.WideMaps Go.Maps
set_option linter.unusedVariables false
set_option linter.unusedSimpArgs false
/-- the arena ahead of Make's walk: what each callee does, in whatever world has new blocks only -/
structure MK (w w1 : World) (b bk : Nat) (S : List Int) (M : Int) (L : List (Nd × Value)) (nv sv : Value) (mb : Nat) (cz : List Nat) (lv : Int) (ks : List Int) (A : Option Addr) (c : Nat) : Prop where
  pa : ∀ W, Below w1.heap.size w1 W → PA W b S M L nv sv mb cz
  box : ∀ W, Below w1.heap.size w1 W → W.cell? ⟨bk, 0, none⟩ = some (.slice A ks.length c)
  below : ∀ W, Below w1.heap.size w1 W → Below w.heap.size w W
  ints : ∀ W, Below w1.heap.size w1 W → IntsIn W A ks
  alt : ∀ g o, A = some ⟨g, o, none⟩ → g < w1.heap.size
section
variable {w w1 : World} {b bk : Nat} {S : List Int} {M : Int} {L : List (Nd × Value)} {nv sv : Value} {mb : Nat} {cz : List Nat} {lv : Int} {ks : List Int} {A : Option Addr} {c : Nat}
theorem MK.start (h : PA w b S M L nv sv mb cz) (hk : IntsIn w A ks) (hA : ∀ g o, A = some ⟨g, o, none⟩ → g < w.heap.size) (lv : Int) :
    MK w (w.alloc (.cells #[.slice A ks.length c] 22)) b w.heap.size S M L nv sv mb cz lv ks A c := by
  have hb : Below w.heap.size w (w.alloc (.cells #[.slice A ks.length c] 22)) := (Below.refl _ _).alloc (Nat.le_refl _) _
  have hbW : ∀ W, Below (w.alloc (.cells #[.slice A ks.length c] 22)).heap.size (w.alloc (.cells #[.slice A ks.length c] 22)) W → Below w.heap.size w W := fun W h => hb.trans (h.mono (by simp))
  exact ⟨fun W hW => h.new (hbW W hW), fun W hW => ((Blk.new w [.slice A ks.length c] 22).below hW (by simp)).cell 0, hbW, fun W hW => hk.new (hbW W hW), fun g o e => by have := hA g o e; simp; omega⟩
theorem MK.may (h : MK w w1 b bk S M L nv sv mb cz lv ks A c) (W : World) (hW : Below w1.heap.size w1 W) {q : Bool} (hq : mayA S (nds L) lv ks = q) :
    Calls Try.prog 70 #[.pointer (some ⟨b, 0, none⟩), .int .i64 lv, .slice A ks.length c] W fun e w' => e = .returned (.bool q) ∧ Below w1.heap.size w1 w' :=
  hq ▸ (may_pa (h.pa W hW) lv (fun g o e => Nat.lt_of_lt_of_le (h.alt g o e) hW.size) (h.ints W hW)).mono fun e w' ⟨h1, h2⟩ => ⟨h1, hW.trans (h2.mono hW.size)⟩
theorem MK.same (h : MK w w1 b bk S M L nv sv mb cz lv ks A c) (W : World) (hW : Below w1.heap.size w1 W) (hn : 0 < ks.length) {q : Bool} (hq : (!oneA ks) = q) :
    Calls Try.prog 29 #[.slice A ks.length c, .func (.func 71) #[] #[.pointer (some ⟨bk, 0, none⟩)]] W fun e w' => e = .returned (.bool q) ∧ Below w1.heap.size w1 w' := by
  obtain ⟨g, o, rfl, hg, hc⟩ := (h.ints W hW).2 hn
  have hy : W.cell? ⟨g, o, none⟩ = some (.int .i64 (ks.headD 0)) := by
    have := hc 0 hn
    rw [Nat.add_zero] at this
    rw [this]
    cases ks with
    | nil => simp at hn
    | cons x l => rfl
  have h1 := contains_any 71 #[.pointer (some ⟨bk, 0, none⟩)] enter71 (fun x => !decide (x = ks.headD 0)) (some ⟨g, o, none⟩) c ks W (h.ints W hW) (fun q x _ => by
    refine (same_clo (bk := bk) (g := g) (o := o) (n := ks.length) (c := c) (y := ks.headD 0) x (W.drewN q) (h.box W hW) hn hy).mono fun e w' ⟨h1, h2⟩ => ⟨h1, 0, h2.symm⟩)
  refine h1.mono fun e w' ⟨h2, n, h3⟩ => ?_
  subst h3
  refine ⟨?_, hW.trans (Drawn_below _ _)⟩
  rw [h2, ← hq, ← oneA_any (ks := ks) rfl, Bool.not_not]
theorem MK.key (h : MK w w1 b bk S M L nv sv mb cz lv ks A c) (W : World) (hW : Below w1.heap.size w1 W) (hm : mayA S (nds L) lv ks = true) :
    Calls Try.prog 69 #[.int .i64 lv, .slice A ks.length c] W fun e w' => e = .returned (.string ⟨(keyB ⟨lv, ks⟩).toArray⟩) ∧ Below w1.heap.size w1 w' := by
  have hg := (h.pa W hW).good
  have hk := may_key hg hm
  exact (key_any hk.l0 hk.k (may_len hg.toSized hm).2 W (h.ints W hW) (fun g o e => Nat.lt_of_lt_of_le (h.alt g o e) hW.size)).mono fun e w' ⟨h1, h2⟩ => ⟨h1, hW.trans (h2.mono hW.size)⟩
theorem MK.clone (h : MK w w1 b bk S M L nv sv mb cz lv ks A c) (W : World) (hW : Below w1.heap.size w1 W) (hm : mayA S (nds L) lv ks = true) :
    Calls Try.prog 31 #[.slice A ks.length c] W fun e w' => ∃ g' c', e = .returned (.slice (some ⟨g', 0, none⟩) ks.length c') ∧ Row w' 3 1 (.slice (some ⟨g', 0, none⟩) ks.length c') ks.length (ks.map (Value.int .i64)) ∧ W.heap.size ≤ g' ∧ Below w1.heap.size w1 w' ∧ Below W.heap.size W w' := by
  have hl := may_len (h.pa W hW).good.toSized hm
  obtain ⟨g, o, rfl, hg, hc⟩ := (h.ints W hW).2 (by omega)
  exact (clone_some (c := c) rfl (by omega) (by omega) W hc hg).mono fun e w' ⟨g', c', h1, h2, h3, h4⟩ => ⟨g', c', h1, h2, h3, hW.trans (h4.mono hW.size), h4⟩
end
section
variable {w : World} {b : Nat} {S : List Int} {M : Int} {L : List (Nd × Value)} {nv sv : Value} {mb : Nat} {cz : List Nat} {ks : List Int} {A : Option Addr} {c : Nat}
def MakePost (w : World) (b : Nat) (S : List Int) (M : Int) (N : List Nd) (z : List Nat) (lv : Int) (ks : List Int) (e : Ending) (w' : World) : Prop :=
  e = .returned (.tuple #[.int .i64 (makeA S M N lv ks).2.1, .int .i64 (makeA S M N lv ks).2.2]) ∧ Grew w w' b S M (makeA S M N lv ks).1 z
set_option maxHeartbeats 4000000 in
theorem make_pa (h : PA w b S M L nv sv mb cz) (lv : Int) (hk : IntsIn w A ks) (hA : ∀ g o, A = some ⟨g, o, none⟩ → g < w.heap.size) :
    Calls Try.prog 58 #[.pointer (some ⟨b, 0, none⟩), .int .i64 lv, .slice A ks.length c] w (MakePost w b S M (nds L) (pz b mb nv cz) lv ks) := by
  have hmk := MK.start (c := c) h hk hA lv
  obtain ⟨w1, hw1⟩ : ∃ w1, w1 = w.alloc (.cells #[.slice A ks.length c] 22) := ⟨_, rfl⟩
  obtain ⟨bk, hbk⟩ : ∃ bk, bk = w.heap.size := ⟨_, rfl⟩
  rw [← hw1, ← hbk] at hmk
  have HMK := Hid.mk_ hmk
  have HH := Hid.mk_ h
  have HW := Hid.mk_ hw1
  have HBK := Hid.mk_ hbk
  have hB1 := Below.refl w1.heap.size w1
  have x1 := hmk.box w1 hB1
  obtain ⟨D, hmap, hfound⟩ := h.map
  have HGOOD := Hid.mk_ h.good
  have HF := Hid.mk_ hfound
  obtain ⟨A0, c0, rfl⟩ := h.row.shape
  have hl8 := len8 h.good
  clear hmk hw1 hbk hfound h
  cases hm : mayA S (nds L) lv ks with
  | false =>
    have HM := Hid.mk_ (fun W hW => HMK.out.may W hW hm)
    have e : makeA S M (nds L) lv ks = (nds L, 0, 1) := by unfold makeA; rw [if_pos hm]
    have HE := Hid.mk_ e
    clear e hm hk hA
    go_enter Try.func58, Try.ntmps58
    go_upto_region 1 with fail
    rw [← HBK.out, ← HW.out]
    go_wp2_with (go_at_call 70; (with_reducible refine (HM.out _ hB1).mono ?_); rintro e w2 ⟨rfl, hb2⟩)
    go_ret2
    refine ⟨by rw [HE.out]; rfl, ?_⟩
    rw [HE.out]
    exact HH.out.grew (HMK.out.below _ hb2)
  | true =>
    have HM := Hid.mk_ (fun W hW => HMK.out.may W hW hm)
    have HMAY := Hid.mk_ hm
    have hlen := may_len HGOOD.out.toSized hm
    have HKEY := Hid.mk_ (fun W hW => HMK.out.key W hW hm)
    have hc1 := HGOOD.out.m1
    obtain ⟨g, o, rfl, hg, hcs⟩ := hk.2 (by omega)
    have hln : 0 < ks.length := by omega
    have hln1 : (0 : Int) < ks.length := by omega
    obtain ⟨y, hy⟩ : ∃ y, y = ks.headD 0 := ⟨_, rfl⟩
    have HY := Hid.mk_ (fun (W : World) (hW : Below w1.heap.size w1 W) => show W.cell? ⟨g, o, none⟩ = some (.int .i64 y) by
      obtain ⟨g', o', e, _, hc⟩ := (HMK.out.ints W hW).2 hln
      cases e
      have := hc 0 hln
      rw [Nat.add_zero] at this
      rw [this, hy]
      cases ks with
      | nil => simp at hln
      | cons x l => rfl)
    cases ho : oneA ks with
    | true =>
      have HS := Hid.mk_ (fun W hW => HMK.out.same W hW hln (q := false) (by rw [ho]; rfl))
      have e : makeA S M (nds L) lv ks = (nds L, ks.headD 0, 0) := by unfold makeA; rw [if_neg (by rw [hm]; decide), if_pos ho]
      rw [← hy] at e
      have HE := Hid.mk_ e
      have HBX := Hid.mk_ HMK.out.box
      clear e hm hk hA ho hcs hy
      go_enter Try.func58, Try.ntmps58
      go_upto_region 1 with fail
      rw [← HBK.out, ← HW.out]
      go_wp2_with (first
        | (go_at_call 70; (with_reducible refine (HM.out _ hB1).mono ?_); rintro e w2 ⟨rfl, hb2⟩; have x2 := HBX.out _ hb2)
        | (go_at_call 29; (with_reducible refine (HS.out _ hb2).mono ?_); rintro e w3 ⟨rfl, hb3⟩; have x3 := HBX.out _ hb3; have y3 := HY.out _ hb3))
      go_ret2
      refine ⟨by rw [HE.out]; rfl, ?_⟩
      rw [HE.out]
      exact HH.out.grew (HMK.out.below _ hb3)
    | false =>
      have HS := Hid.mk_ (fun W hW => HMK.out.same W hW hln (q := true) (by rw [ho]; rfl))
      have HBX := Hid.mk_ HMK.out.box
      have HPA := Hid.mk_ HMK.out.pa
      have hnd : (⟨lv, ks⟩ : Nd).ks.length ≤ 256 := hlen.2
      have hkey := keyOf_nd ⟨lv, ks⟩ hnd
      have hhas := HF.out.has_iff (may_key HGOOD.out hm)
      obtain ⟨kb, hkb⟩ : ∃ kb : ByteArray, kb = ⟨(keyB ⟨lv, ks⟩).toArray⟩ := ⟨_, rfl⟩
      obtain ⟨kl, hkl⟩ : ∃ kl, kl = keyL ⟨lv, ks⟩ := ⟨_, rfl⟩
      have HMP := Hid.mk_ (fun (W : World) (hW : Below w1.heap.size w1 W) => show W.ownsMap Try.prog 9 (plainElem Try.prog 3) mb L.length D by
        exact owns_move hmap (by
          have h1 := HH.out.zlt (mem_pz.2 (.inr (.inl rfl)))
          exact (HMK.out.below W hW).block mb h1))
      rw [← hkb] at hkey HKEY
      rw [← hkl] at hkey hhas
      clear hy hcs hk hA
      by_cases hmem : (⟨lv, ks⟩ : Nd) ∈ nds L
      · have e : makeA S M (nds L) lv ks = (nds L, ((nds L).idxOf ⟨lv, ks⟩ : Int) + 2, 0) := by unfold makeA; rw [if_neg (by rw [hm]; decide), if_neg (by rw [ho]; decide), if_pos hmem]
        rw [decide_eq_true hmem] at hhas
        have hat := fun z => HF.out.at_mem hmem z
        rw [← hkl] at hat
        obtain ⟨x, hx⟩ : ∃ x, x = ((nds L).idxOf ⟨lv, ks⟩ : Int) + 2 := ⟨_, rfl⟩
        rw [← hx] at e hat
        have HE := Hid.mk_ e
        have HAT := Hid.mk_ hat
        clear e hm ho hmem hat hx hkb hkl
        go_enter Try.func58, Try.ntmps58
        go_upto_region 1 with fail
        rw [← HBK.out, ← HW.out]
        go_wp2_with (first
          | (go_at_call 70; (with_reducible refine (HM.out _ hB1).mono ?_); rintro e w2 ⟨rfl, hb2⟩; have x2 := HBX.out _ hb2)
          | (go_at_call 29; (with_reducible refine (HS.out _ hb2).mono ?_); rintro e w3 ⟨rfl, hb3⟩; have x3 := HBX.out _ hb3; have y3 := HY.out _ hb3)
          | (go_at_call 69; (with_reducible refine (HKEY.out _ hb3).mono ?_); rintro e w4 ⟨rfl, hb4⟩; have x4 := HBX.out _ hb4; have z4 := (HPA.out _ hb4).c3)
          | (at_lookup; refine wpList_lookup_own_ok_int _ rfl _ _ 73 rfl 9 3 .i64 law9 Try.underlying73 Try.underlying3 (zeroI _) mb L.length D rfl (HMP.out _ hb4) _ _ rfl hkey ?_; intro c9 hat9 hwc9)
          | go_in)
        have hcx : c9 = x := by
          have h1 := HAT.out (.lit (.int .i64 0))
          rw [hat9] at h1
          simpa using h1
        subst hcx
        go_ret2
        refine ⟨by rw [HE.out]; rfl, ?_⟩
        rw [HE.out]
        exact HH.out.grew (HMK.out.below _ hb4)
      · rw [decide_eq_false hmem] at hhas
        by_cases hM : M ≤ (L.length : Int)
        · have e : makeA S M (nds L) lv ks = (nds L, 0, 2) := by unfold makeA; rw [if_neg (by rw [hm]; decide), if_neg (by rw [ho]; decide), if_neg hmem, if_pos (by rw [nds_length]; exact hM)]
          have HE := Hid.mk_ e
          have d1 : decide (M ≤ (L.length : Int)) = true := decide_eq_true hM
          clear e hm ho hmem hkb hkl hM
          go_enter Try.func58, Try.ntmps58
          go_upto_region 1 with fail
          rw [← HBK.out, ← HW.out]
          go_wp2_with (first
          | (go_at_call 70; (with_reducible refine (HM.out _ hB1).mono ?_); rintro e w2 ⟨rfl, hb2⟩; have x2 := HBX.out _ hb2)
          | (go_at_call 29; (with_reducible refine (HS.out _ hb2).mono ?_); rintro e w3 ⟨rfl, hb3⟩; have x3 := HBX.out _ hb3; have y3 := HY.out _ hb3)
          | (go_at_call 69; (with_reducible refine (HKEY.out _ hb3).mono ?_); rintro e w4 ⟨rfl, hb4⟩; have x4 := HBX.out _ hb4; have z4 := (HPA.out _ hb4).c3; have z2 := (HPA.out _ hb4).c2; have z1 := (HPA.out _ hb4).c1)
          | (at_lookup; refine wpList_lookup_own_ok_int _ rfl _ _ 73 rfl 9 3 .i64 law9 Try.underlying73 Try.underlying3 (zeroI _) mb L.length D rfl (HMP.out _ hb4) _ _ rfl hkey ?_; intro c9 hat9 hwc9)
          | go_in)
          go_big_quiet (fail)
          go_wp2_with fail
          go_ret2
          refine ⟨by rw [HE.out]; rfl, ?_⟩
          rw [HE.out]
          exact HH.out.grew (HMK.out.below _ (hb4.trans (Drawn_below _ _)))
        · have e : makeA S M (nds L) lv ks = (nds L ++ [⟨lv, ks⟩], (L.length : Int) + 2, 0) := by unfold makeA; rw [if_neg (by rw [hm]; decide), if_neg (by rw [ho]; decide), if_neg hmem, if_neg (by rw [nds_length]; exact hM), nds_length]
          have HE := Hid.mk_ e
          have d1 : decide (M ≤ (L.length : Int)) = false := decide_eq_false hM
          have hput := HF.out.put HGOOD.out (may_key HGOOD.out hm) hmem
          have hgood := HGOOD.out.snoc hm ho hmem (by rw [nds_length]; omega)
          rw [nds_length] at hput
          have HPUT := Hid.mk_ hput
          have HG2 := Hid.mk_ hgood
          have HKL := Hid.mk_ hkl
          have HCL := Hid.mk_ (fun W hW => HMK.out.clone W hW hm)
          have hw2 : IntKind.i64.wrap ((L.length : Int) + 2) = L.length + 2 := by rw [IntKind.wrap_i64]; omega
          clear e hm ho hmem hkb hkl hM hput hgood
          obtain ⟨i0, hi0, hz0, hz1, hz2⟩ := info_parts Try.info55
          go_enter Try.func58, Try.ntmps58
          go_upto_region 1 with fail
          rw [← HBK.out, ← HW.out]
          go_wp2_with (first
          | (go_at_call 70; (with_reducible refine (HM.out _ hB1).mono ?_); rintro e w2 ⟨rfl, hb2⟩; have x2 := HBX.out _ hb2)
          | (go_at_call 29; (with_reducible refine (HS.out _ hb2).mono ?_); rintro e w3 ⟨rfl, hb3⟩; have x3 := HBX.out _ hb3; have y3 := HY.out _ hb3)
          | (go_at_call 69; (with_reducible refine (HKEY.out _ hb3).mono ?_); rintro e w4 ⟨rfl, hb4⟩; have x4 := HBX.out _ hb4; have z4 := (HPA.out _ hb4).c3; have z2 := (HPA.out _ hb4).c2; have z1 := (HPA.out _ hb4).c1)
          | (at_lookup; refine wpList_lookup_own_ok_int _ rfl _ _ 73 rfl 9 3 .i64 law9 Try.underlying73 Try.underlying3 (zeroI _) mb L.length D rfl (HMP.out _ hb4) _ _ rfl hkey ?_; intro c9 hat9 hwc9)
          | go_in)
          go_big_quiet (fail)
          go_wp2_with fail
          have hb5 := hb4.trans (Drawn_below w4 nq)
          obtain ⟨w5, hw5⟩ : ∃ w5, w5 = w4.drewN nq := ⟨_, rfl⟩
          rw [← hw5] at hb5 ⊢
          have x5 := HBX.out _ hb5
          have z5 := (HPA.out _ hb5).c2
          clear hw5
          have HNV := Hid.mk_ HH.out.nvb
          have hb5d : Below w1.heap.size w1 w5.drew := hb5.trans (Drawn_below w5 1)
          go_region_law (first
            | (go_simp; go_at_call 31; (with_reducible refine (HCL.out w5.drew hb5d).mono ?_); rintro e w6 ⟨g6, c6, rfl, hrow6, hg6, hb6, hbn6⟩; have x6 := HBX.out _ hb6; have z6 := (HPA.out _ hb6).c2; have l6 := (HPA.out _ hb6).blk.lt)
            | (refine step_append_row _ (by rfl) _ _ 74 (by rfl) 55 i0 _ 2 32 Try.underlying74 hi0 hz0 hz1 hz2 rfl (by omega) (.slice A0 L.length c0) L.length (ndCells L) (by rfl) ((HPA.out _ hb6).row.alloc _) ⟨w6.heap.size, 0, none⟩ 1 1 [.int .i64 lv, .slice (some ⟨g6, 0, none⟩) ks.length c6] (by rfl) (by rfl) (two_cells w6 _ _ _ rfl) (by simp [Value.oneCell']) (by omega) (by unfold maxLen; omega) (by omega) (w6.heap.size + 1) (by simp) ?_; intro g7 c7 w7 hrow7 hgrow7 hloc7 hlt7; have b7 := ((HPA.out _ hb6).blk.alloc _).grown hgrow7 (fun e => HNV.out.1 e.symm); have z7 := b7.cell 2; have f7 := b7.free 2; have l7 := b7.lt))
          all_goals (
            have b8 := b7.set 2 (.slice (some ⟨g7, 0, none⟩) (L.length + 1) c7)
            have z8 : (w7.setCell ⟨b, 2, none⟩ (.slice (some ⟨g7, 0, none⟩) (L.length + 1) c7)).cell? ⟨b, 3, none⟩ = some (.map (some mb)) := b8.cell 3
            have mm6 := HMP.out _ hb6
            have hwf : (Lit.int .i64 ((L.length : Int) + 2)).wf = true := WalkArith.wf_i64 (by omega)
            have hml : mb < w6.heap.size := mm6.lt
            have mm7 := owns_move mm6 (w' := w7.setCell ⟨b, 2, none⟩ (.slice (some ⟨g7, 0, none⟩) (L.length + 1) c7)) (by
              rw [Below.heap_setCell _ _ _ _ HNV.out.2.2, hgrow7.block mb (by simp; omega) (fun e => HNV.out.2.1 e.symm), Below.heap_alloc _ _ _ hml])
            go_wp2_with (first
              | (at_mapUpdate; refine wpList_mapUpdate_own _ rfl _ _ _ 73 rfl 9 3 law9 Try.underlying73 _ mb L.length D rfl mm7 (by unfold maxLen; omega) _ _ _ rfl rfl hkey _ [] (plainElem_int Try.underlying3 hwf) ?_; intro w8 hown8 hgrow8)
              | go_in)
            go_ret2
            refine ⟨by rw [HE.out]; rfl, ?_⟩
            rw [HE.out]
            rw [HKL.out] at hown8
            refine PA.snoc (nd := ⟨lv, ks⟩) HH.out (HMK.out.below _ hb6) hrow6 ?_ hlen.2 hrow7 rfl ?_ ?_ hown8 HPUT.out hgrow8 HG2.out
            · have := (HMK.out.below _ hb5d).size
              omega
            · exact ((Mods.refl _ w6).alloc _).grown hgrow7 (fun k e _ => e.symm ▸ rfl)
            · rcases hloc7 with e | e
              · exact .inl e
              · exact .inr (by omega))
end
end Go.Proofs.Ytmfdcaalbpikpaa
namespace Go.Proofs.Ytmfdcaalbpikpaa
open Go.RowKit Go.WideMaps Go.Maps
open Go.WideElems (rg)
set_option linter.unusedVariables false
set_option linter.unusedSimpArgs false
def backA (N : List Nd) (n : Int) : List Nd × Int := if 0 ≤ n ∧ n ≤ (N.length : Int) then (N.take n.toNat, 0) else (N, 1)
theorem step_delete_own {H : Type} {P : Program} {w : World} {ops : Array Oper} {o : Oper} {a : Act} {K0 : Act → World → Prop} {Q : Exit → Act → World → Prop} {E : Prop} (hg : o.guard = none) (m x : Operand) (t k : TypeId)
    (hop : o.op = Op.call { callee := Callee.builtin Builtin.delete, args := #[m, x], argTypes := #[t, k] })
    (e : TypeId) (K : Keyed P k) (ht : P.underlying t = some (.map k e)) (R : Value → Option (DataW H × List MemPlace)) (b n : Nat) (D : DataW H)
    (hm : a.eval m = .map (some b)) (hown : w.ownsMap P k R b n D) (key : Value) (kl : Lit) (hx : a.eval x = key) (hkey : keyOf P k key = some kl)
    (hK : ∀ w', w'.ownsMap P k R b n (D.del kl) → w.mapTurned w' b → K0 (a.put o.dst (.tuple #[])) w') :
    if Region.wanted o (yielded ops a.tmps) = true then Oper.wp P o a w K0 Q else E := by
  rw [if_pos (by simp [Region.wanted, hg])]
  obtain ⟨w', hrun, r1, r2⟩ := hown.drop K ht hkey o.type
  unfold Oper.wp
  simp [execOp, hop, resolve, invoke, builtin, hm, hx, hrun, Result.andThen]
  exact hK w' r1 r2
section
variable {w : World} {b : Nat} {S : List Int} {M : Int} {L : List (Nd × Value)} {nv sv : Value} {mb : Nat} {cz : List Nat}
theorem owns_size {D : DataW Unit} {n : Nat} (h : w.ownsMap Try.prog 9 (plainElem Try.prog 3) mb n D) {m : Nat} (hm : size D ≤ m) : w.ownsMap Try.prog 9 (plainElem Try.prog 3) mb m D := by
  obtain ⟨es, clock, hb, F, hs, hD⟩ := h
  refine ⟨es, clock, hb, F, ?_, hD⟩
  rw [hD, size_eq, length_sorted] at hm
  simpa using hm
theorem Row.cut {e : TypeId} {size n k : Nat} {A : Option Addr} {c : Nat} {xs : List Value} (h : Row w e size (.slice A n c) n xs) (hk : k ≤ n) : Row w e size (.slice A k c) k (xs.take (k * size)) := by
  have hc := h.capLe
  rcases h.2 with ⟨h', h0⟩ | ⟨g', cap', cur, h', hg, hnc, hcm, hcs, htake⟩
  · cases h'
    have : k = 0 := by omega
    subst this
    have hx : xs = [] := List.eq_nil_of_length_eq_zero (by have := h.1; omega)
    subst hx
    simpa using Row.nil w e size
  · cases h'
    exact h.first hk (by omega) (Nat.le_refl _)
theorem PA.cut {w0 : World} {A : Option Addr} {c m : Nat} {D : DataW Unit} (h : PA w0 b S M L (.slice A L.length c) sv mb cz) (hM : Mods (fun q => q = mb) w0 w) (hm : m ≤ L.length)
    (ho : w.ownsMap Try.prog 9 (plainElem Try.prog 3) mb L.length D) (hD : Found D ((nds L).take m)) :
    Grew w0 (w.setCell ⟨b, 2, none⟩ (.slice A m c)) b S M ((nds L).take m) (pz b mb (.slice A L.length c) cz) := by
  obtain ⟨n1, n2, n3⟩ := h.nvb
  have hbl := h.blk.lt
  have hs := hM.size
  have hs2 : (w.setCell ⟨b, 2, none⟩ (.slice A m c)).heap.size = w.heap.size := by simp [World.setCell]
  have keep : ∀ k, k < w0.heap.size → k ≠ b → k ≠ mb → (w.setCell ⟨b, 2, none⟩ (.slice A m c)).heap[k]? = w0.heap[k]? := fun k k1 k2 k3 => by
    rw [Below.heap_setCell _ _ _ _ k2, hM.block k k1 k3]
  have hcz : ∀ k ∈ cz, (w.setCell ⟨b, 2, none⟩ (.slice A m c)).heap[k]? = w0.heap[k]? := fun k hk => by
    obtain ⟨c1, c2, c3, c4⟩ := h.cold k hk
    exact keep k c4 c1 c2
  have hob : (Value.slice A m c).ownBlock = (Value.slice A L.length c).ownBlock := by cases A <;> rfl
  have hlm : (L.take m).length = m := by rw [List.length_take]; omega
  have hnt : nds (L.take m) = (nds L).take m := List.map_take
  refine ⟨pz b mb (.slice A m c) cz, ⟨L.take m, .slice A m c, sv, mb, cz, ⟨?_, ?_, ?_, ?_, ?_, ?_, ?_⟩, hnt, rfl⟩, ?_, ?_⟩
  · exact (h.blk.move (hM.block b hbl (fun e => n3 e.symm))).set 2 _
  · exact h.s.move (by omega) hcz
  · rw [hlm, ndCells_take]
    refine (h.row.cut hm).move fun k hk => ?_
    rw [hob] at hk
    exact keep k (h.row.lt k hk) (fun e => n1 (by rw [hk, e])) (fun e => n2 (by rw [hk, e]))
  · exact fun p hp => (h.kid p (List.mem_of_mem_take hp)).move (by omega) hcz
  · refine ⟨D, ?_, by rw [hnt]; exact hD⟩
    refine owns_move (owns_size ho ?_) (Below.heap_setCell _ _ _ _ n3)
    have := hD.size
    rw [← hnt, nds_length] at this
    omega
  · rw [hnt]; exact h.good.take m
  · intro k hk
    obtain ⟨c1, c2, c3, c4⟩ := h.cold k hk
    exact ⟨c1, c2, by rw [hob]; exact c3, by omega⟩
  · exact (hM.mono (T := (· ∈ pz b mb (.slice A L.length c) cz)) (fun k _ e => mem_pz.2 (.inr (.inl e)))).setCell (p := ⟨b, 2, none⟩) (fun _ => mem_pz.2 (.inl rfl)) _
  · intro k hk
    rw [mem_pz, hob] at hk
    exact .inl (mem_pz.2 hk)
set_option maxHeartbeats 4000000 in
theorem back_pa (h : PA w b S M L nv sv mb cz) (n : Int) :
    Calls Try.prog 55 #[.pointer (some ⟨b, 0, none⟩), .int .i64 n] w fun e w' => e = .returned (.int .i64 (backA (nds L) n).2) ∧ Grew w w' b S M (backA (nds L) n).1 (pz b mb nv cz) := by
  have HH := Hid.mk_ h
  have l8 := len8 h.good
  have c2 := h.c2
  have c3 := h.c3
  have hf := h.blk.free 2
  have hbl := h.blk.lt
  obtain ⟨A0, c0, rfl⟩ := h.row.shape
  have hcap := h.row.capLe
  by_cases h0 : 0 ≤ n
  · by_cases h1 : n ≤ (L.length : Int)
    · obtain ⟨m, rfl⟩ : ∃ m : Nat, n = (m : Int) := ⟨n.toNat, by omega⟩
      have hm : m ≤ L.length := by omega
      have d0 : ¬ ((m : Int) < 0) := by omega
      have d1 : ¬ ((L.length : Int) < m) := by omega
      have e : backA (nds L) (m : Int) = ((nds L).take m, 0) := by unfold backA; rw [if_pos ⟨h0, by rw [nds_length]; exact h1⟩, Int.toNat_natCast]
      rw [e]
      clear e
      by_cases hml : m < L.length
      · obtain ⟨D0, hown0, hf0⟩ := h.map
        have hf1 := hf0.start m
        obtain ⟨g, c, e, hg, hcap2⟩ := h.row.some_ (by omega)
        cases e
        have hmc : m < c0 := by omega
        have hmc2 : ¬ c0 ≤ m := by omega
        have hsub : ((L.length - m : Nat) : Int) = L.length - m := by omega
        have HF1 := Hid.mk_ hf1
        have HO := Hid.mk_ hown0
        clear hf1 hown0 hf0 h
        go_enter Try.func55, Try.ntmps55
        go_wp2_with fail
        go_loopw [25] (fun x25 wr => ∃ (k : Nat) (D : DataW Unit), k ≤ L.length - m ∧ x25 = .int .i64 (k : Int) ∧ Hid (Mods (fun q => q = mb) w wr) ∧ Hid (wr.ownsMap Try.prog 9 (plainElem Try.prog 3) mb L.length D) ∧ Hid (FoundD D (nds L) m k)) (fun x25 _ => (L.length - m) - (intOf x25).toNat)
        case atStart => exact ⟨0, D0, Nat.zero_le _, rfl, Mods.refl _ _, HO.out, HF1.out⟩
        case round =>
          obtain ⟨k, D, hk, rfl, HMD, HOW, HFD⟩ := hrel
          by_cases hlt : k < L.length - m
          · have hlt1 : (k : Int) < L.length - m := by omega
            have hi : m + k < L.length := by omega
            obtain ⟨g', c', e', hg', hv0, hv1⟩ := row_lv HH.out.row (m + k) hi
            cases e'
            have hgn := (HH.out.nvb).2.1
            have hmv : ∀ q, q < w.heap.size → q ≠ mb → wr.heap[q]? = w.heap[q]? := fun q h1 h2 => HMD.out.block q h1 h2
            have hgm : g ≠ mb := fun e => hgn (by rw [e]; rfl)
            have hbm : b ≠ mb := fun e => HH.out.nvb.2.2 e.symm
            have v0 : wr.cell? ⟨g, m * 2 + k * 2, none⟩ = some (.int .i64 (L[m + k]'hi).1.lv) := by
              rw [show m * 2 + k * 2 = (m + k) * 2 by omega]; exact (World.cell?_of_block (a := ⟨g, (m + k) * 2, none⟩) (hmv g hg hgm)).trans hv0
            have v1 : wr.cell? ⟨g, m * 2 + k * 2 + 1, none⟩ = some (L[m + k]'hi).2 := by
              rw [show m * 2 + k * 2 + 1 = (m + k) * 2 + 1 by omega]; exact (World.cell?_of_block (a := ⟨g, (m + k) * 2 + 1, none⟩) (hmv g hg hgm)).trans hv1
            have hkid := HH.out.kid _ (List.getElem_mem hi)
            obtain ⟨gk, ck, ekv, hck, hgz, hgkl, hints⟩ := hkid.ints
            have hkey := HH.out.good.key (m + k) (by rw [nds_length]; exact hi)
            have hkl2 := (HH.out.good.kids (m + k) (by rw [nds_length]; exact hi)).2
            have hnext := HFD.out.next HH.out.good (by rw [nds_length]; exact hi)
            rw [nds_get L (m + k) hi] at hkey hkl2 hnext
            obtain ⟨nd, hnd⟩ : ∃ nd, nd = (L[m + k]'hi).1 := ⟨_, rfl⟩
            rw [← hnd] at v0 hkey hkl2 hints ekv hnext
            rw [ekv] at v1
            have hcold := HH.out.cold gk hgz
            have HKEY := Hid.mk_ (fun (W : World) (hW : Mods (fun q => q = mb) w W) => key_any (A := some ⟨gk, 0, none⟩) (c := ck) hkey.l0 hkey.k hkl2 W (hints.move hW.size (fun q o e hq => hW.block q hq (by cases e; exact hcold.2.1))) (fun q o e => by cases e; exact Nat.lt_of_lt_of_le hgkl hW.size))
            have HKO := Hid.mk_ (keyOf_nd nd hkl2)
            obtain ⟨kb, hkb⟩ : ∃ kb : ByteArray, kb = ⟨(keyB nd).toArray⟩ := ⟨_, rfl⟩
            obtain ⟨ndl, hndl⟩ : ∃ x, x = nd.lv := ⟨_, rfl⟩
            obtain ⟨nkl, hnkl⟩ : ∃ x, x = nd.ks.length := ⟨_, rfl⟩
            have e0 : (⟨nd.lv, nd.ks⟩ : Nd) = nd := rfl
            rw [e0, ← hkb, ← hndl, ← hnkl] at HKEY
            rw [← hkb] at HKO
            rw [← hndl] at v0
            rw [← hnkl] at v1
            have HN := Hid.mk_ hnext
            have HCB := Hid.mk_ (fun (W : World) (hW : Mods (fun q => q = mb) w W) => (World.cell?_of_block (a := ⟨b, 3, none⟩) (hW.block b hbl hbm)).trans c3)
            have b3 := HCB.out wr HMD.out
            clear hnext hkey hkl2 hkid hnd hints hcold hkb hndl hnkl hv0 hv1 e0 hmv ekv
            go_wp2_with fail
            have hbxm : Mods (fun q => q = mb) w (wr.alloc (.cells #[.int .i64 ndl, .slice (some ⟨gk, 0, none⟩) nkl ck] 55)) := HMD.out.alloc _
            have hbx := Blk.new wr [.int .i64 ndl, .slice (some ⟨gk, 0, none⟩) nkl ck] 55
            obtain ⟨w6, hw6⟩ : ∃ w6, w6 = wr.alloc (.cells #[.int .i64 ndl, .slice (some ⟨gk, 0, none⟩) nkl ck] 55) := ⟨_, rfl⟩
            obtain ⟨bx, hbxe⟩ : ∃ bx, bx = wr.heap.size := ⟨_, rfl⟩
            rw [← hw6] at hbxm hbx
            rw [← hbxe] at hbx
            have q0 := hbx.cell 0
            have q1 := hbx.cell 1
            have q3 := HCB.out w6 hbxm
            have hbxl := hbx.lt
            have HBX := Hid.mk_ hbx
            have HM6 := Hid.mk_ hbxm
            have ho6 := owns_move HOW.out (w' := w6) (by rw [hw6]; exact Below.heap_alloc _ _ _ HOW.out.lt)
            have HO6 := Hid.mk_ ho6
            rw [← hbxe, ← hw6]
            clear hw6 hbx hbxm ho6 v0 v1 b3 hbxe
            go_region_law (first
              | (go_simp; go_at_call 69; (with_reducible refine (HKEY.out w6.drew (HM6.out.drew)).mono ?_); rintro e w7 ⟨rfl, hb7⟩; have m7 := HM6.out.drew.then_new hb7; have q7 := HCB.out w7 m7; have o7 := owns_move HO6.out (w' := w7) (hb7.block mb HO6.out.lt))
              | (refine step_delete_own (by rfl) _ _ 73 9 (by rfl) 3 law9 Try.underlying73 _ mb L.length D (by rfl) o7 (.string kb) (keyL nd) (by rfl) HKO.out ?_; intro w8 hown8 hturn8))
            all_goals (
              go_wp2_with fail
              exact ⟨⟨k + 1, D.del (keyL nd), by omega, by go_num, m7.grown hturn8.grown (fun q e _ => by cases e; rfl), hown8, HN.out⟩, by simp [intOf]; omega⟩)
          · have hge : ¬ (k : Int) < L.length - m := by omega
            have hbm : b ≠ mb := fun e => HH.out.nvb.2.2 e.symm
            have hB := HH.out.blk.move (HMD.out.block b hbl hbm)
            have b2 := hB.cell 2
            have f2 := hB.free 2
            have l2 := hB.lt
            go_wp2_with fail
            go_ret
            have hkm : m + k = (nds L).length := by rw [nds_length]; omega
            exact ⟨rfl, PA.cut HH.out HMD.out hm HOW.out (HFD.out.done hkm)⟩
      · have e : m = L.length := by omega
        subst e
        obtain ⟨D0, hown0, hf0⟩ := h.map
        have hD : Found D0 ((nds L).take L.length) := by rw [← nds_length, List.take_length]; exact hf0
        have HD := Hid.mk_ hD
        have HO := Hid.mk_ hown0
        clear hown0 hf0 h hD
        by_cases hmc : L.length < c0
        · have hmc2 : ¬ c0 ≤ L.length := by omega
          go_enter Try.func55, Try.ntmps55
          go_wp2_with fail
          refine wp_loop_rounds 1 ?_
          rw [rounds_succ]
          go_wp2_with fail
          go_ret
          exact ⟨rfl, PA.cut HH.out (Mods.refl _ _) (Nat.le_refl _) HO.out HD.out⟩
        · have hmc2 : c0 = L.length := by omega
          subst hmc2
          go_enter Try.func55, Try.ntmps55
          go_wp2_with fail
          refine wp_loop_rounds 1 ?_
          rw [rounds_succ]
          go_wp2_with fail
          go_ret
          exact ⟨rfl, PA.cut HH.out (Mods.refl _ _) (Nat.le_refl _) HO.out HD.out⟩
    · have e : backA (nds L) n = (nds L, 1) := by unfold backA; rw [if_neg (fun h2 => h1 (by rw [nds_length] at h2; exact h2.2))]
      rw [e]
      have d0 : ¬ n < 0 := by omega
      have d1 : (L.length : Int) < n := by omega
      clear e h
      go_enter Try.func55, Try.ntmps55
      go_wp2_with fail
      go_ret
      exact ⟨rfl, HH.out.grew (Below.refl _ _)⟩
  · have e : backA (nds L) n = (nds L, 1) := by unfold backA; rw [if_neg (fun h2 => h0 h2.1)]
    rw [e]
    have d0 : n < 0 := by omega
    clear e h
    go_enter Try.func55, Try.ntmps55
    go_wp2_with fail
    go_ret
    exact ⟨rfl, HH.out.grew (Below.refl _ _)⟩
end
end Go.Proofs.Ytmfdcaalbpikpaa
