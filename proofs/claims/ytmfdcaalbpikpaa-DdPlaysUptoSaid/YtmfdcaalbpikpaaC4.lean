/- The document's Make: its walk. -/
import Derived.Test.YtmfdcaalbpikpaaC3
import Derived.Deep.RegionLaw
namespace Go.Proofs.Ytmfdcaalbpikpaa
open Go.RowKit Go.WideMaps Go.Maps
set_option linter.unusedVariables false
set_option linter.unusedSimpArgs false
section
variable {w w' : World} {b : Nat} {S : List Int} {M : Int} {L : List (Nd × Value)} {nv sv lv : Value} {rows : List Value} {cz : List Nat} {ks : List Int} {A : Option Addr} {c : Nat}
def Laid (w : World) (b : Nat) (L : List (Nd × Value)) (nv : Value) (l : Int) (ks : List Int) (wx : World) : Prop :=
  ∃ g6 c6 w6 g7 c7 w7, Below w.heap.size w w6 ∧ Row w6 3 1 (.slice (some ⟨g6, 0, none⟩) ks.length c6) ks.length (ks.map (Value.int .i64)) ∧ w.heap.size ≤ g6 ∧
    Row w7 55 2 (.slice (some ⟨g7, 0, none⟩) (L.length + 1) c7) (L.length + 1) (ndCells L ++ [.int .i64 l, .slice (some ⟨g6, 0, none⟩) ks.length c6]) ∧ Mods (fun k => nv.ownBlock = some k) w6 w7 ∧ (nv.ownBlock = some g7 ∨ w6.heap.size ≤ g7) ∧
    wx = w7.setCell ⟨b, 2, none⟩ (.slice (some ⟨g7, 0, none⟩) (L.length + 1) c7)
set_option maxRecDepth 100000 in
set_option maxHeartbeats 16000000 in
theorem rmake_ok (h : RA w b S M L nv sv lv rows cz) (i : Nat) (hi : i < S.length) (hA : IntsIn w A ks) (hx : (ks.length : Int) = S[i]'hi) :
    Calls Try.prog 18 #[.pointer (some ⟨b, 0, none⟩), .int .i64 (i : Int), .slice A ks.length c] w (RMakePost w b S M (nds L) (rz b nv lv rows cz) (i : Int) ks) := by
  have HH := Hid.mk_ h
  have hsh : shapeA S (i : Int) ks.length = true := by
    unfold shapeA; rw [Int.toNat_natCast, getD_mem hi, hx]; exact decide_eq_true ⟨by omega, by omega, rfl⟩
  have k0 := h.c0
  have k1 := h.c1
  have k2 := h.c2
  have k3 := h.c3
  have hl8 := len8 h.good
  have hrl := h.rl
  have hrow := h.row
  obtain ⟨A0, c0, rfl⟩ := h.row.shape
  obtain ⟨gl, cl, rfl, hgl, hclr⟩ := h.lrow.some_ (by omega)
  have hir : i < rows.length := by omega
  have kl : w.cell? ⟨gl, i, none⟩ = some (rows[i]'hir) := by
    rw [h.lrow.cell i (by omega)]; simp [hir]
  have hR := h.rws i hir
  obtain ⟨AR, cR, hrv⟩ := hR.shape
  rw [hrv] at kl
  have hRR := hR
  rw [hrv] at hRR
  have HRV := Hid.mk_ hrv
  obtain ⟨R, hRe⟩ : ∃ R, R = refs (nds L) (i : Int) := ⟨_, rfl⟩
  have hRl : R.length ≤ 8192 := by rw [hRe]; have := refs_length_le (nds L) (i : Int); rw [nds_length] at this; omega
  rw [← hRe] at kl hRR
  obtain ⟨gs, cs, rfl, hcs, hgz, hgs, hsl, hsc⟩ := h.s
  have hs0 := hsc i hi
  rw [← hx] at hs0
  have hsx := h.good.toSized.at_ i hi
  rw [← hx] at hsx
  have hii : i < 9223372036854775807 := by have := h.good.toSized.s2; omega
  have HSH := Hid.mk_ hsh
  have HA := Hid.mk_ hA
  have HR := Hid.mk_ hRR
  have HRE := Hid.mk_ hRe
  have HHas := Hid.mk_ (fun (q : Nat) (v : Int) => quietly q (has_ra (h.quiet q) v))
  have HLev := Hid.mk_ (fun (q : Nat) (v : Int) => quietly q (level_ra (h.quiet q) v))
  have t0 : ((ks.length : Int) != (ks.length : Int)) = false := by simp
  have d1n : ¬ S.length ≤ i := by omega
  clear hsc hRR hR hRe hA hsh hx hrow hrv
  go_enter Try.func18, Try.ntmps18
  go_wp2_with fail
  go_loopw [8, 9] (fun x8 x9 wr => ∃ (k q : Nat), k ≤ ks.length ∧ x8 = .bool (oneK ks k) ∧ x9 = .int .i64 (k : Int) ∧ Hid (lowK S (nds L) (i : Int) ks k) ∧ wr = w.drewN q) (fun _ x9 _ => ks.length - (intOf x9).toNat)
  case atStart => exact ⟨0, 0, Nat.zero_le _, by rw [oneK_zero], rfl, lowK_zero .., rfl⟩
  case round =>
    obtain ⟨k, q, hk, rfl, rfl, hT, rfl⟩ := hrel
    obtain ⟨o, ho⟩ : ∃ o, o = oneK ks k := ⟨_, rfl⟩
    rw [← ho]
    have HO := Hid.mk_ ho
    clear ho
    by_cases hlt : k < ks.length
    · have hlt1 : (k : Int) < ks.length := by omega
      have hlt0 : (0 : Int) < ks.length := by omega
      obtain ⟨g, o', rfl, _, hc⟩ := HA.out.2 (by omega)
      have c1 := hc k hlt
      have c2 := hc 0 (by omega)
      obtain ⟨v, hv⟩ : ∃ v, v = ks[k]'hlt := ⟨_, rfl⟩
      obtain ⟨y, hy⟩ : ∃ y, y = ks.headD 0 := ⟨_, rfl⟩
      have hy0 : ks[0]'(by omega) = y := by rw [hy]; cases ks with | nil => simp at hlt | cons a l => rfl
      rw [← hv] at c1
      rw [hy0] at c2
      have c2' : w.cell? ⟨g, o', none⟩ = some (.int .i64 y) := by simpa using c2
      have HV := Hid.mk_ hv
      have HY := Hid.mk_ hy
      have hmem : v ∈ ks := by rw [hv]; exact List.getElem_mem hlt
      have HM := Hid.mk_ hmem
      have H1 := Hid.mk_ (fun q => HHas.out q v)
      have H2 := Hid.mk_ (fun q => HLev.out q v)
      clear hv hy hy0 hc hmem
      cases hh : hasA (nds L) v with
      | false =>
        rw [hh] at H1
        have HE := Hid.mk_ (make_bad (M := M) (may_bad (S := S) (N := nds L) (lv := (i : Int)) v HM.out (low_nh hh)))
        clear hh
        go_wp2_with (go_at_call 48; (with_reducible refine (H1.out _).mono ?_); rintro e w' ⟨rfl, q', rfl⟩)
        go_ret2
        refine ⟨by rw [HE.out]; rfl, ?_⟩
        rw [HE.out]
        exact HH.out.grew (Drawn_below _ _)
      | true =>
        rw [hh] at H1
        have HHA := Hid.mk_ hh
        clear hh
        obtain ⟨z, hz⟩ : ∃ z, z = lvl S.length (nds L) v := ⟨_, rfl⟩
        rw [← hz] at H2
        by_cases hzl : z ≤ (i : Int)
        · have HE := Hid.mk_ (make_bad (M := M) (may_bad (S := S) (N := nds L) (lv := (i : Int)) v HM.out (low_no (by rw [← hz]; exact hzl))))
          clear hz
          go_wp2_with (first
            | (go_at_call 48; (with_reducible refine (H1.out _).mono ?_); rintro e w' ⟨rfl, q', rfl⟩)
            | (go_at_call 49; (with_reducible refine (H2.out _).mono ?_); rintro e w' ⟨rfl, q', rfl⟩))
          go_ret2
          refine ⟨by rw [HE.out]; rfl, ?_⟩
          rw [HE.out]
          exact HH.out.grew (Drawn_below _ _)
        · have hnx := lowK_succ hlt hT.out (low_of (by rw [← HV.out]; exact HHA.out) (by rw [← HV.out, ← hz]; omega))
          have HN := Hid.mk_ hnx
          have hsu := oneK_succ ks k hlt
          rw [← HO.out, ← HV.out, ← HY.out] at hsu
          clear hz hnx
          cases o with
          | false =>
            have HS := Hid.mk_ hsu
            clear hsu
            go_wp2_with (first
              | (go_at_call 48; (with_reducible refine (H1.out _).mono ?_); rintro e w' ⟨rfl, q', rfl⟩)
              | (go_at_call 49; (with_reducible refine (H2.out _).mono ?_); rintro e w' ⟨rfl, q', rfl⟩))
            go_big_quiet (fail)
            go_wp2_with fail
            go_roundw
            case rel => exact ⟨k + 1, _, by omega, by rw [HS.out]; rfl, by go_num, HN.out, rfl⟩
            case measure => simp [intOf]; omega
          | true =>
            by_cases hvy : v = y
            · have HS := Hid.mk_ hsu
              have HVY := Hid.mk_ hvy
              have s1 : (v == y) = true := by simpa using hvy
              have s2 : decide (v = y) = true := by simpa using hvy
              clear hsu hvy
              go_wp2_with (first
                | (go_at_call 48; (with_reducible refine (H1.out _).mono ?_); rintro e w' ⟨rfl, q', rfl⟩)
                | (go_at_call 49; (with_reducible refine (H2.out _).mono ?_); rintro e w' ⟨rfl, q', rfl⟩))
              go_big_quiet (fail)
              go_wp2_with fail
              go_roundw
              case rel => exact ⟨k + 1, _, by omega, by rw [HS.out, decide_eq_true HVY.out]; rfl, by go_num, HN.out, rfl⟩
              case measure => simp [intOf]; omega
            · have HS := Hid.mk_ hsu
              have HVY := Hid.mk_ hvy
              have s1 : (v == y) = false := by simpa using hvy
              have s2 : decide (v = y) = false := by simpa using hvy
              clear hsu hvy
              go_wp2_with (first
                | (go_at_call 48; (with_reducible refine (H1.out _).mono ?_); rintro e w' ⟨rfl, q', rfl⟩)
                | (go_at_call 49; (with_reducible refine (H2.out _).mono ?_); rintro e w' ⟨rfl, q', rfl⟩))
              go_big_quiet (fail)
              go_wp2_with fail
              go_roundw
              case rel => exact ⟨k + 1, _, by omega, by rw [HS.out, decide_eq_false HVY.out]; rfl, by go_num, HN.out, rfl⟩
              case measure => simp [intOf]; omega
    · have hge : ¬ ((k : Int) < ks.length) := by omega
      have ek : k = ks.length := by omega
      subst ek
      have hlow : ks.all (lowA S (nds L) (i : Int)) = true := by have := hT.out; unfold lowK at this; rwa [List.take_length] at this
      have hmay := may_all HSH.out hlow
      have hone : oneA ks = o := by rw [← oneK_len, HO.out]
      have HMAY := Hid.mk_ hmay
      have HONE := Hid.mk_ hone
      clear hlow hmay hone
      cases o with
      | true =>
        have hlt0 : (0 : Int) < ks.length := by omega
        obtain ⟨g, o', rfl, _, hc⟩ := HA.out.2 (by omega)
        have c2 := hc 0 (by omega)
        obtain ⟨y, hy⟩ : ∃ y, y = ks.headD 0 := ⟨_, rfl⟩
        have hy0 : ks[0]'(by omega) = y := by rw [hy]; cases ks with | nil => simp at hlt0 | cons a l => rfl
        rw [hy0] at c2
        have c2' : w.cell? ⟨g, o', none⟩ = some (.int .i64 y) := by simpa using c2
        have HE := Hid.mk_ (make_one (M := M) HMAY.out HONE.out)
        rw [← hy] at HE
        clear hy hy0 hc
        go_wp2_with fail
        go_ret2
        refine ⟨by rw [HE.out]; rfl, ?_⟩
        rw [HE.out]
        exact HH.out.grew (Drawn_below _ _)
      | false =>
        go_wp2_with fail
        go_loopw [11] (fun x11 wr => ∃ (j q : Nat), j ≤ R.length ∧ x11 = .int .i64 (j : Int) ∧ Hid (missK (nds L) R ks j) ∧ wr = w.drewN q) (fun x11 _ => R.length - (intOf x11).toNat)
        case atStart => exact ⟨0, q, Nat.zero_le _, rfl, missK_zero _ _ _, rfl⟩
        case round =>
          obtain ⟨j, q2, hj, rfl, hT2, rfl⟩ := hrel
          by_cases hlt : j < R.length
          · have hlt1 : (j : Int) < R.length := by omega
            obtain ⟨gR, cR', eR, hgR, hcR⟩ := HR.out.some_ (by omega)
            cases eR
            obtain ⟨idx, hidx, hRj, hlvj⟩ := refs_mem.1 (show R[j]'hlt ∈ refs (nds L) (i : Int) by rw [← HRE.out]; exact List.getElem_mem hlt)
            rw [nds_length] at hidx
            have r0 : w.cell? ⟨gR, j, none⟩ = some (.int .i64 ((idx : Int) + 2)) := by
              rw [HR.out.cell j (by omega)]; simp [hlt, hRj]
            obtain ⟨gn, cn, en, hgn, hv0, hv1⟩ := row_lv HH.out.row idx hidx
            cases en
            obtain ⟨gk, ck, ekv, hck, hgz2, hgkl, hints⟩ := (HH.out.kid _ (List.getElem_mem hidx)).ints
            rw [nds_get L idx hidx] at hlvj
            have hkn := may_shape (HH.out.good.each idx (by rw [nds_length]; exact hidx)).1
            rw [nds_get L idx hidx, hlvj, Int.toNat_natCast, getD_mem hi] at hkn
            have hkl : (L[idx]'hidx).1.ks.length = ks.length := by
              have h1 := may_shape HMAY.out
              rw [Int.toNat_natCast, getD_mem hi] at h1
              omega
            rw [ekv, hkl] at hv1
            have HS := Hid.mk_ (fun q => rsame_any (some ⟨gk, 0, none⟩) A ck c (L[idx]'hidx).1.ks ks hkl (w.drewN q) (hints.move (Nat.le_refl _) (fun _ _ _ _ => rfl)) (HA.out.move (Nat.le_refl _) (fun _ _ _ _ => rfl)))
            rw [hkl] at HS
            have HS2 := Hid.mk_ (fun q => (HS.out (q2 + q)).mono (R' := fun e w' => e = .returned (.bool (decide ((L[idx]'hidx).1.ks = ks))) ∧ ∃ m, w' = w.drewN (q2 + m)) fun e w' h => ⟨h.1, by obtain ⟨m, hm⟩ := h.2; exact ⟨q + m, by rw [hm, World.drewN_drewN, Nat.add_assoc]⟩⟩)
            have e1 : (idx : Int) + 2 - 2 = idx := by omega
            have hi1 : (idx : Int) < L.length := by omega
            have hw1 : IntKind.i64.wrap (idx : Int) = idx := by rw [IntKind.wrap_i64]; omega
            have HKN := Hid.mk_ (show ((nds L)[idx]'(by rw [nds_length]; exact hidx)).ks = (L[idx]'hidx).1.ks ∧ ((nds L)[idx]'(by rw [nds_length]; exact hidx)).lv = (i : Int) by rw [nds_get L idx hidx]; exact ⟨rfl, hlvj⟩)
            have HRJ := Hid.mk_ hRj
            obtain ⟨kj, hkj⟩ : ∃ kj, kj = (L[idx]'hidx).1.ks := ⟨_, rfl⟩
            rw [← hkj] at HS2 HKN
            clear hRj hv0 hkj ekv hints hkn hkl HS
            by_cases hks : kj = ks
            · have HE := Hid.mk_ (make_old (M := M) HMAY.out HONE.out HH.out.good.nodup (by rw [nds_length]; exact hidx) HKN.out.2 (by rw [HKN.out.1, hks]))
              rw [decide_eq_true hks] at HS2
              clear hks
              go_wp2_with fail
              go_big_quiet ((go_at_call 50; with_reducible exact HS2.out _))
              go_wp2_with fail
              go_ret2
              refine ⟨by rw [HE.out]; rfl, ?_⟩
              rw [HE.out]
              exact HH.out.grew (Drawn_below _ _)
            · have hmn := missK_succ hlt hT2.out (by rw [nds_length]; exact hidx) HRJ.out (by rw [HKN.out.1]; exact hks)
              have HMN := Hid.mk_ hmn
              rw [decide_eq_false hks] at HS2
              clear hks hmn
              go_wp2_with fail
              go_big_quiet ((go_at_call 50; with_reducible exact HS2.out _))
              go_wp2_with fail
              go_roundw
              case rel => exact ⟨j + 1, _, by omega, by go_num, HMN.out, rfl⟩
              case measure => simp [intOf]; omega
          · have hge : ¬ ((j : Int) < R.length) := by omega
            have hnone : (⟨(i : Int), ks⟩ : Nd) ∉ nds L := refs_none (fun f hf => hT2.out f (by rw [List.take_of_length_le (by omega), HRE.out]; exact hf))
            have hlm := HH.out.good.len
            rw [nds_length] at hlm
            by_cases hM : (L.length : Int) = M
            · have s1 : ((L.length : Int) == M) = true := by simpa using hM
              have s2 : decide ((L.length : Int) = M) = true := by simpa using hM
              have HE := Hid.mk_ (make_full (M := M) HMAY.out HONE.out hnone (by rw [nds_length]; exact hM))
              clear hnone hM
              go_wp2_with fail
              go_big_quiet (fail)
              go_wp2_with fail
              go_ret2
              refine ⟨by rw [HE.out]; rfl, ?_⟩
              rw [HE.out]
              exact HH.out.grew ((Drawn_below _ _).trans (Drawn_below _ _))
            · have s1 : ((L.length : Int) == M) = false := by simpa using hM
              have s2 : decide ((L.length : Int) = M) = false := by simpa using hM
              have HE := Hid.mk_ (make_new (M := M) HMAY.out HONE.out hnone (by rw [nds_length]; omega))
              have HGD := Hid.mk_ (HH.out.good.snoc HMAY.out HONE.out hnone (by rw [nds_length]; omega))
              have hMlt : (L.length : Int) < M := by omega
              clear hnone hM
              obtain ⟨i3, hi3, ha0, ha1, ha2⟩ := info_parts Try.info3
              obtain ⟨i47, hi47, hz0, hz1, hz2⟩ := info_parts Try.info55
              obtain ⟨g, o', rfl, hgA, hc⟩ := HA.out.2 (by omega)
              have hnews : ∀ (W : World), Below w.heap.size w W → ∀ jj u, (ks.map (Value.int .i64))[jj]? = some u → W.cell? ((⟨g, o', none⟩ : Addr).add jj) = some u := fun W hW jj u hu => by
                rw [Addr.add_lit, hW.cell (p := ⟨g, o' + jj, none⟩) hgA]
                obtain ⟨hjl, e⟩ := List.getElem?_eq_some_iff.1 hu
                rw [List.length_map] at hjl
                rw [List.getElem_map] at e
                rw [← e]
                exact hc jj hjl
              have HNW := Hid.mk_ hnews
              have HRow := Hid.mk_ (fun (W : World) (hW : Below w.heap.size w W) => (HH.out.new hW).row)
              have HC2 := Hid.mk_ (fun (W : World) (hW : Below w.heap.size w W) => (HH.out.new hW).c2)
              have HAB := Hid.mk_ HH.out.apartB
              have HBlk := Hid.mk_ (fun (W : World) (hW : Below w.heap.size w W) => (HH.out.new hW).blk)
              clear hc hnews
              go_wp2_with fail
              go_big_quiet (fail)
              go_wp2_with fail
              have hbW : Below w.heap.size w (w.drewN (q2 + nq)) := Drawn_below _ _
              obtain ⟨W, hW⟩ : ∃ W, W = w.drewN (q2 + nq) := ⟨_, rfl⟩
              rw [World.drewN_drewN, ← hW]
              rw [← hW] at hbW
              have y2 := HC2.out _ hbW
              have hbWd : Below w.heap.size w W.drew := hbW.trans (Drawn_below W 1)
              clear hW k0 k1 k2 k3 kl
              go_upto_region 22 with fail
              go_cut [] from 129 to 142 (fun wx => Laid w b L (.slice A0 L.length c0) (i : Int) ks wx)
              case first =>
                have tok1 : True := trivial
                go_region_law (first
                  | (have _t := tok1; refine step_append_row _ ?_ (.tmp 135) (.tmp 136) 22 ?_ 3 i3 (.int .i64 0) 1 8 Try.underlying22 hi3 ha0 ha1 ha2 rfl (by omega) (.slice none 0 0) 0 [] ?_ (Row.nil _ _ _) ⟨g, o', none⟩ ks.length c (ks.map (Value.int .i64)) ?_ (by simp) (HNW.out _ hbWd) (by simp [Value.oneCell']) (by omega) (by unfold maxLen; omega) (by omega) (W.heap.size) rfl ?_; rfl; rfl; go_simp; go_simp; intro g6 c6 w6 hrow6 hgrow6 hloc6 hlt6; have hb6 : Below w.heap.size w w6 := hbWd.grown hgrow6 hbWd.size (fun k hk => by cases hk); have z6 := HC2.out _ hb6; have l6 := (HBlk.out _ hb6).lt; clear tok1)
                  | (refine step_append_row _ ?_ (.tmp 133) (.tmp 139) 74 ?_ 55 i47 _ 2 32 Try.underlying74 hi47 hz0 hz1 hz2 rfl (by omega) (.slice A0 L.length c0) L.length (ndCells L) ?_ ((HRow.out _ hb6).alloc _) ⟨w6.heap.size, 0, none⟩ 1 1 [.int .i64 (i : Int), .slice (some ⟨g6, 0, none⟩) ks.length c6] ?_ (by rfl) (two_cells w6 _ _ _ rfl) (by simp [Value.oneCell']) (by omega) (by unfold maxLen; omega) (by omega) (w6.heap.size + 1) (by simp) ?_; rfl; rfl; go_simp; go_simp; intro g7 c7 w7 hrow7 hgrow7 hloc7 hlt7; have b7 := ((HBlk.out _ hb6).alloc _).grown hgrow7 (fun e => HAB.out.1 e.symm); have z7 := b7.cell 2; have f7 := b7.free 2; have l7 := b7.lt))
                all_goals (
                  go_wp2_with fail
                  go_meet
                  refine ⟨g6, c6, w6, g7, c7, w7, hb6, by rw [Nat.zero_add, List.nil_append] at hrow6; exact hrow6, ?_, hrow7, ((Mods.refl _ w6).alloc _).grown hgrow7 (fun k e _ => e.symm ▸ rfl), ?_, rfl⟩
                  · have := hbW.size
                    rcases hloc6 with e | e
                    · cases e
                    · omega
                  · rcases hloc7 with e | e
                    · exact .inl e
                    · exact .inr (by omega))
              case rest =>
                obtain ⟨g6, c6, w6, g7, c7, w7, hb6, hrow6, hg6, hrow7, hm7, hloc7, hwc⟩ := hcut
                obtain ⟨b8, l8, r8⟩ := HH.out.after (nv' := .slice (some ⟨g7, 0, none⟩) (L.length + 1) c7) hb6 hm7
                have y82 := b8.cell 2
                have y83 := b8.cell 3
                have hrr8 : Row (w7.setCell ⟨b, 2, none⟩ (.slice (some ⟨g7, 0, none⟩) (L.length + 1) c7)) 3 1 (.slice AR R.length cR) R.length (R.map (Value.int .i64)) := by
                  have := r8 i hir; rw [HRV.out, ← HRE.out] at this; exact this
                have kl8 : (w7.setCell ⟨b, 2, none⟩ (.slice (some ⟨g7, 0, none⟩) (L.length + 1) c7)).cell? ⟨gl, i, none⟩ = some (.slice AR R.length cR) := by
                  rw [l8.cell i (by omega)]; simp only [List.getElem?_eq_getElem hir, HRV.out, ← HRE.out]
                have hs8 : w7.heap.size ≤ (w7.setCell ⟨b, 2, none⟩ (.slice (some ⟨g7, 0, none⟩) (L.length + 1) c7)).heap.size := by simp [World.setCell]
                obtain ⟨w8, rfl⟩ : ∃ w8, w8 = wc := ⟨_, rfl⟩
                have hw8 := hwc
                rw [← hw8] at b8 l8 r8 y82 y83 hrr8 kl8 hs8
                clear hwc
                have HW8 := Hid.mk_ hw8
                have q1 := b8.lt
                have q2 := l8.lt gl rfl
                have q3 := l8.free i
                have HL8 := Hid.mk_ l8
                have HB8 := Hid.mk_ b8
                clear hw8 r8 l8
                go_wp2_with fail
                have hw3 : IntKind.i64.wrap ((L.length : Int) + 1 + 1) = L.length + 1 + 1 := by rw [IntKind.wrap_i64]; omega
                go_region_law (first
                  | (refine step_append_row _ ?_ (.tmp 154) (.tmp 161) 22 ?_ 3 i3 (.int .i64 0) 1 8 Try.underlying22 hi3 ha0 ha1 ha2 rfl (by omega) (.slice AR R.length cR) R.length (R.map (Value.int .i64)) ?_ (Row.drew (hrr8.alloc _)) ⟨w8.heap.size, 0, none⟩ 1 1 [.int .i64 ((L.length : Int) + 1 + 1)] ?_ (by rfl) (fun jj u hj => one_cells_at w8 _ _ rfl jj u hj) (by simp [Value.oneCell']) (by omega) (by unfold maxLen; omega) (by omega) (w8.heap.size + 1) (by simp) ?_; rfl; rfl; go_simp; go_simp; intro g9 c9 w9 hrow9 hgrow9 hloc9 hlt9; have hm9 : Mods (fun k => (rows[i]'hir).ownBlock = some k) w8 w9 := (Mods.drew ((Mods.refl _ w8).alloc _)).grown hgrow9 (fun k e _ => by rw [HRV.out, ← HRE.out]; exact e); have k93 := (HB8.out.mods hm9 (fun e => HAB.out.2.2.1 i hir e)).cell 3; have hgg := hm9.block gl q2 (fun e => HAB.out.2.2.2.2.2 gl i hir rfl e); have k9 := (World.cell?_of_block (a := ⟨gl, i, none⟩) hgg).trans kl8; have f9 := (World.frozen?_of_block (a := ⟨gl, i, none⟩) hgg).trans q3))
                all_goals (
                  have b9 := HB8.out.mods hm9 (fun e => HAB.out.2.2.1 i hir e)
                  have b10 := b9.far (p := ⟨gl, i, none⟩) (fun e => HAB.out.2.1 (by rw [e]; rfl)) (.slice (some ⟨g9, 0, none⟩) (R.length + 1) c9)
                  have y10 := b10.cell 2
                  clear kl8 k9 f9 y82 y83
                  go_wp2_with fail
                  go_ret2
                  refine ⟨by rw [HE.out, nds_length]; rfl, ?_⟩
                  rw [HE.out]
                  have hre := HRE.out
                  subst hre
                  have hw8 := HW8.out
                  subst hw8
                  rw [show (L.length : Int) + 1 + 1 = L.length + 2 by omega] at hrow9
                  refine RA.snoc (nd := ⟨(i : Int), ks⟩) HH.out hir rfl hb6 hrow6 hg6 (by show ks.length ≤ 256; omega) hrow7 rfl hm7 hloc7 hrow9 rfl hm9 ?_ HGD.out
                  rcases hloc9 with e | e
                  · exact .inl (by rw [HRV.out]; exact e)
                  · exact .inr (by omega))
end
end Go.Proofs.Ytmfdcaalbpikpaa
