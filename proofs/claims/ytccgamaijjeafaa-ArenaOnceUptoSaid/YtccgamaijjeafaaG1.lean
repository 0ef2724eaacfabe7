/- ArenaOnce: what a ref says of raw classes. -/
import Derived.Test.YtccgamaijjeafaaF2
namespace Go.Proofs.Ytccgamaijjeafaa
open Go.RowKit
set_option linter.unusedVariables false
set_option linter.unusedSimpArgs false
def clsS (S pt : List Int) (nd : Nd) : Nat := if nd.lv < (pt.length : Int) then (pickI (pt.getD nd.lv.toNat 0) (S.getD nd.lv.toNat 0)).toNat else 0
def nextS (N : List Nd) (S pt : List Int) (f : Int) : Int := (N.getD (f - 2).toNat ⟨-1, []⟩).ks.getD (clsS S pt (N.getD (f - 2).toNat ⟨-1, []⟩)) 0
def saysF (N : List Nd) (S pt : List Int) : Nat → Int → Bool
  | 0, f => decide (f = 1)
  | k + 1, f => if 1 < f then saysF N S pt k (nextS N S pt f) else decide (f = 1)
theorem saysF_low {N : List Nd} {S pt : List Int} {f : Int} (h : f ≤ 1) : ∀ k, saysF N S pt k f = decide (f = 1)
  | 0 => rfl
  | k + 1 => by unfold saysF; rw [if_neg (by omega)]
def saysV (N : List Nd) (S pt : List Int) (f : Int) : Bool := saysF N S pt f.toNat f
/-- nodes as a list of one's own has them -/
structure NList (w : World) (nv : Value) (L : List (Nd × Value)) : Prop where
  row : Row w 47 2 nv L.length (ndCells L)
  each : ∀ p ∈ L, Row w 3 1 p.2 p.1.ks.length (p.1.ks.map (Value.int .i64))
section
variable {w w' : World} {nv : Value} {L : List (Nd × Value)} {S pt : List Int} {M : Int}
theorem NList.move (h : NList w nv L) (hm : ∀ k, nv.ownBlock = some k ∨ (∃ p ∈ L, p.2.ownBlock = some k) → w'.heap[k]? = w.heap[k]?) : NList w' nv L :=
  ⟨h.row.move fun k hk => hm k (.inl hk), fun p hp => (h.each p hp).move fun k hk => hm k (.inr ⟨p, hp, hk⟩)⟩
theorem NList.new (h : NList w nv L) (hb : Below w.heap.size w w') : NList w' nv L := h.move fun k hk => by
  rcases hk with hk | ⟨p, hp, hk⟩
  · exact hb.block k (h.row.lt k hk)
  · exact hb.block k ((h.each p hp).lt k hk)
theorem cls_lt (hg : Good S M (nds L)) (i : Nat) (hi : i < L.length) : clsS S pt (L[i]'hi).1 < (L[i]'hi).1.ks.length := by
  have h1 := hg.each i (by rw [nds_length]; exact hi)
  rw [nds_get L i hi] at h1
  obtain ⟨a, b, c⟩ := may_shape h1.1
  have h2 := may_len hg.toSized h1.1
  unfold clsS
  split
  · have := pickI_range (pt.getD (L[i]'hi).1.lv.toNat 0) (S.getD (L[i]'hi).1.lv.toNat 0) (by omega)
    omega
  · omega
set_option maxHeartbeats 2000000 in
theorem says_any {AS AP : Option Addr} {cS cP : Nat} (hn : NList w nv L) (hg : Good S M (nds L)) (hS : IntsIn w AS S) (hp : IntsIn w AP pt) (hi : ∀ x ∈ pt, i64 x) (f : Int) (hf0 : 0 ≤ f) (hf1 : f < L.length + 2) :
    Calls Try.prog 17 #[nv, .slice AS S.length cS, .int .i64 f, .slice AP pt.length cP] w fun e w' => e = .returned (.bool (saysV (nds L) S pt f)) ∧ Below w.heap.size w w' := by
  have HN := Hid.mk_ hn
  have HG := Hid.mk_ hg
  have HS := Hid.mk_ hS
  have HP := Hid.mk_ hp
  have HI := Hid.mk_ hi
  have hlp := hp.1
  have hl8 := len8 hg
  obtain ⟨r, hr⟩ : ∃ r, r = saysV (nds L) S pt f := ⟨_, rfl⟩
  rw [← hr]
  have HR := Hid.mk_ hr
  obtain ⟨An, cn, hnv⟩ := hn.row.shape
  subst hnv
  clear hn hg hS hp hi hr
  go_enter Try.func17, Try.ntmps17
  go_wp2_with fail
  go_loopw [2] (fun x2 wr => ∃ (k : Nat) (f' : Int), 0 ≤ f' ∧ f' < L.length + 2 ∧ f'.toNat ≤ k ∧ x2 = .int .i64 f' ∧ Hid (saysF (nds L) S pt k f' = r) ∧ Hid (Below w.heap.size w wr)) (fun x2 _ => (intOf x2).toNat)
  case atStart => exact ⟨f.toNat, f, hf0, hf1, Nat.le_refl _, rfl, HR.out.symm, Below.refl _ _⟩
  case round =>
    obtain ⟨k, f', h0, h1, hk, rfl, HF, HB⟩ := hrel
    by_cases hgt : 1 < f'
    · obtain ⟨i, rfl⟩ : ∃ i : Nat, f' = (i : Int) + 2 := ⟨(f' - 2).toNat, by omega⟩
      have hil : i < L.length := by omega
      obtain ⟨k', rfl⟩ : ∃ k', k = k' + 1 := ⟨k - 1, by omega⟩
      have hnw := HN.out.new HB.out
      obtain ⟨gn, cn', en, hgn, v0, v1⟩ := row_lv hnw.row i hil
      cases en
      have hnx : saysF (nds L) S pt k' (nextS (nds L) S pt ((i : Int) + 2)) = r := by
        have := HF.out
        unfold saysF at this
        rwa [if_pos hgt] at this
      have e2 : ((i : Int) + 2 - 2).toNat = i := by omega
      have hnd : (nds L).getD ((i : Int) + 2 - 2).toNat ⟨-1, []⟩ = (L[i]'hil).1 := by rw [e2, getD_get (by rw [nds_length]; exact hil), nds_get L i hil]
      have hcl := cls_lt (pt := pt) HG.out i hil
      have hnxe : nextS (nds L) S pt ((i : Int) + 2) = (L[i]'hil).1.ks[clsS S pt (L[i]'hil).1]'hcl := by
        unfold nextS
        rw [hnd, getD_mem hcl]
      rw [hnxe] at hnx
      have hlow := HG.out.low i (by rw [nds_length]; exact hil) (k := (L[i]'hil).1.ks[clsS S pt (L[i]'hil).1]'hcl) (by rw [nds_get L i hil]; exact List.getElem_mem hcl)
      have hsh := may_shape (HG.out.each i (by rw [nds_length]; exact hil)).1
      rw [nds_get L i hil] at hsh
      have hs2 := HG.out.toSized.s2
      have hkr := hnw.each _ (List.getElem_mem hil)
      obtain ⟨gk, ck, ekv, hgk, _⟩ := hkr.some_ (by omega)
      rw [ekv] at hkr v1
      have y0 := hkr.cellsIn _ hcl
      have HNX := Hid.mk_ hnx
      obtain ⟨nd, hnde⟩ : ∃ nd, nd = (L[i]'hil).1 := ⟨_, rfl⟩
      rw [← hnde] at v0 v1 hsh hcl
      have HSH := Hid.mk_ hsh
      obtain ⟨lv, hlv⟩ : ∃ lv : Nat, (lv : Int) = nd.lv := ⟨nd.lv.toNat, by omega⟩
      rw [← hlv] at v0
      obtain ⟨m, hm⟩ : ∃ m, m = clsS S pt nd := ⟨_, rfl⟩
      have hm2 : m < nd.ks.length := by rw [hm]; exact hcl
      obtain ⟨x, hx⟩ : ∃ x, x = (L[i]'hil).1.ks[clsS S pt (L[i]'hil).1]'(cls_lt (pt := pt) HG.out i hil) := ⟨_, rfl⟩
      rw [← hx] at y0 hlow HNX
      have y1 : wr.cell? ⟨gk, m, none⟩ = some (.int .i64 x) := by rw [hm, hnde]; exact y0
      obtain ⟨l, hl⟩ : ∃ l, l = nd.ks.length := ⟨_, rfl⟩
      rw [← hl] at v1 hm2
      have e1 : (i : Int) + 2 - 2 = i := by omega
      have hi1 : (i : Int) < L.length := by omega
      have hw1 : IntKind.i64.wrap (i : Int) = i := by rw [IntKind.wrap_i64]; omega
      have hm3 : (m : Int) < l := by omega
      have hcm : m = if (lv : Int) < pt.length then (pickI (pt.getD lv 0) (S.getD lv 0)).toNat else 0 := by
        rw [hm]; unfold clsS; rw [← hlv, Int.toNat_natCast]
      have HCM := Hid.mk_ hcm
      have hlS : lv < S.length := by omega
      have hSl : (l : Int) = S[lv]'hlS := by
        have := HSH.out.2.2
        rw [← hlv, Int.toNat_natCast, getD_mem hlS] at this
        omega
      have HSL := Hid.mk_ hSl
      have HLOW := Hid.mk_ hlow
      have hl256 : 1 ≤ l ∧ l ≤ 256 := by have := HG.out.toSized.at_ lv hlS; omega
      clear hnw hnx e2 hnd hnxe hsh hkr hx hnde hlv hm hl hcm y0 hcl hSl hlow ekv
      by_cases hpt : lv < pt.length
      · have hpt1 : (lv : Int) < pt.length := by omega
        obtain ⟨gp, op, rfl, hgp, hcp⟩ := HP.out.2 (by omega)
        obtain ⟨gS, oS, rfl, hgS, hcS⟩ := HS.out.2 (by omega)
        have p0 := (HB.out.cell (p := ⟨gp, op + lv, none⟩) hgp).trans (hcp lv hpt)
        have s0 := (HB.out.cell (p := ⟨gS, oS + lv, none⟩) hgS).trans (hcS lv hlS)
        have hgp2 := Nat.lt_of_lt_of_le hgp HB.out.size
        have hgS2 := Nat.lt_of_lt_of_le hgS HB.out.size
        rw [← HSL.out] at s0
        have hlS1 : (lv : Int) < S.length := by omega
        have hmv : (m : Int) = pickI (pt[lv]'hpt) l := by
          have h2 := HCM.out
          rw [if_pos hpt1, getD_mem hpt, getD_mem hlS, ← HSL.out] at h2
          have := pickI_range (pt[lv]'hpt) l (by omega)
          omega
        have hpi := HI.out _ (List.getElem_mem hpt)
        obtain ⟨pv, hpv⟩ : ∃ pv, pv = pt[lv]'hpt := ⟨_, rfl⟩
        rw [← hpv] at p0 hmv hpi
        have HPK := Hid.mk_ (fun (W : World) (q : Nat) => pick_quiet (w := W) hmv (by omega) hpi q)
        clear hcp hcS hmv hpv hpi
        go_wp2_with fail
        go_big_quiet ((go_at_call 11; with_reducible exact HPK.out _ _))
        go_wp2_with fail
        go_roundw
        case rel => exact ⟨k', x, HLOW.out.1, by have := HLOW.out.2.1; omega, by have := HLOW.out.2.1; omega, rfl, HNX.out, (HB.out.alloc HB.out.size _).trans (Drawn_below _ _)⟩
        case measure => simp [intOf]; have := HLOW.out; omega
      · have hpt1 : ¬ (lv : Int) < pt.length := by omega
        have hm0 : m = 0 := by have := HCM.out; rw [if_neg hpt1] at this; exact this
        subst hm0
        go_wp2_with fail
        go_roundw
        case rel => exact ⟨k', x, HLOW.out.1, by have := HLOW.out.2.1; omega, by have := HLOW.out.2.1; omega, rfl, HNX.out, HB.out.alloc HB.out.size _⟩
        case measure => simp [intOf]; have := HLOW.out; omega
    · have h2 := HF.out
      rw [saysF_low (by omega)] at h2
      have HH := Hid.mk_ h2
      clear h2
      go_wp2_with fail
      go_ret
      exact ⟨by rw [← HH.out]; rfl, HB.out⟩
end
end Go.Proofs.Ytccgamaijjeafaa
