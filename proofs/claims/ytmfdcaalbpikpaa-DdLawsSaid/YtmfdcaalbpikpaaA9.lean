/- Back. -/
import Derived.Test.YtmfdcaalbpikpaaA8
import Derived.LoopN
namespace Go.Proofs.Ytmfdcaalbpikpaa
open Go.RowKit Go.WideMaps Go.Maps
open Go.WideElems (rg)
set_option linter.unusedVariables false
set_option linter.unusedSimpArgs false
def backA (N : List Nd) (n : Int) : List Nd × Int := if 0 ≤ n ∧ n ≤ (N.length : Int) then (N.take n.toNat, 0) else (N, 1)
theorem step_delete_own {H : Type} {P : Program} {w : World} {ops : Array Oper} {o : Oper} {a : Act} {K0 : Act → World → Prop} {Q : Exit → Act → World → Prop} {E : Prop} (hg : o.guard = none) (m x : Operand) (t k : TypeId)
    (hop : o.op = Op.call { callee := Callee.builtin Builtin.delete, args := #[m, x], argTypes := #[t, k] })
    (e : TypeId) (K : Keyed P k) (ht : P.underlying t = some (.map k e)) (R : Value → Option (DataW H × List MemPlace)) (b n : Nat) (D : DataW H)
    (hm : a.eval m = .map (some b)) (hown : w.ownsMap P k R b n D) (key : Value) (kl : Lit) (hx : a.eval x = key) (hkey : keyOf P k key = some kl)
    (hK : ∀ w', w'.ownsMap P k R b n (D.del kl) → w.mapTurned w' b → K0 (a.put o.dst (.tuple #[])) w') :
    if Region.wanted o (yielded ops a.tmps) = true then Oper.wp P o a w K0 Q else E := by
  rw [if_pos (by simp [Region.wanted, hg])]
  obtain ⟨w', hrun, r1, r2⟩ := hown.drop K ht hkey o.type
  unfold Oper.wp
  simp [execOp, hop, resolve, invoke, builtin, hm, hx, hrun, Result.andThen]
  exact hK w' r1 r2
section
variable {w : World} {b : Nat} {S : List Int} {M : Int} {L : List (Nd × Value)} {nv sv : Value} {mb : Nat} {cz : List Nat}
theorem owns_size {D : DataW Unit} {n : Nat} (h : w.ownsMap Try.prog 9 (plainElem Try.prog 3) mb n D) {m : Nat} (hm : size D ≤ m) : w.ownsMap Try.prog 9 (plainElem Try.prog 3) mb m D := by
  obtain ⟨es, clock, hb, F, hs, hD⟩ := h
  refine ⟨es, clock, hb, F, ?_, hD⟩
  rw [hD, size_eq, length_sorted] at hm
  simpa using hm
theorem Row.cut {e : TypeId} {size n k : Nat} {A : Option Addr} {c : Nat} {xs : List Value} (h : Row w e size (.slice A n c) n xs) (hk : k ≤ n) : Row w e size (.slice A k c) k (xs.take (k * size)) := by
  have hc := h.capLe
  rcases h.2 with ⟨h', h0⟩ | ⟨g', cap', cur, h', hg, hnc, hcm, hcs, htake⟩
  · cases h'
    have : k = 0 := by omega
    subst this
    have hx : xs = [] := List.eq_nil_of_length_eq_zero (by have := h.1; omega)
    subst hx
    simpa using Row.nil w e size
  · cases h'
    exact h.first hk (by omega) (Nat.le_refl _)
theorem PA.cut {w0 : World} {A : Option Addr} {c m : Nat} {D : DataW Unit} (h : PA w0 b S M L (.slice A L.length c) sv mb cz) (hM : Mods (fun q => q = mb) w0 w) (hm : m ≤ L.length)
    (ho : w.ownsMap Try.prog 9 (plainElem Try.prog 3) mb L.length D) (hD : Found D ((nds L).take m)) :
    Grew w0 (w.setCell ⟨b, 2, none⟩ (.slice A m c)) b S M ((nds L).take m) (pz b mb (.slice A L.length c) cz) := by
  obtain ⟨n1, n2, n3⟩ := h.nvb
  have hbl := h.blk.lt
  have hs := hM.size
  have hs2 : (w.setCell ⟨b, 2, none⟩ (.slice A m c)).heap.size = w.heap.size := by simp [World.setCell]
  have keep : ∀ k, k < w0.heap.size → k ≠ b → k ≠ mb → (w.setCell ⟨b, 2, none⟩ (.slice A m c)).heap[k]? = w0.heap[k]? := fun k k1 k2 k3 => by
    rw [Below.heap_setCell _ _ _ _ k2, hM.block k k1 k3]
  have hcz : ∀ k ∈ cz, (w.setCell ⟨b, 2, none⟩ (.slice A m c)).heap[k]? = w0.heap[k]? := fun k hk => by
    obtain ⟨c1, c2, c3, c4⟩ := h.cold k hk
    exact keep k c4 c1 c2
  have hob : (Value.slice A m c).ownBlock = (Value.slice A L.length c).ownBlock := by cases A <;> rfl
  have hlm : (L.take m).length = m := by rw [List.length_take]; omega
  have hnt : nds (L.take m) = (nds L).take m := List.map_take
  refine ⟨pz b mb (.slice A m c) cz, ⟨L.take m, .slice A m c, sv, mb, cz, ⟨?_, ?_, ?_, ?_, ?_, ?_, ?_⟩, hnt, rfl⟩, ?_, ?_⟩
  · exact (h.blk.move (hM.block b hbl (fun e => n3 e.symm))).set 2 _
  · exact h.s.move (by omega) hcz
  · rw [hlm, ndCells_take]
    refine (h.row.cut hm).move fun k hk => ?_
    rw [hob] at hk
    exact keep k (h.row.lt k hk) (fun e => n1 (by rw [hk, e])) (fun e => n2 (by rw [hk, e]))
  · exact fun p hp => (h.kid p (List.mem_of_mem_take hp)).move (by omega) hcz
  · refine ⟨D, ?_, by rw [hnt]; exact hD⟩
    refine owns_move (owns_size ho ?_) (Below.heap_setCell _ _ _ _ n3)
    have := hD.size
    rw [← hnt, nds_length] at this
    omega
  · rw [hnt]; exact h.good.take m
  · intro k hk
    obtain ⟨c1, c2, c3, c4⟩ := h.cold k hk
    exact ⟨c1, c2, by rw [hob]; exact c3, by omega⟩
  · exact (hM.mono (T := (· ∈ pz b mb (.slice A L.length c) cz)) (fun k _ e => mem_pz.2 (.inr (.inl e)))).setCell (p := ⟨b, 2, none⟩) (fun _ => mem_pz.2 (.inl rfl)) _
  · intro k hk
    rw [mem_pz, hob] at hk
    exact .inl (mem_pz.2 hk)
set_option maxHeartbeats 4000000 in
theorem back_pa (h : PA w b S M L nv sv mb cz) (n : Int) :
    Calls Try.prog 55 #[.pointer (some ⟨b, 0, none⟩), .int .i64 n] w fun e w' => e = .returned (.int .i64 (backA (nds L) n).2) ∧ Grew w w' b S M (backA (nds L) n).1 (pz b mb nv cz) := by
  have HH := Hid.mk_ h
  have l8 := len8 h.good
  have c2 := h.c2
  have c3 := h.c3
  have hf := h.blk.free 2
  have hbl := h.blk.lt
  obtain ⟨A0, c0, rfl⟩ := h.row.shape
  have hcap := h.row.capLe
  by_cases h0 : 0 ≤ n
  · by_cases h1 : n ≤ (L.length : Int)
    · obtain ⟨m, rfl⟩ : ∃ m : Nat, n = (m : Int) := ⟨n.toNat, by omega⟩
      have hm : m ≤ L.length := by omega
      have d0 : ¬ ((m : Int) < 0) := by omega
      have d1 : ¬ ((L.length : Int) < m) := by omega
      have e : backA (nds L) (m : Int) = ((nds L).take m, 0) := by unfold backA; rw [if_pos ⟨h0, by rw [nds_length]; exact h1⟩, Int.toNat_natCast]
      rw [e]
      clear e
      by_cases hml : m < L.length
      · obtain ⟨D0, hown0, hf0⟩ := h.map
        have hf1 := hf0.start m
        obtain ⟨g, c, e, hg, hcap2⟩ := h.row.some_ (by omega)
        cases e
        have hmc : m < c0 := by omega
        have hmc2 : ¬ c0 ≤ m := by omega
        have hsub : ((L.length - m : Nat) : Int) = L.length - m := by omega
        have HF1 := Hid.mk_ hf1
        have HO := Hid.mk_ hown0
        clear hf1 hown0 hf0 h
        go_enter Try.func55, Try.ntmps55
        go_wp2_with fail
        go_loopw [25] (fun x25 wr => ∃ (k : Nat) (D : DataW Unit), k ≤ L.length - m ∧ x25 = .int .i64 (k : Int) ∧ Hid (Mods (fun q => q = mb) w wr) ∧ Hid (wr.ownsMap Try.prog 9 (plainElem Try.prog 3) mb L.length D) ∧ Hid (FoundD D (nds L) m k)) (fun x25 _ => (L.length - m) - (intOf x25).toNat)
        case atStart => exact ⟨0, D0, Nat.zero_le _, rfl, Mods.refl _ _, HO.out, HF1.out⟩
        case round =>
          obtain ⟨k, D, hk, rfl, HMD, HOW, HFD⟩ := hrel
          by_cases hlt : k < L.length - m
          · have hlt1 : (k : Int) < L.length - m := by omega
            have hi : m + k < L.length := by omega
            obtain ⟨g', c', e', hg', hv0, hv1⟩ := row_lv HH.out.row (m + k) hi
            cases e'
            have hgn := (HH.out.nvb).2.1
            have hmv : ∀ q, q < w.heap.size → q ≠ mb → wr.heap[q]? = w.heap[q]? := fun q h1 h2 => HMD.out.block q h1 h2
            have hgm : g ≠ mb := fun e => hgn (by rw [e]; rfl)
            have hbm : b ≠ mb := fun e => HH.out.nvb.2.2 e.symm
            have v0 : wr.cell? ⟨g, m * 2 + k * 2, none⟩ = some (.int .i64 (L[m + k]'hi).1.lv) := by
              rw [show m * 2 + k * 2 = (m + k) * 2 by omega]; exact (World.cell?_of_block (a := ⟨g, (m + k) * 2, none⟩) (hmv g hg hgm)).trans hv0
            have v1 : wr.cell? ⟨g, m * 2 + k * 2 + 1, none⟩ = some (L[m + k]'hi).2 := by
              rw [show m * 2 + k * 2 + 1 = (m + k) * 2 + 1 by omega]; exact (World.cell?_of_block (a := ⟨g, (m + k) * 2 + 1, none⟩) (hmv g hg hgm)).trans hv1
            have hkid := HH.out.kid _ (List.getElem_mem hi)
            obtain ⟨gk, ck, ekv, hck, hgz, hgkl, hints⟩ := hkid.ints
            have hkey := HH.out.good.key (m + k) (by rw [nds_length]; exact hi)
            have hkl2 := (HH.out.good.kids (m + k) (by rw [nds_length]; exact hi)).2
            have hnext := HFD.out.next HH.out.good (by rw [nds_length]; exact hi)
            rw [nds_get L (m + k) hi] at hkey hkl2 hnext
            obtain ⟨nd, hnd⟩ : ∃ nd, nd = (L[m + k]'hi).1 := ⟨_, rfl⟩
            rw [← hnd] at v0 hkey hkl2 hints ekv hnext
            rw [ekv] at v1
            have hcold := HH.out.cold gk hgz
            have HKEY := Hid.mk_ (fun (W : World) (hW : Mods (fun q => q = mb) w W) => key_any (A := some ⟨gk, 0, none⟩) (c := ck) hkey.l0 hkey.k hkl2 W (hints.move hW.size (fun q o e hq => hW.block q hq (by cases e; exact hcold.2.1))) (fun q o e => by cases e; exact Nat.lt_of_lt_of_le hgkl hW.size))
            have HKO := Hid.mk_ (keyOf_nd nd hkl2)
            obtain ⟨kb, hkb⟩ : ∃ kb : ByteArray, kb = ⟨(keyB nd).toArray⟩ := ⟨_, rfl⟩
            obtain ⟨ndl, hndl⟩ : ∃ x, x = nd.lv := ⟨_, rfl⟩
            obtain ⟨nkl, hnkl⟩ : ∃ x, x = nd.ks.length := ⟨_, rfl⟩
            have e0 : (⟨nd.lv, nd.ks⟩ : Nd) = nd := rfl
            rw [e0, ← hkb, ← hndl, ← hnkl] at HKEY
            rw [← hkb] at HKO
            rw [← hndl] at v0
            rw [← hnkl] at v1
            have HN := Hid.mk_ hnext
            have HCB := Hid.mk_ (fun (W : World) (hW : Mods (fun q => q = mb) w W) => (World.cell?_of_block (a := ⟨b, 3, none⟩) (hW.block b hbl hbm)).trans c3)
            have b3 := HCB.out wr HMD.out
            clear hnext hkey hkl2 hkid hnd hints hcold hkb hndl hnkl hv0 hv1 e0 hmv ekv
            go_wp2_with fail
            have hbxm : Mods (fun q => q = mb) w (wr.alloc (.cells #[.int .i64 ndl, .slice (some ⟨gk, 0, none⟩) nkl ck] 55)) := HMD.out.alloc _
            have hbx := Blk.new wr [.int .i64 ndl, .slice (some ⟨gk, 0, none⟩) nkl ck] 55
            obtain ⟨w6, hw6⟩ : ∃ w6, w6 = wr.alloc (.cells #[.int .i64 ndl, .slice (some ⟨gk, 0, none⟩) nkl ck] 55) := ⟨_, rfl⟩
            obtain ⟨bx, hbxe⟩ : ∃ bx, bx = wr.heap.size := ⟨_, rfl⟩
            rw [← hw6] at hbxm hbx
            rw [← hbxe] at hbx
            have q0 := hbx.cell 0
            have q1 := hbx.cell 1
            have q3 := HCB.out w6 hbxm
            have hbxl := hbx.lt
            have HBX := Hid.mk_ hbx
            have HM6 := Hid.mk_ hbxm
            have ho6 := owns_move HOW.out (w' := w6) (by rw [hw6]; exact Below.heap_alloc _ _ _ HOW.out.lt)
            have HO6 := Hid.mk_ ho6
            rw [← hbxe, ← hw6]
            clear hw6 hbx hbxm ho6 v0 v1 b3 hbxe
            go_region_law (first
              | (go_simp; go_at_call 69; (with_reducible refine (HKEY.out w6.drew (HM6.out.drew)).mono ?_); rintro e w7 ⟨rfl, hb7⟩; have m7 := HM6.out.drew.then_new hb7; have q7 := HCB.out w7 m7; have o7 := owns_move HO6.out (w' := w7) (hb7.block mb HO6.out.lt))
              | (refine step_delete_own (by rfl) _ _ 73 9 (by rfl) 3 law9 Try.underlying73 _ mb L.length D (by rfl) o7 (.string kb) (keyL nd) (by rfl) HKO.out ?_; intro w8 hown8 hturn8))
            all_goals (
              go_wp2_with fail
              exact ⟨⟨k + 1, D.del (keyL nd), by omega, by go_num, m7.grown hturn8.grown (fun q e _ => by cases e; rfl), hown8, HN.out⟩, by simp [intOf]; omega⟩)
          · have hge : ¬ (k : Int) < L.length - m := by omega
            have hbm : b ≠ mb := fun e => HH.out.nvb.2.2 e.symm
            have hB := HH.out.blk.move (HMD.out.block b hbl hbm)
            have b2 := hB.cell 2
            have f2 := hB.free 2
            have l2 := hB.lt
            go_wp2_with fail
            go_ret
            have hkm : m + k = (nds L).length := by rw [nds_length]; omega
            exact ⟨rfl, PA.cut HH.out HMD.out hm HOW.out (HFD.out.done hkm)⟩
      · have e : m = L.length := by omega
        subst e
        obtain ⟨D0, hown0, hf0⟩ := h.map
        have hD : Found D0 ((nds L).take L.length) := by rw [← nds_length, List.take_length]; exact hf0
        have HD := Hid.mk_ hD
        have HO := Hid.mk_ hown0
        clear hown0 hf0 h hD
        by_cases hmc : L.length < c0
        · have hmc2 : ¬ c0 ≤ L.length := by omega
          go_enter Try.func55, Try.ntmps55
          go_wp2_with fail
          refine wp_loop_rounds 1 ?_
          rw [rounds_succ]
          go_wp2_with fail
          go_ret
          exact ⟨rfl, PA.cut HH.out (Mods.refl _ _) (Nat.le_refl _) HO.out HD.out⟩
        · have hmc2 : c0 = L.length := by omega
          subst hmc2
          go_enter Try.func55, Try.ntmps55
          go_wp2_with fail
          refine wp_loop_rounds 1 ?_
          rw [rounds_succ]
          go_wp2_with fail
          go_ret
          exact ⟨rfl, PA.cut HH.out (Mods.refl _ _) (Nat.le_refl _) HO.out HD.out⟩
    · have e : backA (nds L) n = (nds L, 1) := by unfold backA; rw [if_neg (fun h2 => h1 (by rw [nds_length] at h2; exact h2.2))]
      rw [e]
      have d0 : ¬ n < 0 := by omega
      have d1 : (L.length : Int) < n := by omega
      clear e h
      go_enter Try.func55, Try.ntmps55
      go_wp2_with fail
      go_ret
      exact ⟨rfl, HH.out.grew (Below.refl _ _)⟩
  · have e : backA (nds L) n = (nds L, 1) := by unfold backA; rw [if_neg (fun h2 => h0 h2.1)]
    rw [e]
    have d0 : n < 0 := by omega
    clear e h
    go_enter Try.func55, Try.ntmps55
    go_wp2_with fail
    go_ret
    exact ⟨rfl, HH.out.grew (Below.refl _ _)⟩
end
end Go.Proofs.Ytmfdcaalbpikpaa
