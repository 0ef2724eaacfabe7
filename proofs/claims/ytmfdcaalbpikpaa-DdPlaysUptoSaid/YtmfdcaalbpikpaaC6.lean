/- The document's Back. -/
import Derived.Test.YtmfdcaalbpikpaaC3
import Derived.BigRegion
import Derived.RegionTactic
namespace Go.Proofs.Ytmfdcaalbpikpaa
open Go.RowKit Go.WideMaps Go.Maps
set_option linter.unusedVariables false
set_option linter.unusedSimpArgs false
def cutV (v : Value) (k : Nat) : Value := match v with | .slice A _ _ => .slice A k k | v => v
theorem own_sl (A : Option Addr) (n c n' c' : Nat) : (Value.slice A n c).ownBlock = (Value.slice A n' c').ownBlock := by cases A <;> rfl
theorem cutV_own (v : Value) (k : Nat) : (cutV v k).ownBlock = v.ownBlock := by
  cases v with
  | slice A n c => exact own_sl ..
  | _ => rfl
def cntN (N : List Nd) (n i : Nat) : Nat := (refs (N.take n) (i : Int)).length
def cutRows (rows : List Value) (N : List Nd) (n j : Nat) : List Value := rows.mapIdx fun i v => if i < j then cutV v (cntN N n i) else v
theorem cutRows_length (rows N n j) : (cutRows rows N n j).length = rows.length := by simp [cutRows]
theorem cutRows_get {rows : List Value} {N : List Nd} {n j i : Nat} (h : i < rows.length) : (cutRows rows N n j)[i]? = some (if i < j then cutV (rows[i]'h) (cntN N n i) else rows[i]'h) := by simp [cutRows, h]
theorem cutRows_zero (rows N n) : cutRows rows N n 0 = rows := by
  refine List.ext_getElem? fun i => ?_
  by_cases h : i < rows.length
  · rw [cutRows_get h, if_neg (by omega), List.getElem?_eq_getElem h]
  · rw [List.getElem?_eq_none (by rw [cutRows_length]; omega), List.getElem?_eq_none (by omega)]
theorem cutRows_succ {rows : List Value} {N : List Nd} {n j : Nat} (h : j < rows.length) : (cutRows rows N n j).set j (cutV (rows[j]'h) (cntN N n j)) = cutRows rows N n (j + 1) := by
  refine List.ext_getElem? fun i => ?_
  by_cases hi : i < rows.length
  · rw [List.getElem?_set, cutRows_length, cutRows_get hi, cutRows_get hi]
    by_cases e : j = i
    · subst e; rw [if_pos rfl, if_pos h, if_pos (by omega)]
    · rw [if_neg e]
      by_cases e2 : i < j
      · rw [if_pos e2, if_pos (by omega)]
      · rw [if_neg e2, if_neg (by omega)]
  · rw [List.getElem?_eq_none (by rw [List.length_set, cutRows_length]; omega), List.getElem?_eq_none (by rw [cutRows_length]; omega)]
theorem refs_cut (N : List Nd) (l : Int) (n : Nat) (hn : n ≤ N.length) : ∃ r, refs N l = refs (N.take n) l ++ r ∧ ∀ f ∈ r, (n : Int) + 2 ≤ f := refs_split N l n N.length hn (Nat.le_refl _)
theorem cnt_le {N : List Nd} {n i : Nat} (hn : n ≤ N.length) : cntN N n i ≤ (refs N (i : Int)).length := by
  obtain ⟨r, h1, _⟩ := refs_cut N (i : Int) n hn
  unfold cntN; rw [h1, List.length_append]; omega
theorem refs_take_cnt {N : List Nd} {n i : Nat} (hn : n ≤ N.length) : (refs N (i : Int)).take (cntN N n i) = refs (N.take n) (i : Int) := by
  obtain ⟨r, h1, _⟩ := refs_cut N (i : Int) n hn
  unfold cntN; rw [h1, List.take_left]
theorem refs_below {N : List Nd} {n i k : Nat} (hn : n ≤ N.length) (hk : k < cntN N n i) (hk2 : k < (refs N (i : Int)).length) : (refs N (i : Int))[k]'hk2 < (n : Int) + 2 := by
  have h1 : (refs (N.take n) (i : Int))[k]'hk = (refs N (i : Int))[k]'hk2 := by
    have := refs_take_cnt (i := i) hn
    have h2 : ((refs N (i : Int)).take (cntN N n i))[k]? = (refs (N.take n) (i : Int))[k]? := by rw [this]
    rw [List.getElem?_take, if_pos hk, List.getElem?_eq_getElem hk2, List.getElem?_eq_getElem hk] at h2
    exact (Option.some.inj h2).symm
  rw [← h1]
  exact refs_take_lt (List.getElem_mem hk)
theorem refs_above {N : List Nd} {n i k : Nat} (hn : n ≤ N.length) (hk : cntN N n i ≤ k) (hk2 : k < (refs N (i : Int)).length) : (n : Int) + 2 ≤ (refs N (i : Int))[k]'hk2 := by
  obtain ⟨r, h1, h2⟩ := refs_cut N (i : Int) n hn
  refine h2 _ ?_
  have h3 : (refs N (i : Int))[k]? = r[k - cntN N n i]? := by rw [h1, List.getElem?_append_right hk]; rfl
  rw [List.getElem?_eq_getElem hk2] at h3
  exact List.mem_of_getElem? h3.symm
section
variable {w w' w0 : World} {b : Nat} {S : List Int} {M : Int} {L : List (Nd × Value)} {nv sv lv : Value} {rows : List Value} {cz : List Nat}
theorem Row.clip {e : TypeId} {size n k : Nat} {A : Option Addr} {c : Nat} {xs : List Value} (h : Row w e size (.slice A n c) n xs) (hk : k ≤ n) : Row w e size (.slice A k k) k (xs.take (k * size)) := by
  have hc := h.capLe
  rcases h.2 with ⟨h', h0⟩ | ⟨g', cap', cur, h', hg, hnc, hcm, hcs, htake⟩
  · cases h'
    have : k = 0 := by omega
    subst this
    have hx : xs = [] := List.eq_nil_of_length_eq_zero (by have := h.1; omega)
    subst hx
    simpa using Row.nil w e size
  · cases h'
    exact h.first hk (Nat.le_refl _) (by omega)
/-- how far Back has come: the nodes are cut, the rows below j too -/
structure Cutting (w0 w : World) (b : Nat) (S : List Int) (M : Int) (L : List (Nd × Value)) (sv lv : Value) (rows : List Value) (A0 : Option Addr) (n j : Nat) : Prop where
  blk : Blk w b [sv, .int .i64 M, .slice A0 n n, lv] 82
  lrow : Row w 22 1 lv S.length (cutRows rows (nds L) n j)
  mods : Mods (fun k => k = b ∨ lv.ownBlock = some k) w0 w
theorem RA.cut {A0 : Option Addr} {c0 n : Nat} (h : RA w0 b S M L (.slice A0 L.length c0) sv lv rows cz) (hn : n ≤ L.length) (hC : Cutting w0 w b S M L sv lv rows A0 n rows.length) :
    RGrew w0 w b S M ((nds L).take n) (rz b (.slice A0 L.length c0) lv rows cz) := by
  obtain ⟨n1, n2, n3, n4, n5, n6⟩ := h.apartB
  have hs := hC.mods.size
  have keep : ∀ k, k < w0.heap.size → k ≠ b → lv.ownBlock ≠ some k → w.heap[k]? = w0.heap[k]? := fun k h1 h2 h3 => hC.mods.block k h1 (fun e => by rcases e with e | e; exact h2 e; exact h3 e)
  have hcz : ∀ k ∈ cz, w.heap[k]? = w0.heap[k]? := fun k hk => by
    obtain ⟨c1, c2, c3, c4, c5⟩ := h.cold k hk
    exact keep k c5 c1 c3
  have hob : (Value.slice A0 n n).ownBlock = (Value.slice A0 L.length c0).ownBlock := by cases A0 <;> rfl
  have hlm : (L.take n).length = n := by rw [List.length_take]; omega
  have hnt : nds (L.take n) = (nds L).take n := List.map_take
  have hnl : n ≤ (nds L).length := by rw [nds_length]; exact hn
  have hget : ∀ i (hi : i < (cutRows rows (nds L) n rows.length).length), (cutRows rows (nds L) n rows.length)[i]'hi = cutV (rows[i]'(by rw [cutRows_length] at hi; exact hi)) (cntN (nds L) n i) := fun i hi => by
    have hi2 : i < rows.length := by rw [cutRows_length] at hi; exact hi
    have := cutRows_get (rows := rows) (N := nds L) (n := n) (j := rows.length) hi2
    rw [if_pos hi2, List.getElem?_eq_getElem hi] at this
    exact Option.some.inj this
  have hmem : ∀ v ∈ cutRows rows (nds L) n rows.length, ∃ u ∈ rows, v.ownBlock = u.ownBlock := fun v hv => by
    obtain ⟨i, hi, rfl⟩ := List.getElem_of_mem hv
    exact ⟨_, List.getElem_mem (by rw [cutRows_length] at hi; exact hi), by rw [hget i hi, cutV_own]⟩
  refine ⟨rz b (.slice A0 n n) lv (cutRows rows (nds L) n rows.length) cz, ⟨L.take n, .slice A0 n n, sv, lv, cutRows rows (nds L) n rows.length, cz, ⟨?_, ?_, ?_, ?_, ?_, ?_, ?_, ?_, ?_⟩, hnt, rfl⟩, ?_, ?_⟩
  · exact hC.blk
  · exact h.s.move hs hcz
  · rw [hlm, ndCells_take]
    refine (h.row.clip hn).move fun k hk => ?_
    rw [hob] at hk
    exact keep k (h.row.lt k hk) (fun e => n1 (by rw [hk, e])) (n4 k hk)
  · exact fun p hp => (h.kid p (List.mem_of_mem_take hp)).move hs hcz
  · exact hC.lrow
  · intro i hi
    have hi2 : i < rows.length := by rw [cutRows_length] at hi; exact hi
    rw [hget i hi, hnt]
    have hr := h.rws i hi2
    obtain ⟨A, c, hv⟩ := hr.shape
    rw [hv] at hr ⊢
    have h2 := hr.clip (cnt_le (i := i) hnl)
    rw [Nat.mul_one, ← List.map_take, refs_take_cnt hnl] at h2
    show Row w 3 1 (.slice A (cntN (nds L) n i) (cntN (nds L) n i)) (cntN (nds L) n i) _
    refine h2.move fun k hk => ?_
    have hk2 : (rows[i]'hi2).ownBlock = some k := by rw [hv, own_sl A _ c (cntN (nds L) n i) (cntN (nds L) n i)]; exact hk
    exact keep k ((h.rws i hi2).lt k hk2) (fun e => n3 i hi2 (by rw [hk2, e])) (fun e => n6 k i hi2 e hk2)
  · intro i j hi hj hne k hk
    rw [hget i hi, cutV_own] at hk
    rw [hget j hj, cutV_own]
    exact h.apart i j _ _ hne k hk
  · rw [hnt]; exact h.good.take n
  · intro k hk
    obtain ⟨c1, c2, c3, c4, c5⟩ := h.cold k hk
    exact ⟨c1, by rw [hob]; exact c2, c3, fun v hv => by obtain ⟨u, hu, e⟩ := hmem v hv; rw [e]; exact c4 u hu, by omega⟩
  · exact hC.mods.mono (fun k _ e => by rcases e with e | e; exact mem_rz.2 (.inl e); exact mem_rz.2 (.inr (.inr (.inl e))))
  · intro k hk
    rcases mem_rz.1 hk with e | e | e | ⟨v, hv, e⟩ | e
    · exact .inl (mem_rz.2 (.inl e))
    · rw [hob] at e; exact .inl (mem_rz.2 (.inr (.inl e)))
    · exact .inl (mem_rz.2 (.inr (.inr (.inl e))))
    · obtain ⟨u, hu, e2⟩ := hmem v hv
      exact .inl (mem_rz.2 (.inr (.inr (.inr (.inl ⟨u, hu, by rw [← e2]; exact e⟩)))))
    · exact .inl (mem_rz.2 (.inr (.inr (.inr (.inr e)))))
end
end Go.Proofs.Ytmfdcaalbpikpaa
namespace Go.Proofs.Ytmfdcaalbpikpaa
open Go.RowKit Go.WideMaps Go.Maps
set_option linter.unusedVariables false
set_option linter.unusedSimpArgs false
section
variable {w w' w0 : World} {b : Nat} {S : List Int} {M : Int} {L : List (Nd × Value)} {nv sv lv : Value} {rows : List Value} {cz : List Nat}
theorem Cutting.next {A0 : Option Addr} {n j gl cl : Nat} (h : Cutting w0 w b S M L sv (.slice (some ⟨gl, 0, none⟩) S.length cl) rows A0 n j) (hj : j < rows.length) (hb : gl ≠ b) :
    Cutting w0 (w.setCell ⟨gl, j, none⟩ (cutV (rows[j]'hj) (cntN (nds L) n j))) b S M L sv (.slice (some ⟨gl, 0, none⟩) S.length cl) rows A0 n (j + 1) where
  blk := h.blk.far (fun e => hb e.symm) _
  lrow := by have := h.lrow.set j (cutV (rows[j]'hj) (cntN (nds L) n j)); rwa [cutRows_succ hj] at this
  mods := h.mods.setCell (p := ⟨gl, j, none⟩) (fun _ => .inr rfl) _
theorem Cutting.drew {A0 : Option Addr} {n j : Nat} (h : Cutting w0 w b S M L sv lv rows A0 n j) : Cutting w0 w.drew b S M L sv lv rows A0 n j := ⟨h.blk, h.lrow, h.mods.drew⟩
set_option maxHeartbeats 4000000 in
theorem back_ra (h : RA w b S M L nv sv lv rows cz) (n : Int) :
    Calls Try.prog 15 #[.pointer (some ⟨b, 0, none⟩), .int .i64 n] w fun e w' => e = .returned (.int .i64 (backA (nds L) n).2) ∧ RGrew w w' b S M (backA (nds L) n).1 (rz b nv lv rows cz) := by
  have HH := Hid.mk_ h
  have l8 := len8 h.good
  have c2 := h.c2
  have c3 := h.c3
  have hf := h.blk.free 2
  have hbl := h.blk.lt
  obtain ⟨A0, c0, rfl⟩ := h.row.shape
  have hcap := h.row.capLe
  by_cases h0 : 0 ≤ n
  · by_cases h1 : n ≤ (L.length : Int)
    · obtain ⟨m, rfl⟩ : ∃ m : Nat, n = (m : Int) := ⟨n.toNat, by omega⟩
      have hm : m ≤ L.length := by omega
      have d0 : ¬ ((m : Int) < 0) := by omega
      have d1 : ¬ ((L.length : Int) < m) := by omega
      have e : backA (nds L) (m : Int) = ((nds L).take m, 0) := by unfold backA; rw [if_pos ⟨h0, by rw [nds_length]; exact h1⟩, Int.toNat_natCast]
      rw [e]
      have hmc : m ≤ c0 := by omega
      have hS := h.good.toSized.s1
      have hS2 := h.good.toSized.s2
      have hrl := h.rl
      obtain ⟨gl, cl, rfl, hgl, hclr⟩ := h.lrow.some_ (by omega)
      have hglb : gl ≠ b := fun e => h.apartB.2.1 (by rw [e]; rfl)
      have hstart : Cutting w (w.setCell ⟨b, 2, none⟩ (.slice A0 m m)) b S M L sv (.slice (some ⟨gl, 0, none⟩) S.length cl) rows A0 m 0 := by
        refine ⟨h.blk.set 2 _, ?_, (Mods.refl _ w).setCell (p := ⟨b, 2, none⟩) (fun _ => .inl rfl) _⟩
        rw [cutRows_zero]
        exact h.lrow.move fun k hk => by cases hk; exact Below.heap_setCell _ _ _ _ hglb
      have HST := Hid.mk_ hstart
      clear e hstart h h0 h1
      go_enter Try.func15, Try.ntmps15
      go_wp2_with fail
      go_loopw [5] (fun x5 wr => ∃ j : Nat, j ≤ rows.length ∧ x5 = .int .i64 (j : Int) ∧ Hid (Cutting w wr b S M L sv (.slice (some ⟨gl, 0, none⟩) S.length cl) rows A0 m j)) (fun x5 _ => rows.length - (intOf x5).toNat)
      case atStart => exact ⟨0, Nat.zero_le _, rfl, HST.out⟩
      case round =>
        obtain ⟨j, hj, rfl, HC⟩ := hrel
        have b3 := HC.out.blk.cell 3
        have hgw : gl < wr.heap.size := HC.out.lrow.lt gl rfl
        have lf := HC.out.lrow.free j
        by_cases hlt : j < rows.length
        · have hjS : j < S.length := by omega
          have hjS1 : (j : Int) < S.length := by omega
          have kl : wr.cell? ⟨gl, j, none⟩ = some (rows[j]'hlt) := by
            rw [HC.out.lrow.cell j (by omega), cutRows_get hlt, if_neg (by omega)]
          have hR := HH.out.rws j hlt
          obtain ⟨AR, cR, hrv⟩ := hR.shape
          have HN := Hid.mk_ (HC.out.next hlt hglb)
          have hcn := cnt_le (N := nds L) (n := m) (i := j) (by rw [nds_length]; exact hm)
          have hab := HH.out.apartB
          have hRw : Row wr 3 1 (rows[j]'hlt) (refs (nds L) (j : Int)).length ((refs (nds L) (j : Int)).map (Value.int .i64)) := hR.move fun k hk =>
            HC.out.mods.block k (hR.lt k hk) (fun e => by rcases e with e | e; exact hab.2.2.1 j hlt (by rw [hk, e]); exact hab.2.2.2.2.2 k j hlt e hk)
          rw [hrv] at kl hRw HN
          have HB := Hid.mk_ (fun k hk hk2 => refs_below (N := nds L) (n := m) (i := j) (k := k) (by rw [nds_length]; exact hm) hk hk2)
          have HA := Hid.mk_ (fun k hk hk2 => refs_above (N := nds L) (n := m) (i := j) (k := k) (by rw [nds_length]; exact hm) hk hk2)
          obtain ⟨q, hq⟩ : ∃ q, q = cntN (nds L) m j := ⟨_, rfl⟩
          have hRl := refs_length_le (nds L) (j : Int)
          rw [nds_length] at hRl
          obtain ⟨R, hRe⟩ : ∃ R, R = refs (nds L) (j : Int) := ⟨_, rfl⟩
          rw [← hq] at HN hcn HB HA
          rw [← hRe] at kl hRw hcn hRl HN HB HA
          have HR := Hid.mk_ hRw
          have hcR := hRw.capLe
          have hqc : q ≤ cR := by omega
          have hwm : IntKind.i64.wrap ((m : Int) + 2) = m + 2 := by rw [IntKind.wrap_i64]; omega
          obtain ⟨wo, rfl⟩ : ∃ wo : World, wo = wr := ⟨_, rfl⟩
          clear hq hRe hR hrv hab hRw
          go_wp2_with fail
          go_loop [6] (fun x6 => ∃ k : Nat, k ≤ q ∧ x6 = .int .i64 (k : Int)) (fun x6 => q - (intOf x6).toNat)
          case atStart => exact ⟨0, Nat.zero_le _, rfl⟩
          case round =>
            obtain ⟨k, hk, rfl⟩ := hrel
            by_cases hkq : k < q
            · have hkR : k < R.length := by omega
              have hkR1 : (k : Int) < R.length := by omega
              have hlow := HB.out k hkq hkR
              obtain ⟨gR, cR', eR, hgR, _⟩ := HR.out.some_ (by omega)
              cases eR
              have r0 : wo.cell? ⟨gR, k, none⟩ = some (.int .i64 (R[k]'hkR)) := by rw [HR.out.cell k (by omega)]; simp [hkR]
              obtain ⟨y, hy⟩ : ∃ y, y = R[k]'hkR := ⟨_, rfl⟩
              rw [← hy] at r0 hlow
              clear hy
              go_wp2_with fail
              go_round
              case rel => exact ⟨k + 1, by omega, by go_num⟩
              case measure => simp [intOf]; omega
            · have hke : k = q := by omega
              subst hke
              by_cases hkR : k < R.length
              · have hkR1 : (k : Int) < R.length := by omega
                have hhi := HA.out k (Nat.le_refl _) hkR
                obtain ⟨gR, cR', eR, hgR, _⟩ := HR.out.some_ (by omega)
                cases eR
                have r0 : wo.cell? ⟨gR, k, none⟩ = some (.int .i64 (R[k]'hkR)) := by rw [HR.out.cell k (by omega)]; simp [hkR]
                obtain ⟨y, hy⟩ : ∃ y, y = R[k]'hkR := ⟨_, rfl⟩
                rw [← hy] at r0 hhi
                clear hy
                go_wp2_with fail
                go_region
                all_goals (
                  go_wp2_with fail
                  go_roundw
                  case rel => exact ⟨j + 1, by omega, by go_num, HN.out.drew⟩
                  case measure => simp [intOf]; omega)
              · have hkR1 : ¬ (k : Int) < R.length := by omega
                go_wp2_with fail
                go_region
                all_goals (
                  go_wp2_with fail
                  go_roundw
                  case rel => exact ⟨j + 1, by omega, by go_num, HN.out.drew⟩
                  case measure => simp [intOf]; omega)
        · have ej : j = rows.length := by omega
          subst ej
          have hge : ¬ (rows.length : Int) < S.length := by omega
          go_wp2_with fail
          go_ret
          exact ⟨rfl, HH.out.cut hm HC.out⟩
    · have e : backA (nds L) n = (nds L, 1) := by unfold backA; rw [if_neg (fun h2 => h1 (by rw [nds_length] at h2; exact h2.2))]
      rw [e]
      have d0 : ¬ n < 0 := by omega
      have d1 : (L.length : Int) < n := by omega
      clear e h
      go_enter Try.func15, Try.ntmps15
      go_wp2_with fail
      go_ret
      exact ⟨rfl, HH.out.grew (Below.refl _ _)⟩
  · have e : backA (nds L) n = (nds L, 1) := by unfold backA; rw [if_neg (fun h2 => h0 h2.1)]
    rw [e]
    have d0 : n < 0 := by omega
    clear e h
    go_enter Try.func15, Try.ntmps15
    go_wp2_with fail
    go_ret
    exact ⟨rfl, HH.out.grew (Below.refl _ _)⟩
end
end Go.Proofs.Ytmfdcaalbpikpaa
