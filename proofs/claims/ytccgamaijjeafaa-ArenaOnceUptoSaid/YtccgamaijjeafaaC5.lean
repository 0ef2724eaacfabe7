/- The document's Back. -/
import Derived.Test.YtccgamaijjeafaaC3
import Derived.BigRegion
import Derived.RegionTactic
namespace Go.Proofs.Ytccgamaijjeafaa
open Go.RowKit Go.WideMaps Go.Maps
set_option linter.unusedVariables false
set_option linter.unusedSimpArgs false
def cutV (v : Value) (k : Nat) : Value := match v with | .slice A _ _ => .slice A k k | v => v
theorem own_sl (A : Option Addr) (n c n' c' : Nat) : (Value.slice A n c).ownBlock = (Value.slice A n' c').ownBlock := by cases A <;> rfl
theorem cutV_own (v : Value) (k : Nat) : (cutV v k).ownBlock = v.ownBlock := by
  cases v with
  | slice A n c => exact own_sl ..
  | _ => rfl
def cntN (N : List Nd) (n i : Nat) : Nat := (refs (N.take n) (i : Int)).length
def cutRows (rows : List Value) (N : List Nd) (n j : Nat) : List Value := rows.mapIdx fun i v => if i < j then cutV v (cntN N n i) else v
theorem cutRows_length (rows N n j) : (cutRows rows N n j).length = rows.length := by simp [cutRows]
theorem cutRows_get {rows : List Value} {N : List Nd} {n j i : Nat} (h : i < rows.length) : (cutRows rows N n j)[i]? = some (if i < j then cutV (rows[i]'h) (cntN N n i) else rows[i]'h) := by simp [cutRows, h]
theorem cutRows_zero (rows N n) : cutRows rows N n 0 = rows := by
  refine List.ext_getElem? fun i => ?_
  by_cases h : i < rows.length
  · rw [cutRows_get h, if_neg (by omega), List.getElem?_eq_getElem h]
  · rw [List.getElem?_eq_none (by rw [cutRows_length]; omega), List.getElem?_eq_none (by omega)]
theorem cutRows_succ {rows : List Value} {N : List Nd} {n j : Nat} (h : j < rows.length) : (cutRows rows N n j).set j (cutV (rows[j]'h) (cntN N n j)) = cutRows rows N n (j + 1) := by
  refine List.ext_getElem? fun i => ?_
  by_cases hi : i < rows.length
  · rw [List.getElem?_set, cutRows_length, cutRows_get hi, cutRows_get hi]
    by_cases e : j = i
    · subst e; rw [if_pos rfl, if_pos h, if_pos (by omega)]
    · rw [if_neg e]
      by_cases e2 : i < j
      · rw [if_pos e2, if_pos (by omega)]
      · rw [if_neg e2, if_neg (by omega)]
  · rw [List.getElem?_eq_none (by rw [List.length_set, cutRows_length]; omega), List.getElem?_eq_none (by rw [cutRows_length]; omega)]
theorem refs_cut (N : List Nd) (l : Int) (n : Nat) (hn : n ≤ N.length) : ∃ r, refs N l = refs (N.take n) l ++ r ∧ ∀ f ∈ r, (n : Int) + 2 ≤ f := refs_split N l n N.length hn (Nat.le_refl _)
theorem cnt_le {N : List Nd} {n i : Nat} (hn : n ≤ N.length) : cntN N n i ≤ (refs N (i : Int)).length := by
  obtain ⟨r, h1, _⟩ := refs_cut N (i : Int) n hn
  unfold cntN; rw [h1, List.length_append]; omega
theorem refs_take_cnt {N : List Nd} {n i : Nat} (hn : n ≤ N.length) : (refs N (i : Int)).take (cntN N n i) = refs (N.take n) (i : Int) := by
  obtain ⟨r, h1, _⟩ := refs_cut N (i : Int) n hn
  unfold cntN; rw [h1, List.take_left]
theorem refs_below {N : List Nd} {n i k : Nat} (hn : n ≤ N.length) (hk : k < cntN N n i) (hk2 : k < (refs N (i : Int)).length) : (refs N (i : Int))[k]'hk2 < (n : Int) + 2 := by
  have h1 : (refs (N.take n) (i : Int))[k]'hk = (refs N (i : Int))[k]'hk2 := by
    have := refs_take_cnt (i := i) hn
    have h2 : ((refs N (i : Int)).take (cntN N n i))[k]? = (refs (N.take n) (i : Int))[k]? := by rw [this]
    rw [List.getElem?_take, if_pos hk, List.getElem?_eq_getElem hk2, List.getElem?_eq_getElem hk] at h2
    exact (Option.some.inj h2).symm
  rw [← h1]
  exact refs_take_lt (List.getElem_mem hk)
theorem refs_above {N : List Nd} {n i k : Nat} (hn : n ≤ N.length) (hk : cntN N n i ≤ k) (hk2 : k < (refs N (i : Int)).length) : (n : Int) + 2 ≤ (refs N (i : Int))[k]'hk2 := by
  obtain ⟨r, h1, h2⟩ := refs_cut N (i : Int) n hn
  refine h2 _ ?_
  have h3 : (refs N (i : Int))[k]? = r[k - cntN N n i]? := by rw [h1, List.getElem?_append_right hk]; rfl
  rw [List.getElem?_eq_getElem hk2] at h3
  exact List.mem_of_getElem? h3.symm
section
variable {w w' w0 : World} {b : Nat} {S : List Int} {M : Int} {L : List (Nd × Value)} {nv sv lv : Value} {rows : List Value} {cz : List Nat}
theorem Row.clip {e : TypeId} {size n k : Nat} {A : Option Addr} {c : Nat} {xs : List Value} (h : Row w e size (.slice A n c) n xs) (hk : k ≤ n) : Row w e size (.slice A k k) k (xs.take (k * size)) := by
  have hc := h.capLe
  rcases h.2 with ⟨h', h0⟩ | ⟨g', cap', cur, h', hg, hnc, hcm, hcs, htake⟩
  · cases h'
    have : k = 0 := by omega
    subst this
    have hx : xs = [] := List.eq_nil_of_length_eq_zero (by have := h.1; omega)
    subst hx
    simpa using Row.nil w e size
  · cases h'
    exact h.first hk (Nat.le_refl _) (by omega)
/-- how far Back has come: the nodes are cut, the rows below j too -/
structure Cutting (w0 w : World) (b : Nat) (S : List Int) (M : Int) (L : List (Nd × Value)) (sv lv : Value) (rows : List Value) (A0 : Option Addr) (n j : Nat) : Prop where
  blk : Blk w b [sv, .int .i64 M, .slice A0 n n, lv] 63
  lrow : Row w 22 1 lv S.length (cutRows rows (nds L) n j)
  mods : Mods (fun k => k = b ∨ lv.ownBlock = some k) w0 w
theorem RA.cut {A0 : Option Addr} {c0 n : Nat} (h : RA w0 b S M L (.slice A0 L.length c0) sv lv rows cz) (hn : n ≤ L.length) (hC : Cutting w0 w b S M L sv lv rows A0 n rows.length) :
    RGrew w0 w b S M ((nds L).take n) (rz b (.slice A0 L.length c0) lv rows cz) := by
  obtain ⟨n1, n2, n3, n4, n5, n6⟩ := h.apartB
  have hs := hC.mods.size
  have keep : ∀ k, k < w0.heap.size → k ≠ b → lv.ownBlock ≠ some k → w.heap[k]? = w0.heap[k]? := fun k h1 h2 h3 => hC.mods.block k h1 (fun e => by rcases e with e | e; exact h2 e; exact h3 e)
  have hcz : ∀ k ∈ cz, w.heap[k]? = w0.heap[k]? := fun k hk => by
    obtain ⟨c1, c2, c3, c4, c5⟩ := h.cold k hk
    exact keep k c5 c1 c3
  have hob : (Value.slice A0 n n).ownBlock = (Value.slice A0 L.length c0).ownBlock := by cases A0 <;> rfl
  have hlm : (L.take n).length = n := by rw [List.length_take]; omega
  have hnt : nds (L.take n) = (nds L).take n := List.map_take
  have hnl : n ≤ (nds L).length := by rw [nds_length]; exact hn
  have hget : ∀ i (hi : i < (cutRows rows (nds L) n rows.length).length), (cutRows rows (nds L) n rows.length)[i]'hi = cutV (rows[i]'(by rw [cutRows_length] at hi; exact hi)) (cntN (nds L) n i) := fun i hi => by
    have hi2 : i < rows.length := by rw [cutRows_length] at hi; exact hi
    have := cutRows_get (rows := rows) (N := nds L) (n := n) (j := rows.length) hi2
    rw [if_pos hi2, List.getElem?_eq_getElem hi] at this
    exact Option.some.inj this
  have hmem : ∀ v ∈ cutRows rows (nds L) n rows.length, ∃ u ∈ rows, v.ownBlock = u.ownBlock := fun v hv => by
    obtain ⟨i, hi, rfl⟩ := List.getElem_of_mem hv
    exact ⟨_, List.getElem_mem (by rw [cutRows_length] at hi; exact hi), by rw [hget i hi, cutV_own]⟩
  refine ⟨rz b (.slice A0 n n) lv (cutRows rows (nds L) n rows.length) cz, ⟨L.take n, .slice A0 n n, sv, lv, cutRows rows (nds L) n rows.length, cz, ⟨?_, ?_, ?_, ?_, ?_, ?_, ?_, ?_, ?_⟩, hnt, rfl⟩, ?_, ?_⟩
  · exact hC.blk
  · exact h.s.move hs hcz
  · rw [hlm, ndCells_take]
    refine (h.row.clip hn).move fun k hk => ?_
    rw [hob] at hk
    exact keep k (h.row.lt k hk) (fun e => n1 (by rw [hk, e])) (n4 k hk)
  · exact fun p hp => (h.kid p (List.mem_of_mem_take hp)).move hs hcz
  · exact hC.lrow
  · intro i hi
    have hi2 : i < rows.length := by rw [cutRows_length] at hi; exact hi
    rw [hget i hi, hnt]
    have hr := h.rws i hi2
    obtain ⟨A, c, hv⟩ := hr.shape
    rw [hv] at hr ⊢
    have h2 := hr.clip (cnt_le (i := i) hnl)
    rw [Nat.mul_one, ← List.map_take, refs_take_cnt hnl] at h2
    show Row w 3 1 (.slice A (cntN (nds L) n i) (cntN (nds L) n i)) (cntN (nds L) n i) _
    refine h2.move fun k hk => ?_
    have hk2 : (rows[i]'hi2).ownBlock = some k := by rw [hv, own_sl A _ c (cntN (nds L) n i) (cntN (nds L) n i)]; exact hk
    exact keep k ((h.rws i hi2).lt k hk2) (fun e => n3 i hi2 (by rw [hk2, e])) (fun e => n6 k i hi2 e hk2)
  · intro i j hi hj hne k hk
    rw [hget i hi, cutV_own] at hk
    rw [hget j hj, cutV_own]
    exact h.apart i j _ _ hne k hk
  · rw [hnt]; exact h.good.take n
  · intro k hk
    obtain ⟨c1, c2, c3, c4, c5⟩ := h.cold k hk
    exact ⟨c1, by rw [hob]; exact c2, c3, fun v hv => by obtain ⟨u, hu, e⟩ := hmem v hv; rw [e]; exact c4 u hu, by omega⟩
  · exact hC.mods.mono (fun k _ e => by rcases e with e | e; exact mem_rz.2 (.inl e); exact mem_rz.2 (.inr (.inr (.inl e))))
  · intro k hk
    rcases mem_rz.1 hk with e | e | e | ⟨v, hv, e⟩ | e
    · exact .inl (mem_rz.2 (.inl e))
    · rw [hob] at e; exact .inl (mem_rz.2 (.inr (.inl e)))
    · exact .inl (mem_rz.2 (.inr (.inr (.inl e))))
    · obtain ⟨u, hu, e2⟩ := hmem v hv
      exact .inl (mem_rz.2 (.inr (.inr (.inr (.inl ⟨u, hu, by rw [← e2]; exact e⟩)))))
    · exact .inl (mem_rz.2 (.inr (.inr (.inr (.inr e)))))
end
end Go.Proofs.Ytccgamaijjeafaa
