/- Arenas as they lie in memory: the program's (PA), the document's (RA). -/
import Derived.Test.YtmfdcaalbpikpaaA4
namespace Go.Proofs.Ytmfdcaalbpikpaa
open Go.RowKit Go.Maps
set_option linter.unusedVariables false
set_option linter.unusedSimpArgs false
def nds (L : List (Nd × Value)) : List Nd := L.map (·.1)
def ndCells (L : List (Nd × Value)) : List Value := L.flatMap (fun p => [.int .i64 p.1.lv, p.2])
theorem nds_length (L : List (Nd × Value)) : (nds L).length = L.length := List.length_map _
theorem nds_get (L : List (Nd × Value)) (i : Nat) (h : i < L.length) : (nds L)[i]'(by rw [nds_length]; exact h) = (L[i]'h).1 := List.getElem_map _
theorem ndCells_length : ∀ L : List (Nd × Value), (ndCells L).length = L.length * 2
  | [] => rfl
  | p :: L => by simp only [ndCells, List.flatMap_cons, List.length_append, List.length_cons, List.length_nil]; have := ndCells_length L; simp only [ndCells] at this; omega
theorem ndCells_append (L L' : List (Nd × Value)) : ndCells (L ++ L') = ndCells L ++ ndCells L' := List.flatMap_append
theorem ndCells_take : ∀ (L : List (Nd × Value)) (n : Nat), ndCells (L.take n) = (ndCells L).take (n * 2)
  | [], n => by simp [ndCells]
  | p :: L, 0 => by simp [ndCells]
  | p :: L, n + 1 => by
    have ih := ndCells_take L n
    simp only [ndCells, List.take_succ_cons, List.flatMap_cons] at ih ⊢
    rw [ih, show (n + 1) * 2 = n * 2 + 1 + 1 by omega]
    simp
theorem ndCells_get : ∀ (L : List (Nd × Value)) (i : Nat) (h : i < L.length), (ndCells L)[i * 2]? = some (.int .i64 (L[i]'h).1.lv) ∧ (ndCells L)[i * 2 + 1]? = some (L[i]'h).2
  | p :: L, 0, _ => by simp [ndCells]
  | p :: L, i + 1, h => by
    have ih := ndCells_get L i (by simpa using h)
    rw [show (i + 1) * 2 = i * 2 + 1 + 1 by omega]
    simp only [ndCells, List.flatMap_cons, List.cons_append, List.nil_append, List.getElem?_cons_succ, List.getElem_cons_succ] at ih ⊢
    exact ih
/-- numbers that a slice of its own block leads to; the block is one of cz -/
def Kid (w : World) (cz : List Nat) (v : Value) (ks : List Int) : Prop :=
  ∃ g c, v = .slice (some ⟨g, 0, none⟩) ks.length c ∧ ks.length ≤ c ∧ g ∈ cz ∧ g < w.heap.size ∧ ks.length ≤ 256 ∧ ∀ j (hj : j < ks.length), w.cell? ⟨g, j, none⟩ = some (.int .i64 (ks[j]'hj))
section
variable {w w' : World} {cz : List Nat} {v : Value} {ks : List Int}
theorem Kid.move (h : Kid w cz v ks) (hs : w.heap.size ≤ w'.heap.size) (hm : ∀ k ∈ cz, w'.heap[k]? = w.heap[k]?) : Kid w' cz v ks := by
  obtain ⟨g, c, rfl, h1, h2, h3, h4, h5⟩ := h
  exact ⟨g, c, rfl, h1, h2, by omega, h4, fun j hj => (World.cell?_of_block (a := ⟨g, j, none⟩) (hm g h2)).trans (h5 j hj)⟩
theorem Kid.mono {cz' : List Nat} (h : Kid w cz v ks) (hs : ∀ k ∈ cz, k ∈ cz') : Kid w cz' v ks := by
  obtain ⟨g, c, rfl, h1, h2, h3⟩ := h
  exact ⟨g, c, rfl, h1, hs g h2, h3⟩
theorem Kid.ints (h : Kid w cz v ks) : ∃ g c, v = .slice (some ⟨g, 0, none⟩) ks.length c ∧ ks.length ≤ c ∧ g ∈ cz ∧ g < w.heap.size ∧ IntsIn w (some ⟨g, 0, none⟩) ks := by
  obtain ⟨g, c, rfl, h1, h2, h3, h4, h5⟩ := h
  exact ⟨g, c, rfl, h1, h2, h3, by omega, fun _ => ⟨g, 0, rfl, h3, fun j hj => by rw [Nat.zero_add]; exact h5 j hj⟩⟩
theorem Row.kid {g c : Nat} (h : Row w 3 1 (.slice (some ⟨g, 0, none⟩) ks.length c) ks.length (ks.map (Value.int .i64))) (hl : ks.length ≤ 256) (hg : g ∈ cz) : Kid w cz (.slice (some ⟨g, 0, none⟩) ks.length c) ks := by
  have hc : ks.length ≤ c := by
    rcases h.2 with ⟨h', _⟩ | ⟨g', cap', cur, h', _, hnc, _⟩
    · simp at h'
    · cases h'; exact hnc
  refine ⟨g, c, rfl, hc, hg, h.lt g rfl, hl, fun j hj => ?_⟩
  rw [h.cell j (by omega)]
  simp [hj]
theorem Row.capLe {e : TypeId} {size n : Nat} {A : Option Addr} {c : Nat} {xs : List Value} (h : Row w e size (.slice A n c) n xs) : n ≤ c := by
  rcases h.2 with ⟨h', h0⟩ | ⟨g', cap', cur, h', _, hnc, _⟩
  · omega
  · cases h'; exact hnc
end
/-- the program's arena -/
structure PA (w : World) (b : Nat) (S : List Int) (M : Int) (L : List (Nd × Value)) (nv sv : Value) (mb : Nat) (cz : List Nat) : Prop where
  blk : Blk w b [sv, .int .i64 M, nv, .map (some mb)] 76
  s : Kid w cz sv S
  row : Row w 55 2 nv L.length (ndCells L)
  kid : ∀ p ∈ L, Kid w cz p.2 p.1.ks
  map : ∃ D : DataW Unit, w.ownsMap Try.prog 9 (plainElem Try.prog 3) mb L.length D ∧ Found D (nds L)
  good : Good S M (nds L)
  cold : ∀ k ∈ cz, k ≠ b ∧ k ≠ mb ∧ nv.ownBlock ≠ some k ∧ k < w.heap.size
/-- the refs of the nodes of a level -/
def refsN (N : List Nd) (lv : Int) (n : Nat) : List Int := ((List.range n).filter (fun i => decide ((N.getD i ⟨-1, []⟩).lv = lv))).map (fun i : Nat => (i : Int) + 2)
def refs (N : List Nd) (lv : Int) : List Int := refsN N lv N.length
theorem getD_get {N : List Nd} {i : Nat} (h : i < N.length) : N.getD i ⟨-1, []⟩ = N[i]'h := by simp [List.getD, h]
theorem refsN_succ (N : List Nd) (lv : Int) (n : Nat) : refsN N lv (n + 1) = refsN N lv n ++ (if (N.getD n ⟨-1, []⟩).lv = lv then [(n : Int) + 2] else []) := by
  unfold refsN
  rw [List.range_succ, List.filter_append, List.map_append]
  congr 1
  by_cases h : (N.getD n ⟨-1, []⟩).lv = lv
  · rw [List.filter_cons, if_pos (decide_eq_true h), if_pos h]; rfl
  · rw [List.filter_cons, if_neg (by simpa using h), if_neg h]; rfl
theorem refsN_congr {N N' : List Nd} {lv : Int} : ∀ n, (∀ i, i < n → N.getD i ⟨-1, []⟩ = N'.getD i ⟨-1, []⟩) → refsN N lv n = refsN N' lv n
  | 0, _ => rfl
  | n + 1, h => by rw [refsN_succ, refsN_succ, refsN_congr n (fun i hi => h i (by omega)), h n (by omega)]
theorem refs_snoc (N : List Nd) (nd : Nd) (lv : Int) : refs (N ++ [nd]) lv = refs N lv ++ (if nd.lv = lv then [(N.length : Int) + 2] else []) := by
  unfold refs
  rw [List.length_append, List.length_singleton, refsN_succ]
  congr 1
  · refine refsN_congr _ fun i hi => ?_
    rw [getD_get (by simp; omega), getD_get hi, List.getElem_append_left hi]
  · rw [getD_get (by simp), List.getElem_append_right (Nat.le_refl _)]
    simp
theorem refs_mem {N : List Nd} {lv f : Int} : f ∈ refs N lv ↔ ∃ i, ∃ h : i < N.length, f = (i : Int) + 2 ∧ (N[i]'h).lv = lv := by
  unfold refs refsN
  simp only [List.mem_map, List.mem_filter, List.mem_range, decide_eq_true_eq]
  constructor
  · rintro ⟨i, ⟨hi, hl⟩, rfl⟩
    exact ⟨i, hi, rfl, by rwa [getD_get hi] at hl⟩
  · rintro ⟨i, hi, rfl, hl⟩
    exact ⟨i, ⟨hi, by rwa [getD_get hi]⟩, rfl⟩
theorem refs_length_le (N : List Nd) (lv : Int) : (refs N lv).length ≤ N.length := by
  unfold refs refsN
  rw [List.length_map]
  exact Nat.le_trans (List.length_filter_le _ _) (by simp)
/-- the refs below n, and those from n on -/
theorem refs_split (N : List Nd) (lv : Int) (n : Nat) : ∀ m, n ≤ m → m ≤ N.length → ∃ r, refsN N lv m = refs (N.take n) lv ++ r ∧ ∀ f ∈ r, (n : Int) + 2 ≤ f := by
  intro m hm hl
  induction m with
  | zero =>
    have : n = 0 := by omega
    subst this
    exact ⟨[], by simp [refs, refsN], by simp⟩
  | succ m ih =>
    by_cases e : n = m + 1
    · subst e
      refine ⟨[], ?_, by simp⟩
      rw [List.append_nil]
      unfold refs
      rw [show (N.take (m + 1)).length = m + 1 by rw [List.length_take]; omega]
      refine refsN_congr _ fun i hi => ?_
      rw [getD_get (by omega), getD_get (by rw [List.length_take]; omega), List.getElem_take]
    · obtain ⟨r, h1, h2⟩ := ih (by omega) (by omega)
      rw [refsN_succ, h1]
      refine ⟨r ++ (if (N.getD m ⟨-1, []⟩).lv = lv then [(m : Int) + 2] else []), by rw [List.append_assoc], fun f hf => ?_⟩
      rcases List.mem_append.1 hf with hf | hf
      · exact h2 f hf
      · split at hf
        · simp at hf; omega
        · simp at hf
theorem refs_take_lt {N : List Nd} {lv f : Int} {n : Nat} (h : f ∈ refs (N.take n) lv) : f < (n : Int) + 2 := by
  obtain ⟨i, hi, rfl, _⟩ := refs_mem.1 h
  rw [List.length_take] at hi
  omega
/-- the document's arena -/
structure RA (w : World) (b : Nat) (S : List Int) (M : Int) (L : List (Nd × Value)) (nv sv lv : Value) (rows : List Value) (cz : List Nat) : Prop where
  blk : Blk w b [sv, .int .i64 M, nv, lv] 82
  s : Kid w cz sv S
  row : Row w 55 2 nv L.length (ndCells L)
  kid : ∀ p ∈ L, Kid w cz p.2 p.1.ks
  lrow : Row w 22 1 lv S.length rows
  rws : ∀ i (h : i < rows.length), Row w 3 1 (rows[i]'h) (refs (nds L) (i : Int)).length ((refs (nds L) (i : Int)).map (Value.int .i64))
  apart : ∀ i j (hi : i < rows.length) (hj : j < rows.length), i ≠ j → ∀ k, (rows[i]'hi).ownBlock = some k → (rows[j]'hj).ownBlock ≠ some k
  good : Good S M (nds L)
  cold : ∀ k ∈ cz, k ≠ b ∧ nv.ownBlock ≠ some k ∧ lv.ownBlock ≠ some k ∧ (∀ v ∈ rows, v.ownBlock ≠ some k) ∧ k < w.heap.size
theorem RA.rl {w : World} {b : Nat} {S : List Int} {M : Int} {L : List (Nd × Value)} {nv sv lv : Value} {rows : List Value} {cz : List Nat} (h : RA w b S M L nv sv lv rows cz) : rows.length = S.length := by
  have := h.lrow.1; omega
/-- all its blocks -/
def pz (b mb : Nat) (nv : Value) (cz : List Nat) : List Nat := b :: mb :: (nv.ownBlock.toList ++ cz)
def rz (b : Nat) (nv lv : Value) (rows : List Value) (cz : List Nat) : List Nat := b :: (nv.ownBlock.toList ++ (lv.ownBlock.toList ++ (rows.flatMap (fun v => v.ownBlock.toList) ++ cz)))
def PAt (w : World) (b : Nat) (S : List Int) (M : Int) (N : List Nd) (z : List Nat) : Prop := ∃ L nv sv mb cz, PA w b S M L nv sv mb cz ∧ nds L = N ∧ z = pz b mb nv cz
def RAt (w : World) (b : Nat) (S : List Int) (M : Int) (N : List Nd) (z : List Nat) : Prop := ∃ L nv sv lv rows cz, RA w b S M L nv sv lv rows cz ∧ nds L = N ∧ z = rz b nv lv rows cz
theorem mem_pz {b mb : Nat} {nv : Value} {cz : List Nat} {k : Nat} : k ∈ pz b mb nv cz ↔ k = b ∨ k = mb ∨ nv.ownBlock = some k ∨ k ∈ cz := by simp [pz]
theorem mem_rz {b : Nat} {nv lv : Value} {rows : List Value} {cz : List Nat} {k : Nat} : k ∈ rz b nv lv rows cz ↔ k = b ∨ nv.ownBlock = some k ∨ lv.ownBlock = some k ∨ (∃ v ∈ rows, v.ownBlock = some k) ∨ k ∈ cz := by simp [rz]
section
variable {w w' : World} {b : Nat} {S : List Int} {M : Int} {L : List (Nd × Value)} {nv sv lv : Value} {mb : Nat} {rows : List Value} {cz : List Nat}
theorem owns_move {D : DataW Unit} {n : Nat} (h : w.ownsMap Try.prog 9 (plainElem Try.prog 3) mb n D) (hm : w'.heap[mb]? = w.heap[mb]?) : w'.ownsMap Try.prog 9 (plainElem Try.prog 3) mb n D := by
  obtain ⟨es, clock, hb, h2⟩ := h
  exact ⟨es, clock, hm.trans hb, h2⟩
theorem PA.move (h : PA w b S M L nv sv mb cz) (hs : w.heap.size ≤ w'.heap.size) (hm : ∀ k ∈ pz b mb nv cz, w'.heap[k]? = w.heap[k]?) : PA w' b S M L nv sv mb cz where
  blk := h.blk.move (hm b (mem_pz.2 (.inl rfl)))
  s := h.s.move hs fun k hk => hm k (mem_pz.2 (.inr (.inr (.inr hk))))
  row := h.row.move fun k hk => hm k (mem_pz.2 (.inr (.inr (.inl hk))))
  kid := fun p hp => (h.kid p hp).move hs fun k hk => hm k (mem_pz.2 (.inr (.inr (.inr hk))))
  map := by obtain ⟨D, h1, h2⟩ := h.map; exact ⟨D, owns_move h1 (hm mb (mem_pz.2 (.inr (.inl rfl)))), h2⟩
  good := h.good
  cold := fun k hk => by obtain ⟨h1, h2, h3, h4⟩ := h.cold k hk; exact ⟨h1, h2, h3, by omega⟩
theorem RA.move (h : RA w b S M L nv sv lv rows cz) (hs : w.heap.size ≤ w'.heap.size) (hm : ∀ k ∈ rz b nv lv rows cz, w'.heap[k]? = w.heap[k]?) : RA w' b S M L nv sv lv rows cz where
  blk := h.blk.move (hm b (mem_rz.2 (.inl rfl)))
  s := h.s.move hs fun k hk => hm k (mem_rz.2 (.inr (.inr (.inr (.inr hk)))))
  row := h.row.move fun k hk => hm k (mem_rz.2 (.inr (.inl hk)))
  kid := fun p hp => (h.kid p hp).move hs fun k hk => hm k (mem_rz.2 (.inr (.inr (.inr (.inr hk)))))
  lrow := h.lrow.move fun k hk => hm k (mem_rz.2 (.inr (.inr (.inl hk))))
  rws := fun i hi => (h.rws i hi).move fun k hk => hm k (mem_rz.2 (.inr (.inr (.inr (.inl ⟨_, List.getElem_mem hi, hk⟩)))))
  apart := h.apart
  good := h.good
  cold := fun k hk => by obtain ⟨h1, h2, h3, h4, h5⟩ := h.cold k hk; exact ⟨h1, h2, h3, h4, by omega⟩
theorem PA.zlt (h : PA w b S M L nv sv mb cz) {k : Nat} (hk : k ∈ pz b mb nv cz) : k < w.heap.size := by
  rcases mem_pz.1 hk with rfl | rfl | e | e
  · exact h.blk.lt
  · obtain ⟨D, h1, _⟩ := h.map; exact h1.lt
  · exact h.row.lt k e
  · exact (h.cold k e).2.2.2
theorem RA.zlt (h : RA w b S M L nv sv lv rows cz) {k : Nat} (hk : k ∈ rz b nv lv rows cz) : k < w.heap.size := by
  rcases mem_rz.1 hk with rfl | e | e | ⟨v, hv, e⟩ | e
  · exact h.blk.lt
  · exact h.row.lt k e
  · exact h.lrow.lt k e
  · obtain ⟨i, hi, rfl⟩ := List.getElem_of_mem hv
    exact (h.rws i hi).lt k e
  · exact (h.cold k e).2.2.2.2
theorem PA.new (h : PA w b S M L nv sv mb cz) (hb : Below w.heap.size w w') : PA w' b S M L nv sv mb cz := h.move hb.size fun k hk => hb.block k (h.zlt hk)
theorem RA.new (h : RA w b S M L nv sv lv rows cz) (hb : Below w.heap.size w w') : RA w' b S M L nv sv lv rows cz := h.move hb.size fun k hk => hb.block k (h.zlt hk)
theorem PA.nvb (h : PA w b S M L nv sv mb cz) : nv.ownBlock ≠ some b ∧ nv.ownBlock ≠ some mb ∧ mb ≠ b := by
  have h1 := h.blk
  obtain ⟨D, ⟨es, clock, h2, _⟩, _⟩ := h.map
  unfold Blk at h1
  refine ⟨fun e => ?_, fun e => ?_, fun e => ?_⟩
  · rcases h.row.2 with ⟨rfl, _⟩ | ⟨g, cap, cur, rfl, h3, _⟩
    · simp [Value.ownBlock] at e
    · simp [Value.ownBlock] at e
      subst e
      rw [h1] at h3
      simp at h3
  · rcases h.row.2 with ⟨rfl, _⟩ | ⟨g, cap, cur, rfl, h3, _⟩
    · simp [Value.ownBlock] at e
    · simp [Value.ownBlock] at e
      subst e
      rw [h2] at h3
      simp at h3
  · subst e
    rw [h2] at h1
    simp at h1
theorem row_type {v v' : Value} {e e' : TypeId} {size size' n n' : Nat} {xs xs' : List Value} (h : Row w e size v n xs) (h' : Row w e' size' v' n' xs') (hne : e ≠ e') {k : Nat} (hk : v.ownBlock = some k) : v'.ownBlock ≠ some k := by
  intro hk'
  rcases h.2 with ⟨rfl, _⟩ | ⟨g, cap, cur, rfl, h3, _⟩
  · simp [Value.ownBlock] at hk
  · rcases h'.2 with ⟨rfl, _⟩ | ⟨g', cap', cur', rfl, h4, _⟩
    · simp [Value.ownBlock] at hk'
    · simp [Value.ownBlock] at hk hk'
      subst hk hk'
      rw [h3] at h4
      simp only [Option.some.injEq, Obj.cells.injEq] at h4
      exact hne h4.2.1
theorem row_blk {v : Value} {e e' : TypeId} {size n : Nat} {xs cs : List Value} {k : Nat} (h : Row w e size v n xs) (h' : Blk w k cs e') (hne : e ≠ e') : v.ownBlock ≠ some k := by
  intro hk
  unfold Blk at h'
  rcases h.2 with ⟨rfl, _⟩ | ⟨g, cap, cur, rfl, h3, _⟩
  · simp [Value.ownBlock] at hk
  · simp [Value.ownBlock] at hk
    subst hk
    rw [h3] at h'
    simp only [Option.some.injEq, Obj.cells.injEq] at h'
    exact hne h'.2.1
end
end Go.Proofs.Ytmfdcaalbpikpaa
