/- Make. -/
import Derived.Test.YtmfdcaalbpikpaaA6
import Derived.Maps.OwnSet
namespace Go.Proofs.Ytmfdcaalbpikpaa
open Go.RowKit Go.WideMaps Go.Maps
set_option linter.unusedVariables false
set_option linter.unusedSimpArgs false
/-- what Make leaves: the arena with these nodes, in its blocks or new ones -/
def Grew (w w' : World) (b : Nat) (S : List Int) (M : Int) (N : List Nd) (z : List Nat) : Prop := ∃ z', PAt w' b S M N z' ∧ Mods (· ∈ z) w w' ∧ ∀ k ∈ z', k ∈ z ∨ w.heap.size ≤ k
theorem zeroI (w : World) : (zeroValue 3).run Try.prog w = .ok (.int .i64 0) w := by kernel_rfl
theorem law9 : Keyed Try.prog 9 := string_keyed Try.underlying9
section
variable {w w' : World} {b : Nat} {S : List Int} {M : Int} {L : List (Nd × Value)} {nv sv lv : Value} {mb : Nat} {rows : List Value} {cz : List Nat}
theorem PA.grew (h : PA w b S M L nv sv mb cz) (hb : Below w.heap.size w w') : Grew w w' b S M (nds L) (pz b mb nv cz) :=
  ⟨_, ⟨L, nv, sv, mb, cz, h.new hb, rfl, rfl⟩, Mods.of_new hb, fun k hk => .inl hk⟩
theorem keyOf_nd (nd : Nd) (h : nd.ks.length ≤ 256) : keyOf Try.prog 9 (.string ⟨(keyB nd).toArray⟩) = some (keyL nd) := by
  have e : (keyB nd).length = 1 + 2 * nd.ks.length := keyB_len nd.lv nd.ks
  refine Go.WideMaps.keyOf_string_mk Try.underlying9 ?_
  show (keyB nd).toArray.size ≤ maxLen
  rw [List.size_toArray, e]
  unfold maxLen
  omega
theorem oneA_any {ks : List Int} {y : Int} (h : y = ks.headD 0) : (!ks.any (fun x => !decide (x = y))) = oneA ks := by
  subst h
  exact any_not (p := fun x => decide (x = ks.headD 0)) ks
/-- what stays when the row of nodes grows, the field is set, the map takes one more -/
theorem PA.snoc {w0 w1 w2 w4 : World} {nd : Nd} {nv' : Value} {g c gk ck : Nat} {D : DataW Unit} (h : PA w0 b S M L nv sv mb cz) (h1 : Below w0.heap.size w0 w1)
    (hk : Row w1 3 1 (.slice (some ⟨gk, 0, none⟩) nd.ks.length ck) nd.ks.length (nd.ks.map (Value.int .i64))) (hgk : w0.heap.size ≤ gk) (hlen : nd.ks.length ≤ 256)
    (hr : Row w2 55 2 nv' (L.length + 1) (ndCells L ++ [.int .i64 nd.lv, .slice (some ⟨gk, 0, none⟩) nd.ks.length ck])) (hnv : nv' = .slice (some ⟨g, 0, none⟩) (L.length + 1) c) (hg : Mods (fun k => nv.ownBlock = some k) w1 w2) (hloc : nv.ownBlock = some g ∨ w1.heap.size ≤ g)
    (hm : w4.ownsMap Try.prog 9 (plainElem Try.prog 3) mb (L.length + 1) D) (hD : Found D (nds L ++ [nd])) (h4 : (w2.setCell ⟨b, 2, none⟩ nv').grownBy w4 (some mb)) (hgood : Good S M (nds L ++ [nd])) :
    Grew w0 w4 b S M (nds L ++ [nd]) (pz b mb nv cz) := by
  obtain ⟨n1, n2, n3⟩ := h.nvb
  have hbl := h.blk.lt
  have hml : mb < w0.heap.size := h.zlt (mem_pz.2 (.inr (.inl rfl)))
  have hgkl : gk < w1.heap.size := hk.lt gk rfl
  have s1 := h1.size
  have s2 := hg.size
  have s3 : (w2.setCell ⟨b, 2, none⟩ nv').heap.size = w2.heap.size := by simp [World.setCell]
  have s4 := h4.size
  rw [s3] at s4
  have gb : g ≠ b := fun e => by subst e; rcases hloc with e | e; exact n1 e; omega
  have gm : g ≠ mb := fun e => by subst e; rcases hloc with e | e; exact n2 e; omega
  have keep : ∀ k, k < w1.heap.size → k ≠ b → k ≠ mb → nv.ownBlock ≠ some k → w4.heap[k]? = w1.heap[k]? := fun k k1 k2 k3 k4 => by
    rw [h4.block k (by omega) (fun e => k3 (by cases e; rfl)), Below.heap_setCell _ _ _ _ k2, hg.block k k1 k4]
  have hcz : ∀ k ∈ cz, w4.heap[k]? = w0.heap[k]? := fun k hk => by
    obtain ⟨c1, c2, c3, c4⟩ := h.cold k hk
    rw [keep k (by omega) c1 c2 c3, h1.block k c4]
  have hnl : ∀ k, nv.ownBlock = some k → k < w0.heap.size := fun k hk => h.row.lt k hk
  have hb2 : Blk w2 b [sv, .int .i64 M, nv, .map (some mb)] 76 := (h.blk.below h1 hbl).mods hg (fun e => n1 e)
  refine ⟨pz b mb nv' (gk :: cz), ⟨L ++ [(nd, .slice (some ⟨gk, 0, none⟩) nd.ks.length ck)], nv', sv, mb, gk :: cz, ⟨?_, ?_, ?_, ?_, ?_, ?_, ?_⟩, by simp [nds], rfl⟩, ?_, ?_⟩
  · exact (hb2.set 2 nv').move (h4.block b (by omega) (fun e => n3 (by cases e; rfl)))
  · exact (h.s.move (w' := w4) (by omega) hcz).mono (fun k hk => List.mem_cons_of_mem _ hk)
  · rw [List.length_append, List.length_singleton, ndCells_append]
    refine hr.move fun k hk => ?_
    rw [hnv] at hk
    cases hk
    rw [h4.block g (by rw [s3]; exact hr.lt g (by rw [hnv]; rfl)) (fun e => gm (by cases e; rfl)), Below.heap_setCell _ _ _ _ gb]
  · intro p hp
    rcases List.mem_append.1 hp with hp | hp
    · exact ((h.kid p hp).move (w' := w4) (by omega) hcz).mono (fun k hk => List.mem_cons_of_mem _ hk)
    · simp at hp
      subst hp
      refine Row.kid (Row.move hk fun k hk => ?_) hlen (by simp)
      cases hk
      exact keep gk hgkl (by omega) (by omega) (fun e => by have := hnl gk e; omega)
  · exact ⟨D, by rw [List.length_append, List.length_singleton]; exact hm, by simpa [nds] using hD⟩
  · simpa [nds] using hgood
  · intro k hk
    have hg2 : ∀ k, nv'.ownBlock = some k → nv.ownBlock = some k ∨ w1.heap.size ≤ k := fun k e => by rw [hnv] at e; cases e; exact hloc
    rcases List.mem_cons.1 hk with rfl | hk
    · exact ⟨by omega, by omega, fun e => by rcases hg2 _ e with e | e; have := hnl _ e; omega; omega, by omega⟩
    · obtain ⟨c1, c2, c3, c4⟩ := h.cold k hk
      exact ⟨c1, c2, fun e => by rcases hg2 _ e with e | e; exact c3 e; omega, by omega⟩
  · have m1 : Mods (· ∈ pz b mb nv cz) w0 w1 := Mods.of_new h1
    have m2 := m1.trans hg (fun k _ e => mem_pz.2 (.inr (.inr (.inl e))))
    have m3 := m2.setCell (p := ⟨b, 2, none⟩) (fun _ => mem_pz.2 (.inl rfl)) nv'
    exact m3.grown h4 (fun k e _ => by cases e; exact mem_pz.2 (.inr (.inl rfl)))
  · intro k hk
    rcases mem_pz.1 hk with e | e | e | e
    · exact .inl (mem_pz.2 (.inl e))
    · exact .inl (mem_pz.2 (.inr (.inl e)))
    · rw [hnv] at e
      cases e
      rcases hloc with e | e
      · exact .inl (mem_pz.2 (.inr (.inr (.inl e))))
      · exact .inr (by show w0.heap.size ≤ g; omega)
    · rcases List.mem_cons.1 e with rfl | e
      · exact .inr hgk
      · exact .inl (mem_pz.2 (.inr (.inr (.inr e))))
end
end Go.Proofs.Ytmfdcaalbpikpaa
