/- A book that takes one list more. No program in sight. -/
import Derived.Test.YtphmmpdeehfhjaaQ2
namespace Go.Proofs.Ytphmmpdeehfhjaa
open Go.RowKit
set_option linter.unusedVariables false
set_option linter.unusedSimpArgs false
theorem mem_hz {bb : Nat} {fv wv av : Value} {k : Nat} : k ∈ hz bb fv wv av ↔ k = bb ∨ fv.ownBlock = some k ∨ wv.ownBlock = some k ∨ av.ownBlock = some k := by simp [hz]
theorem hz_nodup {bb : Nat} {fv wv av : Value} (h1 : fv.ownBlock ≠ some bb) (h2 : wv.ownBlock ≠ some bb) (h3 : av.ownBlock ≠ some bb) (h4 : ∀ k, fv.ownBlock = some k → wv.ownBlock ≠ some k ∧ av.ownBlock ≠ some k) (h5 : ∀ k, wv.ownBlock = some k → av.ownBlock ≠ some k) : (hz bb fv wv av).Nodup := by
  unfold hz
  cases hf : fv.ownBlock <;> cases hw : wv.ownBlock <;> cases ha : av.ownBlock <;> simp only [hf, hw, ha] at * <;> simp <;> grind
theorem hz_apart {bb : Nat} {fv wv av : Value} (h : (hz bb fv wv av).Nodup) : fv.ownBlock ≠ some bb ∧ wv.ownBlock ≠ some bb ∧ av.ownBlock ≠ some bb ∧ (∀ k, fv.ownBlock = some k → wv.ownBlock ≠ some k ∧ av.ownBlock ≠ some k) ∧ ∀ k, wv.ownBlock = some k → av.ownBlock ≠ some k := by
  unfold hz at h
  cases hf : fv.ownBlock <;> cases hw : wv.ownBlock <;> cases ha : av.ownBlock <;> simp only [hf, hw, ha] at * <;> simp at h ⊢ <;> grind
section
variable {w3 w4 w6 : World} {bb : Nat} {fv wv av fv2 wv2 v : Value} {fl : List (Nat × List Row)} {ws es : List Value} {wz dz : List Nat} {N : Nat} {g : Nat} {L : List Row} {O1 O2 : Obj}
theorem Book.blk4 (h : Book w3 bb fv wv av fl ws es wz dz N) (hg : (w3.alloc O1).grownBy w4 fv.ownBlock) : Blk w4 bb [fv, wv, av, .int .i64 (N : Int)] 28 :=
  (h.head.blk.alloc O1).grown hg (fun e => (hz_apart (List.nodup_append.1 h.nd).1).1 e.symm)
theorem Book.wn5 (h : Book w3 bb fv wv av fl ws es wz dz N) (hg : (w3.alloc O1).grownBy w4 fv.ownBlock) : (w4.setCell ⟨bb, 0, none⟩ fv2).ownsRow 0 44 1 wv ws.length ws := by
  obtain ⟨a1, a2, a3, a4, a5⟩ := hz_apart (List.nodup_append.1 h.nd).1
  refine own_move h.head.wn fun k hk => ?_
  have hk3 := (h.head.wn.lt k hk).2
  rw [Below.heap_setCell _ _ _ _ (fun e => a2 (by rw [hk, e]))]
  rw [hg.block k (by simp; omega) (fun e => (a4 k e.symm).1 hk)]
  exact Below.heap_alloc w3 O1 k hk3
theorem Book.add (h : Book w3 bb fv wv av fl ws es wz dz N) (hr : RowBlk w3 g (rowsCells L)) (hL : 0 < L.length ∧ L.length ≤ 4294967296)
    (hg : g ∉ hz bb fv wv av ∧ g ∉ fl.map (·.1) ∧ g ∉ dz) {A : Option Addr} {c : Nat} (hv : v = .slice A L.length c) (hA : RowsIn w3 A L) {wz2 : List Nat} (hz2 : ∀ k ∈ wz2, k < w3.heap.size ∧ k ∉ hz bb fv wv av) (hAz : ∀ q o, A = some ⟨q, o, none⟩ → q ∈ wz2)
    (o1 : w4.ownsRow 0 44 1 fv2 (fl.length + 1) (fl.map fval ++ [fval (g, L)])) (g1 : (w3.alloc O1).grownBy w4 fv.ownBlock) (l1 : fv2.ownBlock = fv.ownBlock ∨ fv2.ownBlock = some (w3.alloc O1).heap.size)
    (o2 : w6.ownsRow 0 44 1 wv2 (fl.length + 1) (ws ++ [v])) (g2 : ((w4.setCell ⟨bb, 0, none⟩ fv2).alloc O2).grownBy w6 wv.ownBlock) (l2 : wv2.ownBlock = wv.ownBlock ∨ wv2.ownBlock = some ((w4.setCell ⟨bb, 0, none⟩ fv2).alloc O2).heap.size) :
    Blk w6 bb [fv2, wv, av, .int .i64 (N : Int)] 28 ∧ Book (w6.setCell ⟨bb, 1, none⟩ wv2) bb fv2 wv2 av (fl ++ [(g, L)]) (ws ++ [v]) es (wz ++ wz2) dz N ∧ Mods (fun k => k ∈ hz bb fv wv av) w3 (w6.setCell ⟨bb, 1, none⟩ wv2) ∧
      ∀ k, k ∈ hz bb fv2 wv2 av → k ∈ hz bb fv wv av ∨ w3.heap.size ≤ k := by
  obtain ⟨a1, a2, a3, a4, a5⟩ := hz_apart (List.nodup_append.1 h.nd).1
  have hdis := (List.nodup_append.1 h.nd).2.2
  have s1 := g1.size
  have s2 := g2.size
  simp only [World.size_alloc] at s1 s2 l1 l2
  have s4 : (w4.setCell ⟨bb, 0, none⟩ fv2).heap.size = w4.heap.size := by simp [World.setCell]
  rw [s4] at s2 l2
  have hbb := h.head.blk.lt
  have b4 := h.blk4 g1
  have b5 : Blk (w4.setCell ⟨bb, 0, none⟩ fv2) bb [fv2, wv, av, .int .i64 (N : Int)] 28 := b4.set 0 fv2
  have b6 : Blk w6 bb [fv2, wv, av, .int .i64 (N : Int)] 28 := (b5.alloc O2).grown g2 (fun e => a2 e.symm)
  have hmv : ∀ k, k < w3.heap.size → k ≠ bb → fv.ownBlock ≠ some k → wv.ownBlock ≠ some k → (w6.setCell ⟨bb, 1, none⟩ wv2).heap[k]? = w3.heap[k]? := fun k h1 h2 h3 h4 => by
    rw [Below.heap_setCell _ _ _ _ h2, g2.block k (by simp [s4]; omega) (fun e => h4 e.symm), Below.heap_alloc _ _ _ (by rw [s4]; omega), Below.heap_setCell _ _ _ _ h2, g1.block k (by simp; omega) (fun e => h3 e.symm), Below.heap_alloc _ _ _ h1]
  have hmz : ∀ k, k < w3.heap.size → k ∉ hz bb fv wv av → (w6.setCell ⟨bb, 1, none⟩ wv2).heap[k]? = w3.heap[k]? := fun k h1 h2 =>
    hmv k h1 (fun e => h2 (mem_hz.2 (.inl e))) (fun e => h2 (mem_hz.2 (.inr (.inl e)))) (fun e => h2 (mem_hz.2 (.inr (.inr (.inl e)))))
  have f2 : ∀ k, fv2.ownBlock = some k → fv.ownBlock = some k ∨ k = w3.heap.size + 1 := fun k e => by
    rcases l1 with l1 | l1
    · exact .inl (l1 ▸ e)
    · rw [l1] at e; cases e; exact .inr rfl
  have v2 : ∀ k, wv2.ownBlock = some k → wv.ownBlock = some k ∨ k = w4.heap.size + 1 := fun k e => by
    rcases l2 with l2 | l2
    · exact .inl (l2 ▸ e)
    · rw [l2] at e; cases e; exact .inr rfl
  have hlf : ∀ k, fv.ownBlock = some k → k < w3.heap.size := fun k e => h.lt k (.inl (mem_hz.2 (.inr (.inl e))))
  have hlw : ∀ k, wv.ownBlock = some k → k < w3.heap.size := fun k e => h.lt k (.inl (mem_hz.2 (.inr (.inr (.inl e)))))
  have hla : ∀ k, av.ownBlock = some k → k < w3.heap.size := fun k e => h.lt k (.inl (mem_hz.2 (.inr (.inr (.inr e)))))
  have hf2l : ∀ k, fv2.ownBlock = some k → k < w4.heap.size := fun k e => (o1.lt k e).2
  have n1 : fv2.ownBlock ≠ some bb := fun e => by rcases f2 bb e with e | e; exact a1 e; omega
  have n2 : wv2.ownBlock ≠ some bb := fun e => by rcases v2 bb e with e | e; exact a2 e; omega
  have n4 : ∀ k, fv2.ownBlock = some k → wv2.ownBlock ≠ some k ∧ av.ownBlock ≠ some k := fun k e => by
    have := hf2l k e
    refine ⟨fun e2 => ?_, fun e2 => ?_⟩
    · rcases v2 k e2 with e3 | e3
      · rcases f2 k e with e4 | e4
        · exact (a4 k e4).1 e3
        · have := hlw k e3; omega
      · omega
    · rcases f2 k e with e4 | e4
      · exact (a4 k e4).2 e2
      · have := hla k e2; omega
  have n5 : ∀ k, wv2.ownBlock = some k → av.ownBlock ≠ some k := fun k e e2 => by
    rcases v2 k e with e3 | e3
    · exact a5 k e3 e2
    · have := hla k e2; omega
  have hsub : ∀ k, k ∈ hz bb fv2 wv2 av → k ∈ hz bb fv wv av ∨ w3.heap.size ≤ k := fun k hk => by
    rcases mem_hz.1 hk with e | e | e | e
    · exact .inl (mem_hz.2 (.inl e))
    · rcases f2 k e with e | e
      · exact .inl (mem_hz.2 (.inr (.inl e)))
      · exact .inr (by omega)
    · rcases v2 k e with e | e
      · exact .inl (mem_hz.2 (.inr (.inr (.inl e))))
      · exact .inr (by omega)
    · exact .inl (mem_hz.2 (.inr (.inr (.inr e))))
  have hgl := hr.lt
  have s7 : (w6.setCell ⟨bb, 1, none⟩ wv2).heap.size = w6.heap.size := by simp [World.setCell]
  have hlw7 : ws.length = fl.length := h.lw
  refine ⟨b6, ⟨⟨b6.set 1 wv2, ?_, ?_, own_move h.head.a fun k hk => hmv k (hla k hk) (fun e => a3 (by rw [hk, e])) (fun e => (a4 k e).2 hk) (fun e => a5 k e hk)⟩, by simp [hlw7], fun p hp => ?_, fun j hj => ?_, h.la, fun i hi => (h.all i hi).move fun k hk => hmz k (h.lt k (.inr (.inr (.inl hk)))) (h.dd k hk).1, ?_, fun k hk => ⟨fun hk2 => ?_, fun hk2 => ?_⟩, fun k hk hk2 => ?_, fun k hk => ?_⟩, ?_, hsub⟩
  · rw [List.map_append, List.length_append, List.length_map]
    refine own_move o1 fun k hk => ?_
    have hkb : k ≠ bb := fun e => n1 (by rw [hk, e])
    rw [Below.heap_setCell _ _ _ _ hkb, g2.block k (by simp [s4]; have := hf2l k hk; omega) (fun e => ?_), Below.heap_alloc _ _ _ (by rw [s4]; exact hf2l k hk), Below.heap_setCell _ _ _ _ hkb]
    rcases f2 k hk with e2 | e2
    · exact (a4 k e2).1 e.symm
    · have := hlw k e.symm; omega
  · rw [List.length_append, List.length_singleton, hlw7]
    exact ownsRow_setCell_other o2 n2 _
  · rcases List.mem_append.1 hp with hp | hp
    · obtain ⟨h1, h2⟩ := h.free p hp
      have hm := List.mem_map_of_mem (f := fun x : Nat × List Row => x.1) hp
      exact ⟨h1.move (hmz p.1 (h.lt p.1 (.inr (.inl hm))) (fun e => hdis p.1 e p.1 hm rfl)), h2⟩
    · simp at hp
      subst hp
      exact ⟨hr.move (hmz g hgl hg.1), hL⟩
  · rw [List.length_append, List.length_singleton] at hj
    by_cases hjl : j < ws.length
    · obtain ⟨A', c', e1, e2, e3⟩ := h.want j hjl
      refine ⟨A', c', ?_, ?_, fun q o e => List.mem_append_left _ (e3 q o e)⟩
      · rw [List.getElem_append_left hjl, List.getElem_append_left (by omega)]
        exact e1
      · rw [List.getElem_append_left (by omega)]
        exact e2.move fun q o e hq => hmz q hq (h.wzd q (e3 q o e))
    · have ej : j = ws.length := by omega
      subst ej
      refine ⟨A, c, ?_, ?_, fun q o e => List.mem_append_right _ (hAz q o e)⟩
      · rw [List.getElem_append_right (Nat.le_refl _), List.getElem_append_right (by omega)]
        simp [hlw7, hv]
      · rw [List.getElem_append_right (by omega)]
        simp only [hlw7, Nat.sub_self, List.getElem_cons_zero]
        exact hA.move fun q o e hq => hmz q hq (hz2 q (hAz q o e)).2
  · rw [List.map_append]
    refine List.nodup_append.2 ⟨hz_nodup n1 n2 a3 n4 n5, ?_, fun x hx y hy e => ?_⟩
    · refine List.nodup_append.2 ⟨(List.nodup_append.1 h.nd).2.1, by simp, fun x hx y hy e => ?_⟩
      simp at hy
      subst hy e
      exact hg.2.1 hx
    · subst e
      rcases List.mem_append.1 hy with hy | hy
      · rcases hsub x hx with h1 | h1
        · exact hdis x h1 x hy rfl
        · have := h.lt x (.inr (.inl hy)); omega
      · simp at hy
        subst hy
        rcases hsub x hx with h1 | h1
        · exact hg.1 h1
        · omega
  · rcases hsub k hk2 with h1 | h1
    · exact (h.dd k hk).1 h1
    · have := h.lt k (.inr (.inr (.inl hk))); omega
  · rw [List.map_append] at hk2
    rcases List.mem_append.1 hk2 with h1 | h1
    · exact (h.dd k hk).2 h1
    · simp at h1; subst h1; exact hg.2.2 hk
  · rcases List.mem_append.1 hk with hk | hk
    · rcases hsub k hk2 with h1 | h1
      · exact h.wzd k hk h1
      · have := h.lt k (.inr (.inr (.inr hk))); omega
    · rcases hsub k hk2 with h1 | h1
      · exact (hz2 k hk).2 h1
      · have := (hz2 k hk).1; omega
  · rw [s7]
    rcases hk with hk | hk | hk | hk
    · rcases mem_hz.1 hk with e | e | e | e
      · omega
      · have := hf2l k e; omega
      · exact (o2.lt k e).2
      · have := hla k e; omega
    · rw [List.map_append] at hk
      rcases List.mem_append.1 hk with h1 | h1
      · have := h.lt k (.inr (.inl h1)); omega
      · simp at h1; omega
    · have := h.lt k (.inr (.inr (.inl hk))); omega
    · rcases List.mem_append.1 hk with h1 | h1
      · have := h.lt k (.inr (.inr (.inr h1))); omega
      · have := (hz2 k h1).1; omega
  · have m0 : Mods (fun k => k ∈ hz bb fv wv av) w3 (w3.alloc O1) := (Mods.refl _ _).alloc O1
    have m1 := m0.grown g1 (fun k e _ => mem_hz.2 (.inr (.inl e)))
    have m2 := m1.setCell (p := ⟨bb, 0, none⟩) (fun _ => mem_hz.2 (.inl rfl)) fv2
    have m3 := (m2.alloc O2).grown g2 (fun k e _ => mem_hz.2 (.inr (.inr (.inl e))))
    exact m3.setCell (p := ⟨bb, 1, none⟩) (fun _ => mem_hz.2 (.inl rfl)) wv2
end
end Go.Proofs.Ytphmmpdeehfhjaa
