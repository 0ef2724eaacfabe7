/- The document's Make: what it compares; its arena with a node more. -/
import Derived.Test.YtmfdcaalbpikpaaA9
namespace Go.Proofs.Ytmfdcaalbpikpaa
open Go.RowKit Go.WideMaps Go.Maps
set_option linter.unusedVariables false
set_option linter.unusedSimpArgs false
theorem rsame_any (A B : Option Addr) (ca cb : Nat) (a b : List Int) (hl : a.length = b.length) (w : World) (ha : IntsIn w A a) (hb : IntsIn w B b) :
    Calls Try.prog 50 #[.slice A a.length ca, .slice B b.length cb] w fun e w' => e = .returned (.bool (decide (a = b))) ∧ ∃ n, w' = w.drewN n := by
  have hla := ha.1
  have hlb := hb.1
  have HA := Hid.mk_ ha
  have HB := Hid.mk_ hb
  clear ha hb
  have l1 : a.length ≤ b.length := by omega
  have l2 : b.length ≤ a.length := by omega
  have hne : ((a.length : Int) == (b.length : Int)) = true := by simp; omega
  have hne2 : decide ((a.length : Int) = (b.length : Int)) = true := decide_eq_true (by omega)
  have HL := Hid.mk_ hl
  clear hl
  go_enter Try.func50, Try.ntmps50
  go_wp2_with fail
  go_loopw [5] (fun x wr => ∃ (k m : Nat), k ≤ a.length ∧ x = .int .i64 (k : Int) ∧ Hid (a.take k = b.take k) ∧ wr = w.drewN m) (fun x _ => a.length - (intOf x).toNat)
  case atStart => exact ⟨0, 0, Nat.zero_le _, rfl, rfl, rfl⟩
  case round =>
    obtain ⟨k, m, hk, rfl, hT, rfl⟩ := hrel
    by_cases hlt : k < a.length
    · have hltb : k < b.length := by omega
      have hlt1 : (k : Int) < a.length := by omega
      have hlt2 : (k : Int) < b.length := by omega
      obtain ⟨g, o, rfl, _, hc⟩ := HA.out.2 (by omega)
      obtain ⟨g', o', rfl, _, hc'⟩ := HB.out.2 (by omega)
      have c0 := hc k hlt
      have d0 := hc' k hltb
      obtain ⟨q, hq⟩ : ∃ q, q = a[k]'hlt := ⟨_, rfl⟩
      obtain ⟨r, hr⟩ : ∃ r, r = b[k]'hltb := ⟨_, rfl⟩
      rw [← hq] at c0
      rw [← hr] at d0
      have HQ := Hid.mk_ hq
      have HR := Hid.mk_ hr
      clear hq hr hc hc'
      by_cases hqr : q = r
      · have HE := Hid.mk_ hqr
        have t0 : (q != r) = false := by simp [hqr]
        have t1 : (q == r) = true := by simp [hqr]
        have t2 : decide (q = r) = true := decide_eq_true hqr
        clear hqr
        go_wp2_with fail
        go_big_quiet (fail)
        go_wp2_with fail
        go_roundw
        case rel => exact ⟨k + 1, _, by omega, by go_num, by show a.take (k + 1) = b.take (k + 1); rw [List.take_succ_eq_append_getElem hlt, List.take_succ_eq_append_getElem hltb, hT.out, ← HQ.out, ← HR.out, HE.out], rfl⟩
        case measure => simp [intOf]; omega
      · have HE := Hid.mk_ hqr
        have t0 : (q != r) = true := by simpa using hqr
        have t1 : (q == r) = false := by simpa using hqr
        have t2 : decide (q = r) = false := decide_eq_false hqr
        clear hqr
        go_wp2_with fail
        go_big_quiet (fail)
        go_wp2_with fail
        go_ret
        refine ⟨?_, _, World.drewN_drewN ..⟩
        rw [decide_eq_false (fun e => HE.out (by rw [HQ.out, HR.out]; subst e; rfl))]
        rfl
    · have hge : ¬ ((k : Int) < a.length) := by omega
      go_wp2_with fail
      go_ret
      refine ⟨?_, _, rfl⟩
      have hab : a = b := by
        have h := hT.out
        rwa [List.take_of_length_le (by omega), List.take_of_length_le (by omega)] at h
      rw [decide_eq_true hab]
      rfl
/-! the plain law of the document's search -/
section
variable {S : List Int} {M : Int} {N : List Nd}
/-- the ref of a node whose level and kids are these, found by going through the refs of its level -/
theorem refs_idx (hn : N.Nodup) {lv : Int} {ks : List Int} (i : Nat) (hi : i < N.length) (he : N[i]'hi = ⟨lv, ks⟩) : (⟨lv, ks⟩ : Nd) ∈ N ∧ (N.idxOf (⟨lv, ks⟩ : Nd) : Int) + 2 = (i : Int) + 2 := by
  have hm : (⟨lv, ks⟩ : Nd) ∈ N := by rw [← he]; exact List.getElem_mem hi
  refine ⟨hm, ?_⟩
  have hl := List.idxOf_lt_length_of_mem hm
  have h1 : N[N.idxOf (⟨lv, ks⟩ : Nd)]'hl = N[i]'hi := by rw [List.getElem_idxOf, he]
  have := (List.getElem_inj hn).1 h1
  omega
theorem refs_none {lv : Int} {ks : List Int} (h : ∀ f ∈ refs N lv, ∀ i (hi : i < N.length), f = (i : Int) + 2 → (N[i]'hi).ks ≠ ks) : (⟨lv, ks⟩ : Nd) ∉ N := by
  intro hm
  obtain ⟨i, hi, he⟩ := List.getElem_of_mem hm
  exact h _ (refs_mem.2 ⟨i, hi, rfl, by rw [he]⟩) i hi rfl (by rw [he])
theorem may_all {lv : Int} {ks : List Int} (h1 : shapeA S lv ks.length = true) (h2 : ks.all (lowA S N lv) = true) : mayA S N lv ks = true := by unfold mayA; rw [h1, h2]; rfl
theorem may_bad {lv : Int} {ks : List Int} (x : Int) (hx : x ∈ ks) (h2 : lowA S N lv x = false) : mayA S N lv ks = false := by
  unfold mayA
  have : ks.all (lowA S N lv) = false := by rw [List.all_eq_false]; exact ⟨x, hx, by rw [h2]; decide⟩
  rw [this, Bool.and_false]
theorem may_noshape {lv : Int} {ks : List Int} (h : shapeA S lv ks.length = false) : mayA S N lv ks = false := by unfold mayA; rw [h]; rfl
end
end Go.Proofs.Ytmfdcaalbpikpaa
namespace Go.Proofs.Ytmfdcaalbpikpaa
open Go.RowKit Go.WideMaps Go.Maps
set_option linter.unusedVariables false
set_option linter.unusedSimpArgs false
def RGrew (w w' : World) (b : Nat) (S : List Int) (M : Int) (N : List Nd) (z : List Nat) : Prop := ∃ z', RAt w' b S M N z' ∧ Mods (· ∈ z) w w' ∧ ∀ k ∈ z', k ∈ z ∨ w.heap.size ≤ k
section
variable {w w' w0 w1 w2 w4 : World} {b gl cl : Nat} {rv' : Value} {S : List Int} {M : Int} {L : List (Nd × Value)} {nv sv lv : Value} {rows : List Value} {cz : List Nat}
theorem RA.grew (h : RA w b S M L nv sv lv rows cz) (hb : Below w.heap.size w w') : RGrew w w' b S M (nds L) (rz b nv lv rows cz) :=
  ⟨_, ⟨L, nv, sv, lv, rows, cz, h.new hb, rfl, rfl⟩, Mods.of_new hb, fun k hk => .inl hk⟩
theorem RA.apartB (h : RA w b S M L nv sv lv rows cz) : nv.ownBlock ≠ some b ∧ lv.ownBlock ≠ some b ∧ (∀ i (hi : i < rows.length), (rows[i]'hi).ownBlock ≠ some b) ∧
    (∀ k, nv.ownBlock = some k → lv.ownBlock ≠ some k) ∧ (∀ k i (hi : i < rows.length), nv.ownBlock = some k → (rows[i]'hi).ownBlock ≠ some k) ∧ (∀ k i (hi : i < rows.length), lv.ownBlock = some k → (rows[i]'hi).ownBlock ≠ some k) :=
  ⟨row_blk h.row h.blk (by decide), row_blk h.lrow h.blk (by decide), fun i hi => row_blk (h.rws i hi) h.blk (by decide), fun k hk => row_type h.row h.lrow (by decide) hk, fun k i hi hk => row_type h.row (h.rws i hi) (by decide) hk, fun k i hi hk => row_type h.lrow (h.rws i hi) (by decide) hk⟩
theorem RA.snoc (h : RA w0 b S M L nv sv (.slice (some ⟨gl, 0, none⟩) S.length cl) rows cz) {nd : Nd} {gk ck g c g4 c4 i : Nat} {nv' : Value} (hi : i < rows.length) (hlv : nd.lv = (i : Int)) (h1 : Below w0.heap.size w0 w1)
    (hk : Row w1 3 1 (.slice (some ⟨gk, 0, none⟩) nd.ks.length ck) nd.ks.length (nd.ks.map (Value.int .i64))) (hgk : w0.heap.size ≤ gk) (hlen : nd.ks.length ≤ 256)
    (hr : Row w2 55 2 nv' (L.length + 1) (ndCells L ++ [.int .i64 nd.lv, .slice (some ⟨gk, 0, none⟩) nd.ks.length ck])) (hnv : nv' = .slice (some ⟨g, 0, none⟩) (L.length + 1) c) (hg : Mods (fun k => nv.ownBlock = some k) w1 w2) (hloc : nv.ownBlock = some g ∨ w1.heap.size ≤ g)
    (hr4 : Row w4 3 1 rv' ((refs (nds L) (i : Int)).length + 1) ((refs (nds L) (i : Int)).map (Value.int .i64) ++ [.int .i64 ((L.length : Int) + 2)])) (hrv : rv' = .slice (some ⟨g4, 0, none⟩) ((refs (nds L) (i : Int)).length + 1) c4)
    (hg4 : Mods (fun k => (rows[i]'hi).ownBlock = some k) (w2.setCell ⟨b, 2, none⟩ nv') w4) (hloc4 : (rows[i]'hi).ownBlock = some g4 ∨ w2.heap.size ≤ g4)
    (hgood : Good S M (nds L ++ [nd])) :
    RGrew w0 (w4.setCell ⟨gl, i, none⟩ rv') b S M (nds L ++ [nd]) (rz b nv (.slice (some ⟨gl, 0, none⟩) S.length cl) rows cz) := by
  obtain ⟨n1, n2, n3, n4, n5, n6⟩ := h.apartB
  have hbl := h.blk.lt
  have hgl : gl < w0.heap.size := h.lrow.lt gl rfl
  have n2' : gl ≠ b := fun e => n2 (by rw [e]; rfl)
  have hgkl : gk < w1.heap.size := hk.lt gk rfl
  have s1 := h1.size
  have s2 := hg.size
  have s3 : (w2.setCell ⟨b, 2, none⟩ nv').heap.size = w2.heap.size := by simp [World.setCell]
  have s4 := hg4.size
  rw [s3] at s4
  have s5 : (w4.setCell ⟨gl, i, none⟩ rv').heap.size = w4.heap.size := by simp [World.setCell]
  have hgw2 : g < w2.heap.size := hr.lt g (by rw [hnv]; rfl)
  have hnl : ∀ k, nv.ownBlock = some k → k < w0.heap.size := fun k hk => h.row.lt k hk
  have hrl : ∀ j (hj : j < rows.length) k, (rows[j]'hj).ownBlock = some k → k < w0.heap.size := fun j hj k hk => (h.rws j hj).lt k hk
  have gb : g ≠ b := fun e => by subst e; rcases hloc with e | e; exact n1 e; omega
  have ggl : g ≠ gl := fun e => by subst e; rcases hloc with e | e; exact n4 _ e rfl; omega
  have gri : (rows[i]'hi).ownBlock ≠ some g := fun e => by rcases hloc with e2 | e2; exact n5 _ i hi e2 e; have := hrl i hi _ e; omega
  have g4b : g4 ≠ b := fun e => by subst e; rcases hloc4 with e | e; exact n3 i hi e; omega
  have g4gl : g4 ≠ gl := fun e => by subst e; rcases hloc4 with e | e; exact n6 _ i hi rfl e; omega
  have keep : ∀ k, k < w1.heap.size → k ≠ b → k ≠ gl → nv.ownBlock ≠ some k → (rows[i]'hi).ownBlock ≠ some k → (w4.setCell ⟨gl, i, none⟩ rv').heap[k]? = w1.heap[k]? := fun k k1 k2 k3 k4 k5 => by
    rw [Below.heap_setCell _ _ _ _ k3, hg4.block k (by omega) k5, Below.heap_setCell _ _ _ _ k2, hg.block k k1 k4]
  have hcz : ∀ k ∈ cz, (w4.setCell ⟨gl, i, none⟩ rv').heap[k]? = w0.heap[k]? := fun k hk => by
    obtain ⟨c1, c2, c3, c4, c5⟩ := h.cold k hk
    rw [keep k (by omega) c1 (fun e => c3 (by rw [e]; rfl)) c2 (c4 _ (List.getElem_mem hi)), h1.block k c5]
  have hrle := h.rl
  have hset : ∀ j (hj : j < (rows.set i rv').length), j ≠ i → (rows.set i rv')[j]'hj = rows[j]'(by simpa using hj) := fun j hj hne => by rw [List.getElem_set_ne (by omega)]
  have hseti : (rows.set i rv')[i]'(by simpa using hi) = rv' := by rw [List.getElem_set_self]
  have rvb : ∀ k, rv'.ownBlock = some k → k = g4 := fun k e => by rw [hrv] at e; cases e; rfl
  have nvb : ∀ k, nv'.ownBlock = some k → k = g := fun k e => by rw [hnv] at e; cases e; rfl
  have mem_set : ∀ v ∈ rows.set i rv', v = rv' ∨ v ∈ rows := fun v hv => by
    rcases List.mem_or_eq_of_mem_set hv with e | e
    · exact .inr e
    · exact .inl e
  have hN : nds (L ++ [(nd, Value.slice (some ⟨gk, 0, none⟩) nd.ks.length ck)]) = nds L ++ [nd] := by simp [nds]
  refine ⟨rz b nv' (.slice (some ⟨gl, 0, none⟩) S.length cl) (rows.set i rv') (gk :: cz), ⟨L ++ [(nd, .slice (some ⟨gk, 0, none⟩) nd.ks.length ck)], nv', sv, .slice (some ⟨gl, 0, none⟩) S.length cl, rows.set i rv', gk :: cz, ⟨?_, ?_, ?_, ?_, ?_, ?_, ?_, ?_, ?_⟩, hN, rfl⟩, ?_, ?_⟩
  · have hb2 : Blk w2 b [sv, .int .i64 M, nv, .slice (some ⟨gl, 0, none⟩) S.length cl] 82 := (h.blk.below h1 hbl).mods hg (fun e => n1 e)
    have hb3 := (hb2.set 2 nv').mods hg4 (fun e => n3 i hi e)
    exact hb3.far (fun e => n2' e.symm) _
  · exact (h.s.move (by omega) hcz).mono (fun k hk => List.mem_cons_of_mem _ hk)
  · rw [List.length_append, List.length_singleton, ndCells_append]
    refine hr.move fun k hk => ?_
    have := nvb k hk
    subst this
    rw [Below.heap_setCell _ _ _ _ ggl, hg4.block _ (by omega) gri, Below.heap_setCell _ _ _ _ gb]
  · intro p hp
    rcases List.mem_append.1 hp with hp | hp
    · exact ((h.kid p hp).move (by omega) hcz).mono (fun k hk => List.mem_cons_of_mem _ hk)
    · simp at hp
      subst hp
      refine Row.kid (Row.move hk fun k hk => ?_) hlen (by simp)
      cases hk
      exact keep gk hgkl (by omega) (by omega) (fun e => by have := hnl gk e; omega) (fun e => by have := hrl i hi gk e; omega)
  · have hl4 : Row w4 22 1 (.slice (some ⟨gl, 0, none⟩) S.length cl) S.length rows := h.lrow.move fun k hk => by
      cases hk
      rw [hg4.block gl (by omega) (fun e => n6 gl i hi rfl e), Below.heap_setCell _ _ _ _ n2', hg.block gl (by omega) (fun e => n4 gl e rfl), h1.block gl hgl]
    exact hl4.set i rv'
  · intro j hj
    have hjl : j < rows.length := by simpa using hj
    rw [hN, refs_snoc]
    by_cases e : j = i
    · subst e
      rw [if_pos hlv, hseti, List.length_append, List.length_singleton, List.map_append, nds_length]
      refine Row.move hr4 fun k hk => ?_
      have := rvb k hk
      subst this
      exact Below.heap_setCell _ _ _ _ g4gl
    · rw [if_neg (by rw [hlv]; omega), List.append_nil, hset j hj e]
      refine (h.rws j hjl).move fun k hk => ?_
      have k0 := hrl j hjl k hk
      rw [keep k (by omega) (fun e2 => n3 j hjl (by rw [hk, e2])) (fun e2 => n6 k j hjl (by rw [e2]; rfl) hk) (fun e2 => n5 k j hjl e2 hk) (h.apart j i hjl hi e k hk), h1.block k k0]
  · intro j1 j2 hj1 hj2 hne k hk1 hk2
    have hl1 : j1 < rows.length := by simpa using hj1
    have hl2 : j2 < rows.length := by simpa using hj2
    by_cases e1 : j1 = i
    · subst e1
      rw [hseti] at hk1
      rw [hset j2 hj2 (fun e => hne e.symm)] at hk2
      have := rvb k hk1
      subst this
      rcases hloc4 with e | e
      · exact h.apart j1 j2 hl1 hl2 hne _ e hk2
      · have := hrl j2 hl2 _ hk2; omega
    · rw [hset j1 hj1 e1] at hk1
      by_cases e2 : j2 = i
      · subst e2
        rw [hseti] at hk2
        have := rvb k hk2
        subst this
        rcases hloc4 with e | e
        · exact h.apart j1 j2 hl1 hl2 hne _ hk1 e
        · have := hrl j1 hl1 _ hk1; omega
      · rw [hset j2 hj2 e2] at hk2
        exact h.apart j1 j2 hl1 hl2 hne _ hk1 hk2
  · rw [hN]; exact hgood
  · intro k hk
    have hg4l : g4 < w4.heap.size := hr4.lt g4 (by rw [hrv]; rfl)
    rcases List.mem_cons.1 hk with rfl | hk
    · refine ⟨by omega, fun e => ?_, fun e => ?_, fun v hv e => ?_, by omega⟩
      · have := nvb _ e; subst this; rcases hloc with e | e; have := hnl _ e; omega; omega
      · have e2 : gl = _ := Option.some.inj e; omega
      · rcases mem_set v hv with rfl | hv
        · have := rvb _ e; subst this; rcases hloc4 with e | e; have := hrl i hi _ e; omega; omega
        · obtain ⟨j, hj, rfl⟩ := List.getElem_of_mem hv
          have := hrl j hj _ e; omega
    · obtain ⟨c1, c2, c3, c4, c5⟩ := h.cold k hk
      refine ⟨c1, fun e => ?_, c3, fun v hv e => ?_, by omega⟩
      · have := nvb _ e; subst this; rcases hloc with e | e; exact c2 e; omega
      · rcases mem_set v hv with rfl | hv
        · have := rvb _ e; subst this; rcases hloc4 with e | e; exact c4 _ (List.getElem_mem hi) e; omega
        · exact c4 v hv e
  · have m1 : Mods (· ∈ rz b nv (.slice (some ⟨gl, 0, none⟩) S.length cl) rows cz) w0 w1 := Mods.of_new h1
    have m2 := m1.trans hg (fun k _ e => mem_rz.2 (.inr (.inl e)))
    have m3 := m2.setCell (p := ⟨b, 2, none⟩) (fun _ => mem_rz.2 (.inl rfl)) nv'
    have m4 := m3.trans hg4 (fun k _ e => mem_rz.2 (.inr (.inr (.inr (.inl ⟨_, List.getElem_mem hi, e⟩)))))
    exact m4.setCell (p := ⟨gl, i, none⟩) (fun _ => mem_rz.2 (.inr (.inr (.inl rfl)))) rv'
  · intro k hk
    rcases mem_rz.1 hk with e | e | e | ⟨v, hv, e⟩ | e
    · exact .inl (mem_rz.2 (.inl e))
    · have := nvb _ e
      subst this
      rcases hloc with e | e
      · exact .inl (mem_rz.2 (.inr (.inl e)))
      · exact .inr (by omega)
    · exact .inl (mem_rz.2 (.inr (.inr (.inl e))))
    · rcases mem_set v hv with rfl | hv
      · have := rvb _ e
        subst this
        rcases hloc4 with e | e
        · exact .inl (mem_rz.2 (.inr (.inr (.inr (.inl ⟨_, List.getElem_mem hi, e⟩)))))
        · exact .inr (by omega)
      · exact .inl (mem_rz.2 (.inr (.inr (.inr (.inl ⟨v, hv, e⟩)))))
    · rcases List.mem_cons.1 e with rfl | e
      · exact .inr hgk
      · exact .inl (mem_rz.2 (.inr (.inr (.inr (.inr e)))))
theorem RA.after {w6 w7 : World} {nv' : Value} (h : RA w0 b S M L nv sv lv rows cz) (h6 : Below w0.heap.size w0 w6) (hg : Mods (fun k => nv.ownBlock = some k) w6 w7) :
    Blk (w7.setCell ⟨b, 2, none⟩ nv') b [sv, .int .i64 M, nv', lv] 82 ∧ Row (w7.setCell ⟨b, 2, none⟩ nv') 22 1 lv S.length rows ∧ ∀ i (hi : i < rows.length), Row (w7.setCell ⟨b, 2, none⟩ nv') 3 1 (rows[i]'hi) (refs (nds L) (i : Int)).length ((refs (nds L) (i : Int)).map (Value.int .i64)) := by
  obtain ⟨n1, n2, n3, n4, n5, n6⟩ := h.apartB
  have s6 := h6.size
  refine ⟨((h.blk.below h6 h.blk.lt).mods hg n1).set 2 nv', h.lrow.move fun k hk => ?_, fun i hi => (h.rws i hi).move fun k hk => ?_⟩
  · have := h.lrow.lt k hk
    rw [Below.heap_setCell _ _ _ _ (fun e => n2 (by rw [hk, e])), hg.block k (by omega) (fun e => n4 k e hk), h6.block k this]
  · have := (h.rws i hi).lt k hk
    rw [Below.heap_setCell _ _ _ _ (fun e => n3 i hi (by rw [hk, e])), hg.block k (by omega) (fun e => n5 k i hi e hk), h6.block k this]
end
end Go.Proofs.Ytmfdcaalbpikpaa
