/- A new arena of the document's. -/
import Derived.Test.YtmfdcaalbpikpaaC9
import Derived.Deep.RegionLaw
namespace Go.Proofs.Ytmfdcaalbpikpaa
open Go.RowKit Go.WideMaps Go.Maps
set_option linter.unusedVariables false
set_option linter.unusedSimpArgs false
theorem Try.info45 : (Try.prog.info? 45).map (fun i => (i.zero, i.size, i.bytes)) = some (some (.slice none 0 0), 1, 24) := by kernel_rfl
/-- the new arena's box, its first k sizes and levels -/
structure Newing (w w' : World) (b : Nat) (S : List Int) (M : Int) (k : Nat) (sv lv : Value) : Prop where
  blk : Blk w' b [sv, .int .i64 M, .slice none 0 0, lv] 82
  s : Row w' 3 1 sv k ((S.take k).map (Value.int .i64))
  l : Row w' 22 1 lv k (List.replicate k (.slice none 0 0))
  fs : ∀ j, sv.ownBlock = some j → w.heap.size ≤ j
  fl : ∀ j, lv.ownBlock = some j → w.heap.size ≤ j
  fb : w.heap.size ≤ b
  below : Below w.heap.size w w'
section
variable {w w' w1 w2 : World} {A : Option Addr} {c b k : Nat} {S : List Int} {M : Int} {sv lv : Value}
theorem Newing.done (h : Newing w w' b S M S.length sv lv) (hS : Sized S M) : ∃ z, RAt w' b S M [] z ∧ ∀ k ∈ z, w.heap.size ≤ k := by
  have hs := h.s
  rw [List.take_length] at hs
  obtain ⟨gs, cs, rfl, hgs, hcs⟩ := hs.some_ (by have := hS.s1; omega)
  have hr : ∀ i (hi : i < (List.replicate S.length (Value.slice none 0 0)).length), (List.replicate S.length (Value.slice none 0 0))[i]'hi = .slice none 0 0 := fun i hi => by simp
  refine ⟨rz b (.slice none 0 0) lv (List.replicate S.length (.slice none 0 0)) [gs], ⟨[], .slice none 0 0, .slice (some ⟨gs, 0, none⟩) S.length cs, lv, List.replicate S.length (.slice none 0 0), [gs], ⟨h.blk, ?_, Row.nil _ _ _, fun p hp => absurd hp (by simp), h.l, ?_, ?_, Good.nil hS, ?_⟩, rfl, rfl⟩, ?_⟩
  · exact Row.kid hs (by have := hS.s2; omega) (by simp)
  · intro i hi
    rw [hr i hi]
    have e : refs (nds []) (i : Int) = [] := rfl
    rw [e]
    exact Row.nil _ _ _
  · intro i j hi hj hne k hk
    rw [hr i hi] at hk
    simp [Value.ownBlock] at hk
  · intro k hk
    simp at hk
    subst hk
    refine ⟨fun e => ?_, by simp [Value.ownBlock], fun e => ?_, fun v hv e => ?_, hgs⟩
    · subst e; exact row_blk hs h.blk (by decide) rfl
    · exact row_type hs h.l (by decide) (k := k) rfl e
    · rw [List.eq_of_mem_replicate hv] at e; simp [Value.ownBlock] at e
  · intro k hk
    rcases mem_rz.1 hk with e | e | e | ⟨v, hv, e⟩ | e
    · subst e; exact h.fb
    · simp [Value.ownBlock] at e
    · exact h.fl k e
    · rw [List.eq_of_mem_replicate hv] at e; simp [Value.ownBlock] at e
    · simp at e; subst e; exact h.fs _ rfl
theorem Newing.step (h : Newing w w' b S M k sv lv) (hk : k < S.length) {sv' lv' : Value} {g c g2 c2 : Nat}
    (h1 : Row w1 3 1 sv' (k + 1) ((S.take k).map (Value.int .i64) ++ [.int .i64 (S[k]'hk)])) (e1 : sv' = .slice (some ⟨g, 0, none⟩) (k + 1) c) (m1 : Mods (fun j => sv.ownBlock = some j) w' w1) (l1 : sv.ownBlock = some g ∨ w'.heap.size ≤ g)
    (h2 : Row w2 22 1 lv' (k + 1) (List.replicate k (.slice none 0 0) ++ [.slice none 0 0])) (e2 : lv' = .slice (some ⟨g2, 0, none⟩) (k + 1) c2) (m2 : Mods (fun j => lv.ownBlock = some j) (w1.setCell ⟨b, 0, none⟩ sv') w2) (l2 : lv.ownBlock = some g2 ∨ w1.heap.size ≤ g2) :
    Newing w (w2.setCell ⟨b, 3, none⟩ lv') b S M (k + 1) sv' lv' := by
  have nb := row_blk h.s h.blk (by decide)
  have lb := row_blk h.l h.blk (by decide)
  have hbl := h.blk.lt
  have s1 := m1.size
  have s0 := h.below.size
  have ss : (w1.setCell ⟨b, 0, none⟩ sv').heap.size = w1.heap.size := by simp [World.setCell]
  have s2 := m2.size
  rw [ss] at s2
  have sl := fun j (hj : sv.ownBlock = some j) => h.s.lt j hj
  have ll := fun j (hj : lv.ownBlock = some j) => h.l.lt j hj
  have gb : g ≠ b := fun e => by rcases l1 with e3 | e3; exact nb (by rw [e3, e]); omega
  have g2b : g2 ≠ b := fun e => by rcases l2 with e3 | e3; exact lb (by rw [e3, e]); omega
  have hg1 : g < w1.heap.size := h1.lt g (by rw [e1]; rfl)
  have glv : lv.ownBlock ≠ some g := fun e => by rcases l1 with e3 | e3; exact row_type h.s h.l (by decide) e3 e; have := ll g e; omega
  refine ⟨?_, ?_, ?_, ?_, ?_, h.fb, ?_⟩
  · have b1 := (h.blk.mods m1 (fun e => nb e)).set 0 sv'
    exact (b1.mods m2 (fun e => lb e)).set 3 lv'
  · rw [List.take_succ_eq_append_getElem hk, List.map_append]
    refine Row.move h1 fun j hj => ?_
    rw [e1] at hj
    cases hj
    rw [Below.heap_setCell _ _ _ _ gb, m2.block g (by omega) (fun e => glv e), Below.heap_setCell _ _ _ _ gb]
  · rw [List.replicate_succ']
    refine Row.move h2 fun j hj => ?_
    rw [e2] at hj
    cases hj
    exact Below.heap_setCell _ _ _ _ g2b
  · intro j hj
    rw [e1] at hj
    have e3 : g = j := Option.some.inj hj
    rcases l1 with e | e
    · exact e3 ▸ h.fs g e
    · have := Nat.le_trans s0 e; omega
  · intro j hj
    rw [e2] at hj
    have e3 : g2 = j := Option.some.inj hj
    rcases l2 with e | e
    · exact e3 ▸ h.fl g2 e
    · have := Nat.le_trans (Nat.le_trans s0 s1) e; omega
  · have t1 : Mods (fun j => w.heap.size ≤ j) w w' := Mods.of_below h.below
    have t2 := t1.trans m1 (fun j _ e => h.fs j e)
    have t3 := t2.setCell (p := ⟨b, 0, none⟩) (fun _ => h.fb) sv'
    have t4 := t3.trans m2 (fun j _ e => h.fl j e)
    have t5 := t4.setCell (p := ⟨b, 3, none⟩) (fun _ => h.fb) lv'
    exact t5.below (Nat.le_refl _) (fun j _ e => e)
theorem rnew_bad1 (hl : S.length ≤ 9223372036854775807) (hbad : ¬ (1 ≤ S.length ∧ S.length ≤ 12 ∧ 0 ≤ M ∧ M ≤ 8192)) : Calls Try.prog 11 #[.slice A S.length c, .int .i64 M] w fun e w' => e = .returned (.tuple #[.pointer none, .int .i64 1]) ∧ Below w.heap.size w w' := by
  by_cases h1 : S.length < 1
  · have h1' : (S.length : Int) < 1 := by omega
    clear hbad
    go_enter Try.func11, Try.ntmps11
    go_wp2_with fail
    go_ret2
    exact ⟨rfl, Below.refl _ _⟩
  · have h1' : ¬ (S.length : Int) < 1 := by omega
    by_cases h2 : 12 < S.length
    · have h2' : (12 : Int) < S.length := by omega
      clear hbad
      go_enter Try.func11, Try.ntmps11
      go_wp2_with fail
      go_ret2
      exact ⟨rfl, Below.refl _ _⟩
    · have h2' : ¬ (12 : Int) < S.length := by omega
      by_cases h3 : M < 0
      · clear hbad
        go_enter Try.func11, Try.ntmps11
        go_wp2_with fail
        go_ret2
        exact ⟨rfl, Below.refl _ _⟩
      · have h4 : 8192 < M := by
          apply Int.not_le.1
          intro h
          exact hbad ⟨by omega, by omega, by omega, h⟩
        clear hbad
        go_enter Try.func11, Try.ntmps11
        go_wp2_with fail
        go_ret2
        exact ⟨rfl, Below.refl _ _⟩
end
end Go.Proofs.Ytmfdcaalbpikpaa
namespace Go.Proofs.Ytmfdcaalbpikpaa
open Go.RowKit Go.WideMaps Go.Maps
set_option linter.unusedVariables false
set_option linter.unusedSimpArgs false
section
variable {w w' w1 w2 : World} {A : Option Addr} {c b k : Nat} {S : List Int} {M : Int} {sv lv : Value}
theorem Newing.mid (h : Newing w w' b S M k sv lv) (m1 : Mods (fun j => sv.ownBlock = some j) w' w1) (sv' : Value) :
    Blk (w1.setCell ⟨b, 0, none⟩ sv') b [sv', .int .i64 M, .slice none 0 0, lv] 82 ∧ Row (w1.setCell ⟨b, 0, none⟩ sv') 22 1 lv k (List.replicate k (.slice none 0 0)) := by
  have nb := row_blk h.s h.blk (by decide)
  have lb := row_blk h.l h.blk (by decide)
  refine ⟨(h.blk.mods m1 (fun e => nb e)).set 0 sv', h.l.move fun j hj => ?_⟩
  rw [Below.heap_setCell _ _ _ _ (fun e => lb (by rw [hj, e])), m1.block j (h.l.lt j hj) (fun e => row_type h.s h.l (by decide) e hj)]
def RNewPost (w : World) (S : List Int) (M : Int) (e : Ending) (w' : World) : Prop :=
  (Sized S M → ∃ b z, e = .returned (.tuple #[.pointer (some ⟨b, 0, none⟩), .int .i64 0]) ∧ RAt w' b S M [] z ∧ ∀ k ∈ z, w.heap.size ≤ k) ∧ (¬ Sized S M → e = .returned (.tuple #[.pointer none, .int .i64 1])) ∧ Below w.heap.size w w'
theorem RNewPost.bad {e : Ending} (h : ¬ Sized S M) (he : e = .returned (.tuple #[.pointer none, .int .i64 1])) (hb : Below w.heap.size w w') : RNewPost w S M e w' := ⟨fun h2 => absurd h2 h, fun _ => he, hb⟩
theorem RNewPost.ok (h : Newing w w' b S M S.length sv lv) (hS : Sized S M) : RNewPost w S M (.returned (.tuple #[.pointer (some ⟨b, 0, none⟩), .int .i64 0])) w' := by
  obtain ⟨z, h1, h2⟩ := h.done hS
  exact ⟨fun _ => ⟨b, z, rfl, h1, h2⟩, fun h3 => absurd hS h3, h.below⟩
set_option maxHeartbeats 4000000 in
theorem rnew_any (hA : IntsIn w A S) : Calls Try.prog 11 #[.slice A S.length c, .int .i64 M] w (RNewPost w S M) := by
  have hl := hA.1
  by_cases hok : 1 ≤ S.length ∧ S.length ≤ 12 ∧ 0 ≤ M ∧ M ≤ 8192
  · obtain ⟨h1, h2, h3, h4⟩ := hok
    have h1' : ¬ (S.length : Int) < 1 := by omega
    have h2' : ¬ (12 : Int) < S.length := by omega
    have h3' : ¬ M < 0 := by omega
    have h4' : ¬ 8192 < M := by omega
    obtain ⟨g, o, rfl, hg, hc⟩ := hA.2 (by omega)
    have HC := Hid.mk_ hc
    have hst : Newing w (w.alloc (.cells #[.slice none 0 0, .int .i64 M, .slice none 0 0, .slice none 0 0] 82)) w.heap.size S M 0 (.slice none 0 0) (.slice none 0 0) :=
      ⟨Blk.new w [.slice none 0 0, .int .i64 M, .slice none 0 0, .slice none 0 0] 82, Row.nil _ _ _, Row.nil _ _ _, by simp [Value.ownBlock], by simp [Value.ownBlock], Nat.le_refl _, (Below.refl _ _).alloc (Nat.le_refl _) _⟩
    obtain ⟨b, hb⟩ : ∃ b, b = w.heap.size := ⟨_, rfl⟩
    rw [← hb] at hst
    have HST := Hid.mk_ hst
    have HB := Hid.mk_ hb
    clear hc hA hst hb hl
    obtain ⟨i3, hi3, ha0, ha1, ha2⟩ := info_parts Try.info3
    obtain ⟨i22, hi22, hb0, hb1, hb2⟩ := info_parts Try.info22
    go_enter Try.func11, Try.ntmps11
    go_upto_region 4 with fail
    rw [← HB.out]
    go_wp2_with fail
    go_loopw [7] (fun x7 wr => ∃ (k : Nat) (sv lv : Value), k ≤ S.length ∧ x7 = .int .i64 (k : Int) ∧ Hid (∀ x ∈ S.take k, 1 ≤ x ∧ x ≤ 256) ∧ Hid (Newing w wr b S M k sv lv)) (fun x7 _ => S.length - (intOf x7).toNat)
    case atStart => exact ⟨0, _, _, Nat.zero_le _, rfl, by show ∀ x ∈ S.take 0, 1 ≤ x ∧ x ≤ 256; simp, by rw [HB.out]; exact HB.out ▸ HST.out⟩
    case round =>
      obtain ⟨k, sv, lv, hk, rfl, hT, HN⟩ := hrel
      by_cases hlt : k < S.length
      · have hlt1 : (k : Int) < S.length := by omega
        have c0 := (HN.out.below.cell (p := ⟨g, o + k, none⟩) hg).trans (HC.out k hlt)
        have hmem := List.getElem_mem hlt
        obtain ⟨x, hx⟩ : ∃ x, x = S[k]'hlt := ⟨_, rfl⟩
        rw [← hx] at c0 hmem
        have HX := Hid.mk_ hx
        clear hx
        by_cases hx1 : x < 1
        · have hbad : ¬ Sized S M := fun h => by have := h.sz x hmem; omega
          have HBAD := Hid.mk_ hbad
          clear hbad hmem
          go_wp2_with fail
          go_ret2
          exact RNewPost.bad HBAD.out rfl HN.out.below
        · by_cases hx2 : 256 < x
          · have hbad : ¬ Sized S M := fun h => by have := h.sz x hmem; omega
            have HBAD := Hid.mk_ hbad
            clear hbad hmem
            go_wp2_with fail
            go_ret2
            exact RNewPost.bad HBAD.out rfl HN.out.below
          · have hT2 : ∀ y ∈ S.take (k + 1), 1 ≤ y ∧ y ≤ 256 := fun y hy => by
              rw [List.take_succ_eq_append_getElem hlt, List.mem_append] at hy
              rcases hy with hy | hy
              · exact hT.out y hy
              · simp at hy; rw [hy, ← HX.out]; omega
            have HT2 := Hid.mk_ hT2
            obtain ⟨As, cs, rfl⟩ := HN.out.s.shape
            obtain ⟨Al, cl, rfl⟩ := HN.out.l.shape
            have q0 := HN.out.blk.cell 0
            have f0 := HN.out.blk.free 0
            have l0 := HN.out.blk.lt
            have hcg : ∀ (w1 : World), Below w.heap.size w w1 → w1.cell? ⟨g, o + k, none⟩ = some (.int .i64 x) := fun w1 hw => by rw [hw.cell (p := ⟨g, o + k, none⟩) hg, HC.out k hlt, HX.out]
            have HCG := Hid.mk_ hcg
            clear hT2 hmem hcg
            have HR := Hid.mk_ HN.out.s
            have tok1 : True := trivial
            go_wp2_with fail
            go_region_law (first
              | (have _t := tok1; refine step_append_row _ ?_ (.tmp 49) (.tmp 54) 22 ?_ 3 i3 (.int .i64 0) 1 8 Try.underlying22 hi3 ha0 ha1 ha2 rfl (by omega) (.slice As k cs) k ((S.take k).map (Value.int .i64)) ?_ (Row.drew (HR.out.alloc _)) ⟨wr.heap.size, 0, none⟩ 1 1 [.int .i64 x] ?_ (by rfl) (fun jj u hj => one_cells_at wr _ _ rfl jj u hj) (by simp [Value.oneCell']) (by omega) (by unfold maxLen; omega) (by omega) (wr.heap.size + 1) (by simp) ?_; rfl; rfl; go_simp; go_simp; intro g6 c6 w6 hrow6 hgrow6 hloc6 hlt6; have hm6 : Mods (fun j => (Value.slice As k cs).ownBlock = some j) wr w6 := (Mods.drew ((Mods.refl _ wr).alloc _)).grown hgrow6 (fun k e _ => e); have b6 := HN.out.blk.mods hm6 (fun e => row_blk HN.out.s HN.out.blk (by decide) e); have q6 := b6.cell 0; have f6 := b6.free 0; have l6 := b6.lt; clear tok1))
            all_goals (
              obtain ⟨b8, r8⟩ := HN.out.mid hm6 (.slice (some ⟨g6, 0, none⟩) (k + 1) c6)
              have y3 := b8.cell 3
              have z3 := b8.free 3
              have l8 := b8.lt
              have HR8 := Hid.mk_ r8
              have HB8 := Hid.mk_ b8
              obtain ⟨w8, hw8⟩ : ∃ w8, w8 = w6.setCell ⟨b, 0, none⟩ (.slice (some ⟨g6, 0, none⟩) (k + 1) c6) := ⟨_, rfl⟩
              rw [← hw8] at HR8 HB8 y3 z3 l8 ⊢
              have HW8 := Hid.mk_ hw8
              clear b8 r8 hw8 q6 f6 l6 q0 f0
              go_wp2_with (at_builtin; refine wpList_append_row _ rfl _ _ 45 rfl 22 i22 (.slice none 0 0) 1 24 Try.underlying45 hi22 hb0 hb1 hb2 rfl (by omega) (.slice Al k cl) k (List.replicate k (.slice none 0 0)) rfl (HR8.out.alloc _) ⟨w8.heap.size, 0, none⟩ 1 1 [.slice none 0 0] rfl rfl (one_cells_at w8 _ _ rfl) (by simp [Value.oneCell']) (by omega) (by unfold maxLen; omega) (by omega) (w8.heap.size + 1) (by simp) ?_; intro g9 c9 w9 hrow9 hgrow9 hloc9 hlt9; have hm9 : Mods (fun j => (Value.slice Al k cl).ownBlock = some j) w8 w9 := ((Mods.refl _ w8).alloc _).grown hgrow9 (fun k e _ => e); have b9 := HB8.out.mods hm9 (fun e => row_blk HR8.out HB8.out (by decide) e); have q9 := b9.cell 3; have f9 := b9.free 3; have l9 := b9.lt)
              have hw8 := HW8.out
              subst hw8
              rw [HX.out] at hrow6
              have hs8 : (w6.setCell ⟨b, 0, none⟩ (.slice (some ⟨g6, 0, none⟩) (k + 1) c6)).heap.size = w6.heap.size := by simp [World.setCell]
              refine ⟨⟨k + 1, _, _, by omega, by go_num, HT2.out, HN.out.step hlt hrow6 rfl hm6 ?_ hrow9 rfl hm9 ?_⟩, by simp [intOf]; omega⟩
              · rcases hloc6 with e | e
                · exact .inl e
                · exact .inr (by omega)
              · rcases hloc9 with e | e
                · exact .inl e
                · exact .inr (by omega))
      · have e : k = S.length := by omega
        subst e
        have hge : ¬ ((S.length : Int) < S.length) := by omega
        have hS : Sized S M := ⟨h1, h2, fun x hx => hT.out x (by rw [List.take_length]; exact hx), h3, h4⟩
        have HS := Hid.mk_ hS
        clear hS
        go_wp2_with fail
        go_ret2
        exact RNewPost.ok HN.out HS.out
  · have hbad : ¬ Sized S M := fun h => hok ⟨h.s1, h.s2, h.m0, h.m1⟩
    exact (rnew_bad1 hl hok).mono fun e w' ⟨h1, h2⟩ => RNewPost.bad hbad h1 h2
end
end Go.Proofs.Ytmfdcaalbpikpaa
