/- What a node is, both ways; the sizes. -/
import Derived.Test.YtmfdcaalbpikpaaC2
import Derived.Deep.RegionLaw
namespace Go.Proofs.Ytmfdcaalbpikpaa
open Go.RowKit Go.WideMaps Go.Maps
set_option linter.unusedVariables false
set_option linter.unusedSimpArgs false
/-- numbers in a new array of just their size -/
def Fresh (w w' : World) (v : Value) (ks : List Int) : Prop := ∃ g, v = .slice (some ⟨g, 0, none⟩) ks.length ks.length ∧ w.heap.size ≤ g ∧ Row w' 3 1 v ks.length (ks.map (Value.int .i64))
section
variable {w w' : World} {b : Nat} {S : List Int} {M : Int} {L : List (Nd × Value)} {nv sv lv : Value} {mb : Nat} {rows : List Value} {cz : List Nat}
theorem sizes_pa (h : PA w b S M L nv sv mb cz) : Calls Try.prog 44 #[.pointer (some ⟨b, 0, none⟩)] w fun e w' => ∃ v, e = .returned v ∧ Fresh w w' v S ∧ Below w.heap.size w w' := by
  have c0 := h.c0
  obtain ⟨g, c, rfl, hc, hgz, hgl, hl, hcells⟩ := h.s
  have hs := h.good.toSized.s1
  have HC := Hid.mk_ (fun (w1 : World) (hw : Below w.heap.size w w1) => clone_some (g := g) (o := 0) (c := c) (xs := S) (n := S.length) rfl (by omega) (by omega) w1 (fun j hj => by rw [Nat.zero_add]; exact (hw.cell (p := ⟨g, j, none⟩) hgl).trans (hcells j hj)) (Nat.lt_of_lt_of_le hgl hw.size))
  clear hcells h
  go_enter Try.func44, Try.ntmps44
  go_wp2_with (first
    | (go_at_call 31; (with_reducible refine (HC.out _ (Below.refl _ _)).mono ?_); rintro e w1 ⟨g', c', rfl, hrow, hg', hb⟩; have hcap := hrow.capLe)
    | (go_at_call 47; (with_reducible refine (clip_any _ _ _ hcap _).mono ?_); rintro e w2 ⟨rfl, rfl⟩))
  go_ret
  refine ⟨_, rfl, ⟨g', rfl, hg', ?_⟩, hb⟩
  have := hrow.first (Nat.le_refl _) (Nat.le_refl _) hcap
  rwa [List.take_of_length_le (by simp)] at this
theorem node_pa_out (h : PA w b S M L nv sv mb cz) (f : Int) (hf : ¬ (2 ≤ f ∧ f < (L.length : Int) + 2)) :
    Calls Try.prog 17 #[.pointer (some ⟨b, 0, none⟩), .int .i64 f] w fun e w' => e = .returned (.tuple #[.agg #[.int .i64 0, .slice none 0 0], .int .i64 1]) ∧ Below w.heap.size w w' := by
  by_cases h2 : f < 2
  · clear h
    go_enter Try.func17, Try.ntmps17
    go_wp2_with fail
    refine bodyPost_ret (v := .tuple #[.agg #[.int .i64 0, .slice none 0 0], .int .i64 1]) (by simp [results, Try.results14, go_sem]) rfl ⟨rfl, ?_⟩
    exact ((Below.refl _ _).alloc (Nat.le_refl _) _)
  · have hh : hasA (nds L) f = false := decide_eq_false (by rw [nds_length]; omega)
    have HC := Hid.mk_ (fun (w1 : World) (hw : Below w.heap.size w w1) => has_pa (h.new hw) f)
    rw [hh] at HC
    have hb1 : Below w.heap.size w (w.alloc (.cells #[.int .i64 0, .slice none 0 0] 55)) := (Below.refl _ _).alloc (Nat.le_refl _) _
    clear h
    go_enter Try.func17, Try.ntmps17
    go_wp2_with (go_at_call 46; (with_reducible refine (HC.out _ hb1).mono ?_); rintro e w' ⟨rfl, rfl⟩)
    refine bodyPost_ret (v := .tuple #[.agg #[.int .i64 0, .slice none 0 0], .int .i64 1]) (by simp [results, Try.results14, go_sem]) rfl ⟨rfl, ?_⟩
    exact hb1
theorem node_pa_in (h : PA w b S M L nv sv mb cz) (i : Nat) (hi : i < L.length) :
    Calls Try.prog 17 #[.pointer (some ⟨b, 0, none⟩), .int .i64 ((i : Int) + 2)] w fun e w' => ∃ v, e = .returned (.tuple #[.agg #[.int .i64 (L[i]'hi).1.lv, v], .int .i64 0]) ∧ Fresh w w' v (L[i]'hi).1.ks ∧ Below w.heap.size w w' := by
  have hh : hasA (nds L) ((i : Int) + 2) = true := decide_eq_true (by rw [nds_length]; omega)
  have HC := Hid.mk_ (fun (w1 : World) (hw : Below w.heap.size w w1) => has_pa (h.new hw) ((i : Int) + 2))
  rw [hh] at HC
  have hb1 : Below w.heap.size w (w.alloc (.cells #[.int .i64 0, .slice none 0 0] 55)) := (Below.refl _ _).alloc (Nat.le_refl _) _
  have l8 := len8 h.good
  obtain ⟨gn, cn, rfl, hgn, hv0, hv1⟩ := row_lv h.row i hi
  obtain ⟨gk, ck, ekv, hck, hgz2, hgkl, hints⟩ := (h.kid _ (List.getElem_mem hi)).ints
  rw [ekv] at hv1
  have hks := h.good.kids i (by rw [nds_length]; exact hi)
  rw [nds_get L i hi] at hks
  have c2 := h.c2
  have h2 := hints.2 (by omega)
  obtain ⟨nd, hnd⟩ : ∃ nd, nd = (L[i]'hi).1 := ⟨_, rfl⟩
  rw [← hnd] at hv0 hv1 hks h2 ⊢
  obtain ⟨g, o, e, hg, hcells⟩ := h2
  cases e
  obtain ⟨ks, hkse⟩ : ∃ ks, ks = nd.ks := ⟨_, rfl⟩
  obtain ⟨l, hle⟩ : ∃ l, l = nd.lv := ⟨_, rfl⟩
  rw [← hkse] at hv1 hks ⊢
  rw [← hle] at hv0 ⊢
  have HCL := Hid.mk_ (fun (w1 : World) (hw : Below w.heap.size w w1) => clone_some (g := gk) (o := 0) (c := ck) (xs := ks) (n := ks.length) rfl (by omega) (by omega) w1 (fun j hj => by subst hkse; exact (hw.cell (p := ⟨gk, 0 + j, none⟩) hgkl).trans (hcells j hj)) (Nat.lt_of_lt_of_le hgkl hw.size))
  have e1 : (i : Int) + 2 - 2 = i := by omega
  have hi1 : (i : Int) < L.length := by omega
  have hw1 : IntKind.i64.wrap (i : Int) = i := by rw [IntKind.wrap_i64]; omega
  have hbl := h.blk.lt
  clear hkse hle hcells hints h hnd ekv hh
  go_enter Try.func17, Try.ntmps17
  go_wp2_with (go_at_call 46; (with_reducible refine (HC.out _ hb1).mono ?_); rintro e w' ⟨rfl, rfl⟩)
  have hb3 : Below w.heap.size w ((w.alloc (.cells #[.int .i64 0, .slice none 0 0] 55)).alloc (.cells #[.int .i64 l, .slice (some ⟨gk, 0, none⟩) ks.length ck] 55)) := hb1.alloc (by simp) _
  have b4 := (Blk.new w [.int .i64 0, .slice none 0 0] 55).alloc (.cells #[.int .i64 l, .slice (some ⟨gk, 0, none⟩) ks.length ck] 55)
  have b6 := Blk.new (w.alloc (.cells #[.int .i64 0, .slice none 0 0] 55)) [.int .i64 l, .slice (some ⟨gk, 0, none⟩) ks.length ck] 55
  have hsz : ((w.alloc (.cells #[.int .i64 0, .slice none 0 0] 55)).alloc (.cells #[.int .i64 l, .slice (some ⟨gk, 0, none⟩) ks.length ck] 55)).heap.size = w.heap.size + 2 := by simp
  rw [show (w.alloc (.cells #[.int .i64 0, .slice none 0 0] 55)).heap.size = w.heap.size + 1 by simp] at b6
  obtain ⟨w3, hw3⟩ : ∃ w3, w3 = (w.alloc (.cells #[.int .i64 0, .slice none 0 0] 55)).alloc (.cells #[.int .i64 l, .slice (some ⟨gk, 0, none⟩) ks.length ck] 55) := ⟨_, rfl⟩
  rw [← hw3] at hb3 b4 b6 hsz ⊢
  have p0 := b6.cell 0
  have p1 := b6.cell 1
  have HB3 := Hid.mk_ hb3
  have HB4 := Hid.mk_ b4
  have HB6 := Hid.mk_ b6
  have HSZ := Hid.mk_ hsz
  clear hw3 hb3 b4 b6 hsz hb1 hv0 hv1 hbl c2 hgn hgkl
  go_region_law (first
    | (go_simp; go_at_call 31; (with_reducible refine (HCL.out w3.drew (HB3.out.trans (Drawn_below w3 1))).mono ?_); rintro e w4 ⟨g', c', rfl, hrow, hg', hb⟩; have hcap := hrow.capLe; have b44 := (Blk.drew HB4.out).below hb (by have := HSZ.out; show w.heap.size < w3.heap.size; omega); have b64 := (Blk.drew HB6.out).below hb (by have := HSZ.out; show w.heap.size + 1 < w3.heap.size; omega); have q0 := b44.cell 0; have q1 := b44.cell 1; have f0 := b44.free 0; have f1 := b44.free 1; have q2 := b64.cell 0; have q3 := b64.cell 1; have l4 := b44.lt)
    | (go_simp; go_at_call 47; (with_reducible refine (clip_any _ _ _ hcap _).mono ?_); rintro e w2 ⟨rfl, rfl⟩))
  all_goals (
    go_wp2_with fail
    refine bodyPost_ret (v := .tuple #[.agg #[.int .i64 l, .slice (some ⟨g', 0, none⟩) ks.length ks.length], .int .i64 0]) (by simp [results, Try.results14, go_sem, q0, q1]) rfl ⟨_, rfl, ⟨g', rfl, ?_, ?_⟩, ?_⟩
    · have := HSZ.out
      have h2 : w3.heap.size ≤ g' := hg'
      omega
    · have h1 := hrow.first (Nat.le_refl _) (Nat.le_refl _) hcap
      rw [List.take_of_length_le (by simp)] at h1
      refine h1.move fun k hk => ?_
      cases hk
      have := HSZ.out
      have h2 : w3.heap.size ≤ g' := hg'
      rw [Below.heap_setCell _ _ _ _ (by show g' ≠ w.heap.size; omega), Below.heap_setCell _ _ _ _ (by show g' ≠ w.heap.size; omega)]
    · have h1 := (HB3.out.trans (Drawn_below w3 1)).trans (hb.mono (by have := HSZ.out; show w.heap.size ≤ w3.heap.size; omega))
      exact (h1.setCell (Nat.le_refl _) _).setCell (Nat.le_refl _) _)
end
end Go.Proofs.Ytmfdcaalbpikpaa
