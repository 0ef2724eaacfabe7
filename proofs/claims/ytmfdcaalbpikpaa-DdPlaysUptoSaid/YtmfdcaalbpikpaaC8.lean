/- What a node of the document's arena is. -/
import Derived.Test.YtmfdcaalbpikpaaC7
namespace Go.Proofs.Ytmfdcaalbpikpaa
open Go.RowKit Go.WideMaps Go.Maps
set_option linter.unusedVariables false
set_option linter.unusedSimpArgs false
section
variable {w w' : World} {b : Nat} {S : List Int} {M : Int} {L : List (Nd × Value)} {nv sv lv : Value} {rows : List Value} {cz : List Nat}
theorem node_ra_out (h : RA w b S M L nv sv lv rows cz) (f : Int) (hf : ¬ (2 ≤ f ∧ f < (L.length : Int) + 2)) :
    Calls Try.prog 56 #[.pointer (some ⟨b, 0, none⟩), .int .i64 f] w fun e w' => e = .returned (.tuple #[.agg #[.int .i64 0, .slice none 0 0], .int .i64 1]) ∧ Below w.heap.size w w' := by
  obtain ⟨A, c, rfl⟩ := h.row.shape
  have l8 := len8 h.good
  have c2 := h.c2
  have hbl := h.blk.lt
  have hw : IntKind.i64.wrap ((L.length : Int) + 2) = L.length + 2 := by rw [IntKind.wrap_i64]; omega
  by_cases h2 : f < 2
  · clear h
    go_enter Try.func56, Try.ntmps56
    go_wp2_with fail
    refine bodyPost_ret (v := .tuple #[.agg #[.int .i64 0, .slice none 0 0], .int .i64 1]) (by simp [results, Try.results23, go_sem]) rfl ⟨rfl, ?_⟩
    exact ((Below.refl _ _).alloc (Nat.le_refl _) _)
  · have h3 : (L.length : Int) + 2 ≤ f := by omega
    clear h hf
    go_enter Try.func56, Try.ntmps56
    go_wp2_with fail
    refine bodyPost_ret (v := .tuple #[.agg #[.int .i64 0, .slice none 0 0], .int .i64 1]) (by simp [results, Try.results23, go_sem]) rfl ⟨rfl, ?_⟩
    exact ((Below.refl _ _).alloc (Nat.le_refl _) _)
set_option maxHeartbeats 4000000 in
theorem node_ra_in (h : RA w b S M L nv sv lv rows cz) (i : Nat) (hi : i < L.length) :
    Calls Try.prog 56 #[.pointer (some ⟨b, 0, none⟩), .int .i64 ((i : Int) + 2)] w fun e w' => ∃ v, e = .returned (.tuple #[.agg #[.int .i64 (L[i]'hi).1.lv, v], .int .i64 0]) ∧ Row w' 3 1 v (L[i]'hi).1.ks.length ((L[i]'hi).1.ks.map (Value.int .i64)) ∧ Below w.heap.size w w' := by
  have l8 := len8 h.good
  obtain ⟨gn, cn, rfl, hgn, hv0, hv1⟩ := row_lv h.row i hi
  obtain ⟨gk, ck, ekv, hck, hgz2, hgkl, hints⟩ := (h.kid _ (List.getElem_mem hi)).ints
  rw [ekv] at hv1
  have hks := h.good.kids i (by rw [nds_length]; exact hi)
  rw [nds_get L i hi] at hks
  have c2 := h.c2
  have h2 := hints.2 (by omega)
  obtain ⟨nd, hnd⟩ : ∃ nd, nd = (L[i]'hi).1 := ⟨_, rfl⟩
  rw [← hnd] at hv0 hv1 hks h2 ⊢
  obtain ⟨g, o, e, hg, hcells⟩ := h2
  cases e
  obtain ⟨ks, hkse⟩ : ∃ ks, ks = nd.ks := ⟨_, rfl⟩
  obtain ⟨l, hle⟩ : ∃ l, l = nd.lv := ⟨_, rfl⟩
  rw [← hkse] at hv1 hks ⊢
  rw [← hle] at hv0 ⊢
  have hnews : ∀ (W : World), Below w.heap.size w W → ∀ jj u, (ks.map (Value.int .i64))[jj]? = some u → W.cell? ((⟨gk, 0, none⟩ : Addr).add jj) = some u := fun W hW jj u hu => by
    subst hkse
    rw [Addr.add_lit, hW.cell (p := ⟨gk, 0 + jj, none⟩) hgkl]
    obtain ⟨hjl, e⟩ := List.getElem?_eq_some_iff.1 hu
    rw [List.length_map] at hjl
    rw [List.getElem_map] at e
    rw [← e]
    exact hcells jj hjl
  have HNW := Hid.mk_ hnews
  have HK := Hid.mk_ (fun (W : World) (hW : Below w.heap.size w W) => show W.cell? ⟨b, 2, none⟩ = some (.slice (some ⟨gn, 0, none⟩) L.length cn) ∧ W.cell? ⟨gn, i * 2, none⟩ = some (.int .i64 l) ∧ W.cell? ⟨gn, i * 2 + 1, none⟩ = some (.slice (some ⟨gk, 0, none⟩) ks.length ck) from
    ⟨(hW.cell (p := ⟨b, 2, none⟩) h.blk.lt).trans c2, (hW.cell (p := ⟨gn, i * 2, none⟩) hgn).trans hv0, (hW.cell (p := ⟨gn, i * 2 + 1, none⟩) hgn).trans hv1⟩)
  have e1 : (i : Int) + 2 - 2 = i := by omega
  have hi1 : (i : Int) < L.length := by omega
  have h22 : ¬ (i : Int) + 2 < 2 := by omega
  have h23 : ¬ (L.length : Int) + 2 ≤ (i : Int) + 2 := by omega
  have hw1 : IntKind.i64.wrap (i : Int) = i := by rw [IntKind.wrap_i64]; omega
  have hbl := h.blk.lt
  clear hkse hle hcells hints h hnd ekv hnews
  obtain ⟨i3, hi3, ha0, ha1, ha2⟩ := info_parts Try.info3
  go_enter Try.func56, Try.ntmps56
  go_wp2_with fail
  have hb3 : Below w.heap.size w (w.alloc (.cells #[.int .i64 0, .slice none 0 0] 55)) := (Below.refl _ _).alloc (Nat.le_refl _) _
  have b4 := Blk.new w [.int .i64 0, .slice none 0 0] 55
  obtain ⟨b0, hb0⟩ : ∃ b0, b0 = w.heap.size := ⟨_, rfl⟩
  have hsz : (w.alloc (.cells #[.int .i64 0, .slice none 0 0] 55)).heap.size = b0 + 1 := by rw [hb0]; simp
  obtain ⟨w3, hw3⟩ : ∃ w3, w3 = w.alloc (.cells #[.int .i64 0, .slice none 0 0] 55) := ⟨_, rfl⟩
  rw [← hb0] at b4 ⊢
  rw [← hw3] at hb3 b4 hsz ⊢
  obtain ⟨y0, y1, y2⟩ := HK.out _ hb3
  have HB3 := Hid.mk_ hb3
  have HB4 := Hid.mk_ b4
  have HSZ := Hid.mk_ hsz
  have HB0 := Hid.mk_ hb0
  clear hw3 hb3 b4 hsz hv0 hv1 c2 hb0
  have tok1 : True := trivial
  go_region_law (first
    | (have _t := tok1; refine step_append_row _ ?_ (.tmp 29) (.tmp 38) 22 ?_ 3 i3 (.int .i64 0) 1 8 Try.underlying22 hi3 ha0 ha1 ha2 rfl (by omega) (.slice none 0 0) 0 [] ?_ (Row.nil _ _ _) ⟨gk, 0, none⟩ ks.length ck (ks.map (Value.int .i64)) ?_ (by simp) (HNW.out _ (HB3.out.trans (Drawn_below w3 1))) (by simp [Value.oneCell']) (by omega) (by unfold maxLen; omega) (by omega) (w3.heap.size) rfl ?_; rfl; rfl; go_simp; go_simp; intro g6 c6 w6 hrow6 hgrow6 hloc6 hlt6; have hb6 : Below w3.heap.size w3.drew w6 := (Below.refl _ _).grown hgrow6 (Nat.le_refl _) (fun k hk => by cases hk); obtain ⟨z0, z1, z2⟩ := HK.out _ ((HB3.out.trans (Drawn_below w3 1)).trans (hb6.mono HB3.out.size)); have b44 := (Blk.drew HB4.out).below hb6 (by have := HSZ.out; omega); have q0 := b44.cell 0; have q1 := b44.cell 1; have f0 := b44.free 0; have f1 := b44.free 1; have l4 := b44.lt; clear tok1))
  all_goals (
    go_wp2_with fail
    rw [Nat.zero_add, List.nil_append] at hrow6
    refine bodyPost_ret (v := .tuple #[.agg #[.int .i64 l, .slice (some ⟨g6, 0, none⟩) ks.length c6], .int .i64 0]) (by simp [results, Try.results23, go_sem, q0, q1]) rfl ⟨_, rfl, ?_, ?_⟩
    · refine hrow6.move fun k hk => ?_
      cases hk
      have h2 : g6 = w3.heap.size := by rcases hloc6 with e | e; cases e; exact e
      have := HSZ.out
      rw [Below.heap_setCell _ _ _ _ (by show g6 ≠ b0; omega), Below.heap_setCell _ _ _ _ (by show g6 ≠ b0; omega)]
    · have hs := HSZ.out
      have h0 := HB0.out
      have h1 := (HB3.out.trans (Drawn_below w3 1)).trans (hb6.mono (by omega))
      exact (h1.setCell (by show w.heap.size ≤ b0; omega) _).setCell (by show w.heap.size ≤ b0; omega) _)
end
end Go.Proofs.Ytmfdcaalbpikpaa
