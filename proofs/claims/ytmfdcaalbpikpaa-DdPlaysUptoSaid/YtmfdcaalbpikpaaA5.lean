/- What an arena is asked, in words of nodes; may. -/
import Derived.Test.YtmfdcaalbpikpaaB2
namespace Go.Proofs.Ytmfdcaalbpikpaa
open Go.RowKit Go.Maps
set_option linter.unusedVariables false
set_option linter.unusedSimpArgs false
section
variable {w w' : World} {b : Nat} {S : List Int} {M : Int} {L : List (Nd × Value)} {nv sv lv : Value} {mb : Nat} {rows : List Value} {cz : List Nat}
theorem PA.c0 (h : PA w b S M L nv sv mb cz) : w.cell? ⟨b, 0, none⟩ = some sv := h.blk.cell 0
theorem PA.c1 (h : PA w b S M L nv sv mb cz) : w.cell? ⟨b, 1, none⟩ = some (.int .i64 M) := h.blk.cell 1
theorem PA.c2 (h : PA w b S M L nv sv mb cz) : w.cell? ⟨b, 2, none⟩ = some nv := h.blk.cell 2
theorem PA.c3 (h : PA w b S M L nv sv mb cz) : w.cell? ⟨b, 3, none⟩ = some (.map (some mb)) := h.blk.cell 3
theorem RA.c0 (h : RA w b S M L nv sv lv rows cz) : w.cell? ⟨b, 0, none⟩ = some sv := h.blk.cell 0
theorem RA.c1 (h : RA w b S M L nv sv lv rows cz) : w.cell? ⟨b, 1, none⟩ = some (.int .i64 M) := h.blk.cell 1
theorem RA.c2 (h : RA w b S M L nv sv lv rows cz) : w.cell? ⟨b, 2, none⟩ = some nv := h.blk.cell 2
theorem RA.c3 (h : RA w b S M L nv sv lv rows cz) : w.cell? ⟨b, 3, none⟩ = some lv := h.blk.cell 3
theorem len8 (h : Good S M (nds L)) : L.length ≤ 8192 := by have := h.len2; rwa [nds_length] at this
theorem row_lv {w : World} {nv : Value} {L : List (Nd × Value)} (h : Row w 55 2 nv L.length (ndCells L)) (i : Nat) (hi : i < L.length) :
    ∃ g c, nv = .slice (some ⟨g, 0, none⟩) L.length c ∧ g < w.heap.size ∧ w.cell? ⟨g, i * 2, none⟩ = some (.int .i64 (L[i]'hi).1.lv) ∧ w.cell? ⟨g, i * 2 + 1, none⟩ = some (L[i]'hi).2 := by
  obtain ⟨g, c, rfl, hg, _⟩ := h.some_ (by omega)
  obtain ⟨h1, h2⟩ := ndCells_get L i hi
  exact ⟨g, c, rfl, hg, by rw [h.cell _ (by omega)]; exact h1, by rw [h.cell _ (by omega)]; exact h2⟩
theorem has_pa (h : PA w b S M L nv sv mb cz) (f : Int) : Calls Try.prog 46 #[.pointer (some ⟨b, 0, none⟩), .int .i64 f] w fun e w' => e = .returned (.bool (hasA (nds L) f)) ∧ w = w' := by
  obtain ⟨A, c, rfl⟩ := h.row.shape
  have := has_any w f h.c2 (len8 h.good)
  rw [← nds_length] at this
  exact this
theorem has_ra (h : RA w b S M L nv sv lv rows cz) (f : Int) : Calls Try.prog 48 #[.pointer (some ⟨b, 0, none⟩), .int .i64 f] w fun e w' => e = .returned (.bool (hasA (nds L) f)) ∧ w = w' := by
  obtain ⟨A, c, rfl⟩ := h.row.shape
  have := rhas_any w f h.c2 (len8 h.good)
  rw [← nds_length] at this
  exact this
theorem len_pa (h : PA w b S M L nv sv mb cz) : Calls Try.prog 16 #[.pointer (some ⟨b, 0, none⟩)] w fun e w' => e = .returned (.int .i64 ((nds L).length : Int)) ∧ w = w' := by
  obtain ⟨A, c, rfl⟩ := h.row.shape
  have := len_any w h.c2
  rw [← nds_length] at this
  exact this
theorem len_ra (h : RA w b S M L nv sv lv rows cz) : Calls Try.prog 19 #[.pointer (some ⟨b, 0, none⟩)] w fun e w' => e = .returned (.int .i64 ((nds L).length : Int)) ∧ w = w' := by
  obtain ⟨A, c, rfl⟩ := h.row.shape
  have := rlen_any w h.c2
  rw [← nds_length] at this
  exact this
theorem level_pa (h : PA w b S M L nv sv mb cz) (f : Int) : Calls Try.prog 73 #[.pointer (some ⟨b, 0, none⟩), .int .i64 f] w fun e w' => e = .returned (.int .i64 (lvl S.length (nds L) f)) ∧ w = w' := by
  obtain ⟨g0, c0, rfl, hk⟩ := h.s
  by_cases hf : 2 ≤ f ∧ f < (L.length : Int) + 2
  · obtain ⟨i, rfl⟩ : ∃ i : Nat, f = (i : Int) + 2 := ⟨(f - 2).toNat, by omega⟩
    have hi : i < L.length := by omega
    obtain ⟨g, c, rfl, hg, h1, h2⟩ := row_lv h.row i hi
    have e : lvl S.length (nds L) ((i : Int) + 2) = (L[i]'hi).1.lv := by
      unfold lvl
      rw [dif_pos (by rw [nds_length]; omega), ← nds_get L i hi]
      congr 2
      omega
    rw [e]
    exact level_in w i h.c2 (len8 h.good) hi h1
  · obtain ⟨A, c, rfl⟩ := h.row.shape
    have e : lvl S.length (nds L) f = S.length := by
      unfold lvl
      rw [dif_neg (by rw [nds_length]; exact hf)]
    rw [e]
    exact level_out w f h.c0 h.c2 (len8 h.good) hf
theorem level_ra (h : RA w b S M L nv sv lv rows cz) (f : Int) : Calls Try.prog 49 #[.pointer (some ⟨b, 0, none⟩), .int .i64 f] w fun e w' => e = .returned (.int .i64 (lvl S.length (nds L) f)) ∧ w = w' := by
  obtain ⟨g0, c0, rfl, hk⟩ := h.s
  by_cases hf : 2 ≤ f ∧ f < (L.length : Int) + 2
  · obtain ⟨i, rfl⟩ : ∃ i : Nat, f = (i : Int) + 2 := ⟨(f - 2).toNat, by omega⟩
    have hi : i < L.length := by omega
    obtain ⟨g, c, rfl, hg, h1, h2⟩ := row_lv h.row i hi
    have e : lvl S.length (nds L) ((i : Int) + 2) = (L[i]'hi).1.lv := by
      unfold lvl
      rw [dif_pos (by rw [nds_length]; omega), ← nds_get L i hi]
      congr 2
      omega
    rw [e]
    exact rlevel_in w i h.c2 (len8 h.good) hi h1
  · obtain ⟨A, c, rfl⟩ := h.row.shape
    have e : lvl S.length (nds L) f = S.length := by
      unfold lvl
      rw [dif_neg (by rw [nds_length]; exact hf)]
    rw [e]
    exact rlevel_out w f h.c0 h.c2 (len8 h.good) hf
theorem quietly {f : Nat} {args : Array Value} {v : Value} {w : World} (n : Nat) (h : Calls Try.prog f args (w.drewN n) fun e w' => e = .returned v ∧ w.drewN n = w') :
    Calls Try.prog f args (w.drewN n) fun e w'' => e = .returned v ∧ ∃ m, w'' = w.drewN m := h.mono fun _ _ ⟨he, hm⟩ => ⟨he, n, hm.symm⟩
theorem quietly2 {f : Nat} {args : Array Value} {v : Value} {w : World} (n k : Nat) (h : Calls Try.prog f args (w.drewN (n + k)) fun e w' => e = .returned v ∧ w.drewN (n + k) = w') :
    Calls Try.prog f args (w.drewN (n + k)) fun e w'' => e = .returned v ∧ ∃ m, w'' = w.drewN (n + m) := h.mono fun _ _ ⟨he, hm⟩ => ⟨he, k, hm.symm⟩
theorem PA.quiet (h : PA w b S M L nv sv mb cz) (n : Nat) : PA (w.drewN n) b S M L nv sv mb cz := h.move (Nat.le_refl _) (fun _ _ => rfl)
theorem RA.quiet (h : RA w b S M L nv sv lv rows cz) (n : Nat) : RA (w.drewN n) b S M L nv sv lv rows cz := h.move (Nat.le_refl _) (fun _ _ => rfl)
theorem low_clo {bp bl : Nat} {l : Int} (h : PA w b S M L nv sv mb cz) (h1 : w.cell? ⟨bp, 0, none⟩ = some (.pointer (some ⟨b, 0, none⟩))) (h2 : w.cell? ⟨bl, 0, none⟩ = some (.int .i64 l)) (x : Int) :
    Calls Try.prog 77 #[.int .i64 x, .pointer (some ⟨bp, 0, none⟩), .pointer (some ⟨bl, 0, none⟩)] w fun e w' => e = .returned (.bool (!lowA S (nds L) l x)) ∧ ∃ r, w' = w.drewN r := by
  have hh := fun n => quietly n (has_pa (h.quiet n) x)
  have hl := fun n => quietly n (level_pa (h.quiet n) x)
  have he : lowA S (nds L) l x = (hasA (nds L) x && decide (l < lvl S.length (nds L) x)) := rfl
  obtain ⟨y, hy⟩ : ∃ y, y = lvl S.length (nds L) x := ⟨_, rfl⟩
  rw [← hy] at hl he
  rw [he]
  have HL := Hid.mk_ hl
  clear h hl he hy
  cases hq : hasA (nds L) x with
  | true =>
    rw [hq] at hh
    have HH := Hid.mk_ hh
    clear hh hq
    go_enter Try.func77, Try.ntmps77
    go_wp2_with fail
    go_big_quiet (first | (go_at_call 46; with_reducible exact HH.out _) | (go_at_call 73; with_reducible exact HL.out _))
    go_wp2_with fail
    go_ret
    refine ⟨?_, _, rfl⟩
    congr 2
    by_cases hly : l < y
    · simp [hly]
    · simp [hly]; omega
  | false =>
    rw [hq] at hh
    have HH := Hid.mk_ hh
    clear hh hq
    go_enter Try.func77, Try.ntmps77
    go_wp2_with fail
    go_big_quiet (first | (go_at_call 46; with_reducible exact HH.out _) | (go_at_call 73; with_reducible exact HL.out _))
    go_wp2_with fail
    go_ret
    exact ⟨rfl, _, rfl⟩
end
end Go.Proofs.Ytmfdcaalbpikpaa
