/- known: the document's examples. -/
import Derived.Test.YtccgamaijjeafaaE4
import Derived.Test.YtccgamaijjeafaaD2
namespace Go.Proofs.Ytccgamaijjeafaa
open Go.RowKit
set_option linter.unusedVariables false
set_option linter.unusedSimpArgs false
/-- an arena of one's own in what was laid since w0 -/
def OwnA (w0 w : World) (b : Nat) (S : List Int) (M : Int) (N : List Nd) : Prop := ∃ z, PAt w b S M N z ∧ (∀ k ∈ z, w0.heap.size ≤ k) ∧ Below w0.heap.size w0 w
section
variable {w0 w w' : World} {b : Nat} {S : List Int} {M : Int} {N N' : List Nd}
theorem OwnA.new (h : OwnA w0 w b S M N) (hb : Below w.heap.size w w') : OwnA w0 w' b S M N := by
  obtain ⟨z, h1, h2, h3⟩ := h
  exact ⟨z, h1.move hb.size (fun k hk => hb.block k (h1.zlt k hk)), h2, h3.trans (hb.mono h3.size)⟩
theorem OwnA.make (h : OwnA w0 w b S M N) (lv : Int) (ks : List Int) (n : Nat) (hn : n = ks.length) (hl : ks.length ≤ 1000) (cs : Array Value) (hcs : cs = (ks.map (Value.int .i64)).toArray) {f er : Int} (hm : makeA S M N lv ks = (N', f, er)) :
    Calls Try.prog 18 #[.pointer (some ⟨b, 0, none⟩), .int .i64 lv, .slice (some ⟨w.heap.size, 0, none⟩) n n] (w.alloc (.cells cs 3)) fun e w' => e = .returned (.tuple #[.int .i64 f, .int .i64 er]) ∧ OwnA w0 w' b S M N' := by
  subst hn hcs
  obtain ⟨z, h1, h2, h3⟩ := h.new ((Below.refl w.heap.size w).alloc (Nat.le_refl _) (.cells (ks.map (Value.int .i64)).toArray 3))
  have hk := Blk.new w (ks.map (Value.int .i64)) 3
  have hi : IntsIn (w.alloc (.cells (ks.map (Value.int .i64)).toArray 3)) (some ⟨w.heap.size, 0, none⟩) ks := ⟨by omega, fun _ => ⟨_, 0, rfl, by simp, fun j hj => by rw [Nat.zero_add, hk.cell j]; simp [hj]⟩⟩
  refine (make_at (c := ks.length) h1 lv hi (fun g o e => by cases e; simp)).mono fun e w' ⟨he, hg⟩ => ?_
  rw [hm] at he hg
  obtain ⟨z', p, m, s⟩ := hg
  refine ⟨he, z', p, fun k hk => ?_, ?_⟩
  · rcases s k hk with e2 | e2
    · exact h2 k e2
    · have := h3.size; omega
  · exact h3.trans (m.below h3.size (fun k _ e2 => h2 k e2))
theorem OwnA.level (h : OwnA w0 w b S M N) (f : Int) {l : Int} (hl : lvl S.length N f = l) : Calls Try.prog 15 #[.pointer (some ⟨b, 0, none⟩), .int .i64 f] w fun e w' => e = .returned (.int .i64 l) ∧ w = w' := by
  obtain ⟨z, ⟨L, nv, sv, mb, cz, p, e1, e2⟩, _⟩ := h
  subst hl
  rw [← e1]
  exact level_pa p f
theorem OwnA.len (h : OwnA w0 w b S M N) {l : Int} (hl : (N.length : Int) = l) : Calls Try.prog 12 #[.pointer (some ⟨b, 0, none⟩)] w fun e w' => e = .returned (.int .i64 l) ∧ w = w' := by
  obtain ⟨z, ⟨L, nv, sv, mb, cz, p, e1, e2⟩, _⟩ := h
  subst hl
  rw [← e1]
  exact len_pa p
theorem sized23 : Sized [2, 3] 8 := ⟨by decide, by decide, by decide, by decide, by decide⟩
def KN1 : List Nd := [⟨1, [0, 1, 1]⟩]
def KN2 : List Nd := [⟨1, [0, 1, 1]⟩, ⟨0, [2, 0]⟩]
set_option maxHeartbeats 2000000 in
set_option maxRecDepth 100000 in
theorem known_any (w : World) : Calls Try.prog 5 #[] w fun e w' => e = .returned (.bool true) ∧ Below w.heap.size w w' := by
  have hb0 : Below w.heap.size w (w.alloc (.cells #[.int .i64 2, .int .i64 3] 3)) := (Below.refl _ _).alloc (Nat.le_refl _) _
  have hk := Blk.new w [Value.int .i64 2, Value.int .i64 3] 3
  have hi : IntsIn (w.alloc (.cells #[.int .i64 2, .int .i64 3] 3)) (some ⟨w.heap.size, 0, none⟩) [2, 3] := ⟨by decide, fun _ => ⟨_, 0, rfl, by simp, fun j hj => by
    rw [Nat.zero_add]
    have := hk.cell j
    rcases j with _ | _ | j
    · exact this
    · exact this
    · exact absurd hj (by simp only [List.length_cons, List.length_nil]; omega)⟩⟩
  have HN := Hid.mk_ (show Calls Try.prog 6 #[.slice (some ⟨w.heap.size, 0, none⟩) 2 2, .int .i64 8] (w.alloc (.cells #[.int .i64 2, .int .i64 3] 3)) fun e w' => ∃ b z, e = .returned (.tuple #[.pointer (some ⟨b, 0, none⟩), .int .i64 0]) ∧ PAt w' b [2, 3] 8 [] z ∧ (∀ k ∈ z, (w.alloc (.cells #[.int .i64 2, .int .i64 3] 3)).heap.size ≤ k) ∧ Below (w.alloc (.cells #[.int .i64 2, .int .i64 3] 3)).heap.size (w.alloc (.cells #[.int .i64 2, .int .i64 3] 3)) w' from new_ok (c := 2) hi sized23)
  have M1 := Hid.mk_ (fun (W : World) (b : Nat) (h : OwnA w W b [2, 3] 8 []) => h.make 1 [0, 1, 1] 3 rfl (by decide) #[.int .i64 0, .int .i64 1, .int .i64 1] rfl (N' := KN1) (f := 2) (er := 0) (by decide))
  have M2 := Hid.mk_ (fun (W : World) (b : Nat) (h : OwnA w W b [2, 3] 8 KN1) => h.make 1 [0, 1, 1] 3 rfl (by decide) #[.int .i64 0, .int .i64 1, .int .i64 1] rfl (N' := KN1) (f := 2) (er := 0) (by decide))
  have M3 := Hid.mk_ (fun (W : World) (b : Nat) (h : OwnA w W b [2, 3] 8 KN1) => h.make 0 [2, 0] 2 rfl (by decide) #[.int .i64 2, .int .i64 0] rfl (N' := KN2) (f := 3) (er := 0) (by decide))
  have M4 := Hid.mk_ (fun (W : World) (b : Nat) (h : OwnA w W b [2, 3] 8 KN2) => h.make 1 [3, 0, 0] 3 rfl (by decide) #[.int .i64 3, .int .i64 0, .int .i64 0] rfl (N' := KN2) (f := 0) (er := 1) (by decide))
  have M5 := Hid.mk_ (fun (W : World) (b : Nat) (h : OwnA w W b [2, 3] 8 KN2) => h.make 1 [1, 1, 1] 3 rfl (by decide) #[.int .i64 1, .int .i64 1, .int .i64 1] rfl (N' := KN2) (f := 1) (er := 0) (by decide))
  have L1 := Hid.mk_ (fun (W : World) (b : Nat) (h : OwnA w W b [2, 3] 8 KN2) => h.level 2 (l := 1) (by decide))
  have L2 := Hid.mk_ (fun (W : World) (b : Nat) (h : OwnA w W b [2, 3] 8 KN2) => h.level 9 (l := 2) (by decide))
  have L3 := Hid.mk_ (fun (W : World) (b : Nat) (h : OwnA w W b [2, 3] 8 KN2) => h.len (l := 2) (by decide))
  have HB0 := Hid.mk_ hb0
  clear hi hk hb0
  go_enter Try.func5, Try.ntmps5
  go_upto_region 2 with (go_at_call 6; (with_reducible refine HN.out.mono ?_); rintro e w1 ⟨b, z, rfl, hp, hz, hb1⟩)
  have h1 : OwnA w w1 b [2, 3] 8 [] := ⟨z, hp, fun k hk => by have := hz k hk; simp at this; omega, HB0.out.trans (hb1.mono HB0.out.size)⟩
  have H1 := Hid.mk_ h1
  clear h1 hp hz hb1
  go_upto_region 5 with (go_at_call 18; (with_reducible refine (M1.out _ _ H1.out).mono ?_); rintro e w2 ⟨rfl, h2⟩; have H2 := Hid.mk_ h2; clear h2)
  go_upto_region 6 with (go_at_call 18; (with_reducible refine (M2.out _ _ H2.out).mono ?_); rintro e w3 ⟨rfl, h3⟩; have H3 := Hid.mk_ h3; clear h3)
  go_upto_region 7 with (go_at_call 18; (with_reducible refine (M3.out _ _ H3.out).mono ?_); rintro e w4 ⟨rfl, h4⟩; have H4 := Hid.mk_ h4; clear h4)
  go_upto_region 8 with (go_at_call 18; (with_reducible refine (M4.out _ _ H4.out).mono ?_); rintro e w5 ⟨rfl, h5⟩; have H5 := Hid.mk_ h5; clear h5)
  go_upto_region 9 with (go_at_call 18; (with_reducible refine (M5.out _ _ H5.out).mono ?_); rintro e w6 ⟨rfl, h6⟩; have H6 := Hid.mk_ h6; clear h6)
  go_wp2_with (first
    | (go_at_call 15; (with_reducible refine (L1.out _ _ H6.out).mono ?_); rintro e w7 ⟨rfl, rfl⟩)
    | (go_at_call 15; (with_reducible refine (L2.out _ _ H6.out).mono ?_); rintro e w7 ⟨rfl, rfl⟩)
    | (go_at_call 12; (with_reducible refine (L3.out _ _ H6.out).mono ?_); rintro e w7 ⟨rfl, rfl⟩))
  go_ret
  obtain ⟨z6, _, _, h⟩ := H6.out
  exact ⟨rfl, h⟩
end
end Go.Proofs.Ytccgamaijjeafaa
