/- known. -/
import Derived.Test.YtmfdcaalbpikpaaW8
namespace Go.Proofs.Ytmfdcaalbpikpaa
open Go.RowKit Go.Maps
set_option linter.unusedVariables false
set_option linter.unusedSimpArgs false
section
variable {w w' : World} {ab B : Nat} {S : List Int} {M : Int} {N : List Nd} {z : List Nat}
theorem Grew.out (h : Grew w w' ab S M N z) (hz : ∀ k ∈ z, B ≤ k) (hB : B ≤ w.heap.size) : ∃ z', PAt w' ab S M N z' ∧ (∀ k ∈ z', B ≤ k) ∧ Below B w w' := by
  obtain ⟨z', hp, hm, h2⟩ := h
  refine ⟨z', hp, fun k hk => ?_, hm.below hB (fun k _ hk => hz k hk)⟩
  rcases h2 k hk with e | e
  · exact hz k e
  · omega
def nd1 : Nd := ⟨1, [0, 1, 1]⟩
def nd2 : Nd := ⟨0, [1, 0]⟩
def nd3 : Nd := ⟨0, [2, 0]⟩
def nd4 : Nd := ⟨1, [1, 0, 0]⟩
theorem k1 : setA [2, 3] 9 [] 1 [false, true, true] = ([nd1], 2, 0) := by decide +kernel
theorem k2 : setA [2, 3] 9 [nd1] 0 [true, false] = ([nd1, nd2], 3, 0) := by decide +kernel
theorem k3 : binA 0 [2, 3] 9 [nd1, nd2] 2 3 = ([nd1, nd2, nd3], 4, 0) := by decide +kernel
theorem k4 : binA 2 [2, 3] 9 [nd1, nd2, nd3] 2 1 = ([nd1, nd2, nd3, nd4], 5, 0) := by decide +kernel
theorem k5 : resA [2, 3] 9 1 1 [nd1, nd2, nd3, nd4] 4 = ([nd1, nd2, nd3, nd4], 3, 0) := by decide +kernel
theorem k6 : pathR [2, 3] [nd1, nd2, nd3, nd4] 4 = ([0, 1], true, 0) := by decide +kernel
theorem ints_blk {g : Nat} {ks : List Int} {t : TypeId} (h : Blk w g (ks.map (Value.int .i64)) t) (hl : ks.length ≤ 9223372036854775807) : IntsIn w (some ⟨g, 0, none⟩) ks := ⟨hl, fun _ => ⟨g, 0, rfl, h.lt, fun j hj => by rw [Nat.zero_add, h.cell j, List.getElem?_map, List.getElem?_eq_getElem hj]; rfl⟩⟩
theorem bools_blk {g : Nat} {bs : List Bool} {t : TypeId} (h : Blk w g (bs.map Value.bool) t) (hl : bs.length ≤ 9223372036854775807) : BoolsIn w (some ⟨g, 0, none⟩) bs := ⟨hl, fun _ => ⟨g, 0, rfl, h.lt, fun j hj => by rw [Nat.zero_add, h.cell j, List.getElem?_map, List.getElem?_eq_getElem hj]; rfl⟩⟩
theorem ints_row {v : Value} {ks : List Int} (h : Row w 3 1 v ks.length (ks.map (Value.int .i64))) : ∃ A c, v = .slice A ks.length c ∧ IntsIn w A ks := by
  obtain ⟨A, c, rfl⟩ := h.shape
  refine ⟨A, c, rfl, ?_, fun h0 => ?_⟩
  · have := h.capLe
    rcases h.2 with ⟨e, e2⟩ | ⟨g, cap, cur, e, _, _, hc, _⟩
    · omega
    · cases e; unfold maxLen at hc; omega
  · obtain ⟨g, c', e, hg, _⟩ := h.some_ h0
    cases e
    exact ⟨g, 0, rfl, hg, fun j hj => by rw [Nat.zero_add]; exact row3 h j hj⟩
/-- an arena of ours -/
structure Ours (w w' : World) (b : Nat) (S : List Int) (M : Int) (N : List Nd) (z : List Nat) : Prop where
  pa : PAt w' b S M N z
  new : ∀ k ∈ z, w.heap.size ≤ k
  below : Below w.heap.size w w'
theorem Ours.on {w w1 w2 : World} {b : Nat} {S : List Int} {M : Int} {N : List Nd} {z : List Nat} (h : Ours w w1 b S M N z) (hb : Below w1.heap.size w1 w2) : Ours w w2 b S M N z := ⟨h.pa.new hb, h.new, h.below.trans (hb.mono h.below.size)⟩
theorem Ours.op {w w1 w2 : World} {b : Nat} {S : List Int} {M : Int} {N N' : List Nd} {z : List Nat} (h : Ours w w1 b S M N z) (hg : Grew w1 w2 b S M N' z) : ∃ z', Ours w w2 b S M N' z' := by
  obtain ⟨z', h1, h2, h3⟩ := hg.out h.new h.below.size
  exact ⟨z', h1, h2, h.below.trans h3⟩
def OpRes (w : World) (b : Nat) (S : List Int) (M : Int) (R : Out) (e : Ending) (w' : World) : Prop := e = .returned (.tuple #[.int .i64 R.2.1, .int .i64 R.2.2]) ∧ ∃ z', Ours w w' b S M R.1 z'
theorem Ours.res {w w1 w2 : World} {b : Nat} {S : List Int} {M : Int} {N : List Nd} {z : List Nat} {R : Out} {e : Ending} (h : Ours w w1 b S M N z) (hp : OpPost w1 b S M z R e w2) : OpRes w b S M R e w2 := ⟨hp.1, h.op hp.2⟩
set_option maxRecDepth 100000 in
set_option maxHeartbeats 8000000 in
theorem known_any (w : World) : Calls Try.prog 6 #[] w fun e w' => e = .returned (.bool true) ∧ Below w.heap.size w w' := by
  obtain ⟨w1, hw1⟩ : ∃ w1, w1 = w.alloc (.cells #[.int .i64 2, .int .i64 3] 3) := ⟨_, rfl⟩
  have hb1 : Below w.heap.size w w1 := by rw [hw1]; exact (Below.refl _ _).alloc (Nat.le_refl _) _
  have hk1 := Blk.new w [.int .i64 2, .int .i64 3] 3
  rw [← hw1] at hk1
  have hn : Calls Try.prog 8 #[.slice (some ⟨w.heap.size, 0, none⟩) 2 2, .int .i64 9] w1 fun e w' => ∃ b z, e = .returned (.tuple #[.pointer (some ⟨b, 0, none⟩), .int .i64 0]) ∧ PAt w' b [2, 3] 9 [] z ∧ (∀ k ∈ z, w1.heap.size ≤ k) ∧ Below w1.heap.size w1 w' :=
    new_ok (S := [2, 3]) (ints_blk (ks := [2, 3]) hk1 (by simp)) ⟨by simp, by simp, by simp, by omega, by omega⟩
  have HN := Hid.mk_ hn
  have HW1 := Hid.mk_ hw1
  have HB1 := Hid.mk_ hb1
  clear hw1 hb1 hk1 hn
  go_enter Try.func6, Try.ntmps6
  go_upto_region 4 with (go_at_call 8; rw [← HW1.out]; (with_reducible refine HN.out.mono ?_); rintro e w2 ⟨b, z, rfl, hp, hz, hb⟩)
  have hs1 := HB1.out.size
  have O2 := Hid.mk_ (show Ours w w2 b [2, 3] 9 [] z from ⟨hp, fun k hk => by have := hz k hk; omega, HB1.out.trans (hb.mono hs1)⟩)
  clear hp hz hb hs1
  obtain ⟨w3, hw3⟩ : ∃ w3, w3 = w2.alloc (.cells #[.bool false, .bool true, .bool true] 4) := ⟨_, rfl⟩
  have hb3 : Below w2.heap.size w2 w3 := by rw [hw3]; exact (Below.refl _ _).alloc (Nat.le_refl _) _
  have hk3 := Blk.new w2 [.bool false, .bool true, .bool true] 4
  rw [← hw3] at hk3
  have O3 := Hid.mk_ (O2.out.on hb3)
  have c1 : Calls Try.prog 23 #[.pointer (some ⟨b, 0, none⟩), .int .i64 1, .slice (some ⟨w2.heap.size, 0, none⟩) 3 3] w3 (OpRes w b [2, 3] 9 ([nd1], 2, 0)) := by
    have := set_any (lv := 1) (c := 3) (ins := [false, true, true]) O3.out.pa (bools_blk hk3 (by simp))
    rw [k1] at this
    exact this.mono fun e w' hp => O3.out.res hp
  have C1 := Hid.mk_ c1
  have HW3 := Hid.mk_ hw3
  clear hw3 hb3 hk3 c1
  go_upto_region 5 with (go_at_call 23; rw [← HW3.out]; (with_reducible refine C1.out.mono ?_); rintro e w4 ⟨rfl, z4, ho⟩; have O4 := Hid.mk_ ho; clear ho)
  obtain ⟨w5, hw5⟩ : ∃ w5, w5 = w4.alloc (.cells #[.bool true, .bool false] 4) := ⟨_, rfl⟩
  have hb5 : Below w4.heap.size w4 w5 := by rw [hw5]; exact (Below.refl _ _).alloc (Nat.le_refl _) _
  have hk5 := Blk.new w4 [.bool true, .bool false] 4
  rw [← hw5] at hk5
  have O5 := Hid.mk_ (O4.out.on hb5)
  have c2 : Calls Try.prog 23 #[.pointer (some ⟨b, 0, none⟩), .int .i64 0, .slice (some ⟨w4.heap.size, 0, none⟩) 2 2] w5 (OpRes w b [2, 3] 9 ([nd1, nd2], 3, 0)) := by
    have := set_any (lv := 0) (c := 2) (ins := [true, false]) O5.out.pa (bools_blk hk5 (by simp))
    rw [k2] at this
    exact this.mono fun e w' hp => O5.out.res hp
  have C2 := Hid.mk_ c2
  have HW5 := Hid.mk_ hw5
  clear hw5 hb5 hk5 c2 C1 HW3 O3 O2
  go_upto_region 6 with (go_at_call 23; rw [← HW5.out]; (with_reducible refine C2.out.mono ?_); rintro e w6 ⟨rfl, z6, ho⟩; have O6 := Hid.mk_ ho; clear ho)
  have c3 := (and_any (f := 2) (g := 3) O6.out.pa).mono fun e w' hp => O6.out.res hp
  rw [k3] at c3
  have C3 := Hid.mk_ c3
  clear c3 C2 HW5 O5 O4
  go_upto_region 7 with (go_at_call 24; (with_reducible refine C3.out.mono ?_); rintro e w7 ⟨rfl, z7, ho⟩; have O7 := Hid.mk_ ho; clear ho)
  have c4 := (not_any (f := 2) O7.out.pa).mono fun e w' hp => O7.out.res hp
  rw [k4] at c4
  have C4 := Hid.mk_ c4
  clear c4 C3 O6
  go_upto_region 8 with (go_at_call 25; (with_reducible refine C4.out.mono ?_); rintro e w8 ⟨rfl, z8, ho⟩; have O8 := Hid.mk_ ho; clear ho)
  have c5 := (restrict_any (f := 4) (lv := 1) (cl := 1) O8.out.pa).mono fun e w' hp => O8.out.res hp
  rw [k5] at c5
  have C5 := Hid.mk_ c5
  clear c5 C4 O7
  go_upto_region 9 with (go_at_call 26; (with_reducible refine C5.out.mono ?_); rintro e w9 ⟨rfl, z9, ho⟩; have O9 := Hid.mk_ ho; clear ho)
  have c6 := path_any (f := 4) O9.out.pa
  rw [k6] at c6
  have C6 := Hid.mk_ c6
  clear c6 C5 O8
  go_upto_region 10 with (go_at_call 27; (with_reducible refine C6.out.mono ?_); rintro e w10 ⟨v, rfl, hrow, hv, hb10⟩)
  obtain ⟨A, c, rfl, hints⟩ := ints_row (ks := [0, 1]) hrow
  obtain ⟨w11, hw11⟩ : ∃ w11, w11 = w10.alloc (.cells #[.int .i64 0, .int .i64 1] 3) := ⟨_, rfl⟩
  have hb11 : Below w10.heap.size w10 w11 := by rw [hw11]; exact (Below.refl _ _).alloc (Nat.le_refl _) _
  have hk11 := Blk.new w10 [.int .i64 0, .int .i64 1] 3
  rw [← hw11] at hk11
  have c7 : Calls Try.prog 28 #[.slice A 2 c, .slice (some ⟨w10.heap.size, 0, none⟩) 2 2] w11 fun e w' => e = .returned (.bool true) ∧ ∃ n, w' = w11.drewN n := by
    have := same_any A (some ⟨w10.heap.size, 0, none⟩) c 2 [0, 1] [0, 1] w11 (hints.new hb11) (ints_blk (ks := [0, 1]) hk11 (by simp))
    rw [decide_eq_true (rfl : ([0, 1] : List Int) = [0, 1])] at this
    exact this
  have C7 := Hid.mk_ c7
  have HW11 := Hid.mk_ hw11
  have hbw : Below w.heap.size w w11 := by
    have h9 := O9.out.below
    have h10 := h9.trans (hb10.mono h9.size)
    exact h10.trans (hb11.mono h10.size)
  have HBW := Hid.mk_ hbw
  clear c7 hw11 hb11 hk11 hbw hints hrow hv hb10 C6
  go_wp2_with (go_at_call 28; rw [← HW11.out]; (with_reducible refine C7.out.mono ?_); rintro e w12 ⟨rfl, m, rfl⟩)
  go_ret
  exact ⟨rfl, HBW.out.trans (Drawn_below _ _)⟩
end
end Go.Proofs.Ytmfdcaalbpikpaa
