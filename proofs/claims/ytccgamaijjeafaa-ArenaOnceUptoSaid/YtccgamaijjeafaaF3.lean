/- ArenaPlays: its walk. -/
import Derived.Test.YtccgamaijjeafaaF2
namespace Go.Proofs.Ytccgamaijjeafaa
open Go.RowKit
set_option linter.unusedVariables false
set_option linter.unusedSimpArgs false
open Classical in
noncomputable def erN (S : List Int) (M : Int) : Int := if Sized S M then 0 else 1
section
variable {w w' w1 w2 : World} {A : Option Addr} {c : Nat} {S : List Int} {M : Int} {p x : Option Addr}
def GotP (w w' : World) (S : List Int) (M : Int) (p : Option Addr) : Prop := (Sized S M ∧ ∃ b z, p = some ⟨b, 0, none⟩ ∧ PAt w' b S M [] z ∧ ∀ k ∈ z, w.heap.size ≤ k) ∨ (¬ Sized S M ∧ p = none)
def GotR (w w' : World) (S : List Int) (M : Int) (p : Option Addr) : Prop := (Sized S M ∧ ∃ b z, p = some ⟨b, 0, none⟩ ∧ RAt w' b S M [] z ∧ ∀ k ∈ z, w.heap.size ≤ k) ∨ (¬ Sized S M ∧ p = none)
theorem newP (hA : IntsIn w A S) : Calls Try.prog 6 #[.slice A S.length c, .int .i64 M] w fun e w' => ∃ p, e = .returned (.tuple #[.pointer p, .int .i64 (erN S M)]) ∧ GotP w w' S M p ∧ Below w.heap.size w w' := by
  by_cases h : Sized S M
  · have e : erN S M = 0 := if_pos h
    rw [e]
    exact (new_ok hA h).mono fun e w' ⟨b, z, h1, h2, h3, h4⟩ => ⟨_, h1, .inl ⟨h, b, z, rfl, h2, h3⟩, h4⟩
  · have e : erN S M = 1 := if_neg h
    rw [e]
    exact (new_bad hA h).mono fun e w' ⟨h1, h2⟩ => ⟨_, h1, .inr ⟨h, rfl⟩, h2⟩
theorem newR (hA : IntsIn w A S) : Calls Try.prog 7 #[.slice A S.length c, .int .i64 M] w fun e w' => ∃ p, e = .returned (.tuple #[.pointer p, .int .i64 (erN S M)]) ∧ GotR w w' S M p ∧ Below w.heap.size w w' := by
  refine (rnew_any hA).mono fun e w' ⟨h1, h2, h3⟩ => ?_
  by_cases h : Sized S M
  · have e : erN S M = 0 := if_pos h
    rw [e]
    obtain ⟨b, z, h4, h5, h6⟩ := h1 h
    exact ⟨_, h4, .inl ⟨h, b, z, rfl, h5, h6⟩, h3⟩
  · have e : erN S M = 1 := if_neg h
    rw [e]
    exact ⟨_, h2 h, .inr ⟨h, rfl⟩, h3⟩
theorem GotP.new (h : GotP w w1 S M p) (hb : Below w1.heap.size w1 w2) : GotP w w2 S M p := by
  rcases h with ⟨h, b, z, h1, h2, h3⟩ | h
  · exact .inl ⟨h, b, z, h1, h2.move hb.size (fun k hk => hb.block k (h2.zlt k hk)), h3⟩
  · exact .inr h
theorem GotR.new (h : GotR w w1 S M p) (hb : Below w1.heap.size w1 w2) : GotR w w2 S M p := by
  rcases h with ⟨h, b, z, h1, h2, h3⟩ | h
  · exact .inl ⟨h, b, z, h1, h2.move hb.size (fun k hk => hb.block k (h2.zlt k hk)), h3⟩
  · exact .inr h
/-- both -/
theorem got_side {wa wb wc : World} (hP : GotP wa wb S M p) (hR : GotR wb wc S M x) (hab : Below wa.heap.size wa wb) (hbc : Below wb.heap.size wb wc) : ∃ z, OSide wc p x z ∧ (∀ k ∈ z, wa.heap.size ≤ k) ∧ (p = none ↔ x = none) := by
  rcases hP with ⟨h, b, z, rfl, h2, h3⟩ | ⟨h, rfl⟩
  · rcases hR with ⟨_, b', z', rfl, h5, h6⟩ | ⟨h', _⟩
    · refine ⟨z ++ z', .inr ⟨b, b', S, M, [], rfl, rfl, ⟨z, z', h2.move hbc.size (fun k hk => hbc.block k (h2.zlt k hk)), h5, fun k hk hk2 => ?_, fun k => List.mem_append⟩⟩, fun k hk => ?_, by simp⟩
      · have := h2.zlt k hk
        have := h6 k hk2
        omega
      · rcases List.mem_append.1 hk with e | e
        · exact h3 k e
        · have := h6 k e; have := hab.size; omega
    · exact absurd h h'
  · rcases hR with ⟨h', _⟩ | ⟨_, rfl⟩
    · exact absurd h' h
    · exact ⟨[], .inl ⟨rfl, rfl, rfl⟩, by simp, by simp⟩
end
theorem SideAt.lenR0 {w : World} {a b : Nat} {S : List Int} {M : Int} {N : List Nd} {z : List Nat} (h : SideAt w a b S M N z) : Calls Try.prog 10 #[.pointer (some ⟨b, 0, none⟩)] w fun e w' => e = .returned (.int .i64 (N.length : Int)) ∧ w = w' := by
  obtain ⟨za, zx, h1, ⟨L, nv, sv, v, rows, cz, h2, rfl, rfl⟩, h3, h4⟩ := h.ex
  exact len_ra h2
theorem OpOk.plain (w : World) (B : Nat) (what n : Int) (h1 : i64 n) (h2 : i64 what) : OpOk w B ⟨false, false, what, n, none, 0, []⟩ := ⟨h1, h2, ⟨by simp, fun h => by simp at h⟩, by simp, by simp, by simp, by simp⟩
section
variable {w : World} {A1 A2 A3 : Option Addr} {c1 c2 c3 : Nat} {S1 S2 : List Int} {M1 M2 : Int} {ops : List OpV}
set_option maxRecDepth 100000 in
set_option maxHeartbeats 16000000 in
theorem plays_any (h1 : IntsIn w A1 S1) (h2 : IntsIn w A2 S2) (h3 : OpsIn w w.heap.size A3 ops) (l1 : S1.length ≤ 1048576) (l2 : S2.length ≤ 1048576) :
    Calls Try.prog 3 #[.slice A1 S1.length c1, .int .i64 M1, .slice A2 S2.length c2, .int .i64 M2, .slice A3 ops.length c3] w fun e w' => e = .returned (.bool true) ∧ Below w.heap.size w w' := by
  have HK := Hid.mk_ (known_any w)
  have H1 := Hid.mk_ (fun (W : World) (hW : Below w.heap.size w W) => h1.new hW)
  have H2 := Hid.mk_ (fun (W : World) (hW : Below w.heap.size w W) => h2.new hW)
  have H3 := Hid.mk_ h3
  have hl3 := h3.len
  clear h1 h2 h3
  obtain ⟨i3, hi3, ha0, ha1, ha2⟩ := info_parts Try.info3
  have hi8 : i3.bytes = 8 := ha2
  go_enter Try.func3, Try.ntmps3
  go_upto_region 2 with (go_at_call 5; (with_reducible refine HK.out.mono ?_); rintro e w1 ⟨rfl, hb1⟩; have HB1 := Hid.mk_ hb1; clear hb1)
  obtain ⟨go, hgo⟩ : ∃ go, go = w1.heap.size := ⟨_, rfl⟩
  obtain ⟨w4, hw4⟩ : ∃ w4, w4 = w1.alloc (.cells (List.replicate (S1.length + 2) (Value.int .i64 0)).toArray 3) := ⟨_, rfl⟩
  have hb4 : Below w1.heap.size w1 w4 := by rw [hw4]; exact (Below.refl _ _).alloc (Nat.le_refl _) _
  have hblk4 : Blk w4 go (List.replicate (S1.length + 2) (.int .i64 0)) 3 := by rw [hw4, hgo]; exact Blk.new w1 _ 3
  have hi4 := H1.out w4 (HB1.out.trans (hb4.mono HB1.out.size))
  have HGO := Hid.mk_ hgo
  have HW4 := Hid.mk_ hw4
  have hpos : 0 < (S1.map (Value.int .i64)).length → ∃ ad, A1 = some ad ∧ ∀ j v, (S1.map (Value.int .i64))[j]? = some v → w4.cell? (ad.add j) = some v := fun h0 => by
    obtain ⟨g, p, e, hg, hc⟩ := hi4.2 (by simpa using h0)
    refine ⟨⟨g, p, none⟩, e, fun j v hv => ?_⟩
    rw [Addr.add_lit]
    obtain ⟨hjl, e2⟩ := List.getElem?_eq_some_iff.1 hv
    rw [List.length_map] at hjl
    rw [List.getElem_map] at e2
    rw [← e2]
    exact hc j hjl
  have HPOS := Hid.mk_ hpos
  have HBLK4 := Hid.mk_ hblk4
  have HB4 := Hid.mk_ hb4
  have hsp : splice (List.replicate (S1.length + 2) (Value.int .i64 0)) 0 (S1.map (Value.int .i64)) = S1.map (Value.int .i64) ++ [.int .i64 0, .int .i64 0] := by
    simp [splice]
  have HSP := Hid.mk_ hsp
  clear hpos hblk4 hb4 hi4 hgo hw4 hsp
  go_upto_region 3 with (at_make; refine make_row' _ rfl (.tmp 34) (.tmp 34) 22 rfl 3 i3 (.int .i64 0) Try.underlying22 hi3 ha0 ha1 rfl .i64 .i64 (S1.length + 2) ((S1.length : Int) + 2) (by omega) rfl rfl (by rw [hi8]; omega) (by omega) ?_; rw [← HGO.out, ← HW4.out])
  go_upto_region 4 with (refine wpList_copy_splice (o := ⟨some 38, _, _, _, _, _⟩) rfl (.tmp 36) (.tmp 37) 22 22 rfl 3 Try.underlying22 size3 (some ⟨go, 0, none⟩) A1 (S1.length + 2) (S1.length + 2) S1.length c1 ?_ ?_ go 0 _ 3 HBLK4.out (S1.map (Value.int .i64)) (by rw [List.length_map]; exact (Nat.min_eq_left (by omega)).symm) (fun h0 => ⟨rfl, HPOS.out h0⟩) (by simp only [List.length_map, List.length_replicate]; omega) (by simp [Value.oneCell']) w1.heap.size w1 HB4.out (by rw [HGO.out]; exact Nat.le_refl _) ?_; rfl; rfl; intro w5 hcell5 hb5; have hk5 : Blk w5 go (S1.map (Value.int .i64) ++ [.int .i64 0, .int .i64 0]) 3 := (by rw [← HSP.out]; exact hcell5.out); have HK5 := Hid.mk_ hk5; have HB5 := Hid.mk_ hb5; clear hk5 hcell5 hb5)
  have hbw5 := HB1.out.trans (HB5.out.mono HB1.out.size)
  have hi5 : IntsIn w5 (some ⟨go, 0, none⟩) S1 := ⟨by omega, fun _ => ⟨go, 0, rfl, HK5.out.lt, fun j hj => by
    rw [Nat.zero_add, HK5.out.cell j, List.getElem?_append_left (by simpa using hj)]
    simp [hj]⟩⟩
  have HN1 := Hid.mk_ (newP (c := S1.length + 2) (M := M1) hi5)
  have HBW5 := Hid.mk_ hbw5
  have hle2 : (S1.length : Int) ≤ S1.length + 2 := by omega
  obtain ⟨r1, hr1⟩ : ∃ r, r = erN S1 M1 := ⟨_, rfl⟩
  obtain ⟨r2, hr2⟩ : ∃ r, r = erN S2 M2 := ⟨_, rfl⟩
  rw [← hr1] at HN1
  have HR1 := Hid.mk_ hr1
  have HR2 := Hid.mk_ hr2
  clear hbw5 hi5 hr1 hr2
  go_upto_region 5 with (go_at_call 6; (with_reducible refine HN1.out.mono ?_); rintro e w6 ⟨p1, rfl, hg6, hb6⟩; have HG6 := Hid.mk_ hg6; have HB6 := Hid.mk_ hb6; clear hg6 hb6)
  have HBW6 := Hid.mk_ (HBW5.out.trans (HB6.out.mono HBW5.out.size))
  have HN2 := Hid.mk_ (newR (c := c1) (M := M1) (H1.out w6 HBW6.out))
  rw [← HR1.out] at HN2
  go_upto_region 6 with (go_at_call 7; (with_reducible refine HN2.out.mono ?_); rintro e w7 ⟨x1, rfl, hg7, hb7⟩; have HG7 := Hid.mk_ hg7; have HB7 := Hid.mk_ hb7; clear hg7 hb7)
  have HBW7 := Hid.mk_ (HBW6.out.trans (HB7.out.mono HBW6.out.size))
  have HN3 := Hid.mk_ (newP (c := c2) (M := M2) (H2.out w7 HBW7.out))
  rw [← HR2.out] at HN3
  go_upto_region 7 with (go_at_call 6; (with_reducible refine HN3.out.mono ?_); rintro e w8 ⟨p2, rfl, hg8, hb8⟩; have HG8 := Hid.mk_ hg8; have HB8 := Hid.mk_ hb8; clear hg8 hb8)
  have HBW8 := Hid.mk_ (HBW7.out.trans (HB8.out.mono HBW7.out.size))
  have HN4 := Hid.mk_ (newR (c := c2) (M := M2) (H2.out w8 HBW8.out))
  rw [← HR2.out] at HN4
  go_upto_region 8 with (go_at_call 7; (with_reducible refine HN4.out.mono ?_); rintro e w9 ⟨x2, rfl, hg9, hb9⟩; have HG9 := Hid.mk_ hg9; have HB9 := Hid.mk_ hb9; clear hg9 hb9)
  have HBW9 := Hid.mk_ (HBW8.out.trans (HB9.out.mono HBW8.out.size))
  obtain ⟨z1, hs1, hz1, hn1⟩ := got_side HG6.out HG7.out HB6.out HB7.out
  obtain ⟨z2, hs2, hz2, hn2⟩ := got_side HG8.out HG9.out HB8.out HB9.out
  have hb79 := HB8.out.trans (HB9.out.mono HB8.out.size)
  have hs19 : OSide w9 p1 x1 z1 := hs1.move hb79.size (fun k hk => hb79.block k (hs1.zlt k hk))
  have HS1 := Hid.mk_ hs19
  have HS2 := Hid.mk_ hs2
  have HZ12 := Hid.mk_ (show (∀ k ∈ z1, w5.heap.size ≤ k ∧ k < w7.heap.size) ∧ ∀ k ∈ z2, w7.heap.size ≤ k ∧ k < w9.heap.size from ⟨fun k hk => ⟨hz1 k hk, hs1.zlt k hk⟩, fun k hk => ⟨hz2 k hk, hs2.zlt k hk⟩⟩)
  have e1 : p1.isNone = x1.isNone := by
    cases p1 <;> cases x1 <;> simp at hn1 ⊢
  have e2 : p2.isNone = x2.isNone := by
    cases p2 <;> cases x2 <;> simp at hn2 ⊢
  have hgo59 : w9.heap[go]? = w5.heap[go]? := by
    have h1 := HK5.out.lt
    have h2 := HB6.out.size
    have h3 := HB7.out.size
    have h4 := HB8.out.size
    rw [HB9.out.block go (by omega), HB8.out.block go (by omega), HB7.out.block go (by omega), HB6.out.block go (by omega)]
  have HK9 := Hid.mk_ (HK5.out.move hgo59)
  have hgow : w.heap.size ≤ go := by rw [HGO.out]; exact HB1.out.size
  clear hs1 hz1 hs2 hz2 hb79 hs19 hgo59 hn1 hn2
  go_upto_block 0 with fail
  go_wp2_with fail
  go_loopw [21] (fun x21 wr => ∃ k : Nat, k ≤ S1.length + 2 ∧ x21 = .int .i64 (k : Int) ∧ Hid (Blk wr go (List.replicate k (.int .i64 1) ++ (S1.map (Value.int .i64) ++ [Value.int .i64 0, Value.int .i64 0]).drop k) 3) ∧ Hid (Mods (· = go) w9 wr)) (fun x21 _ => (S1.length + 2) - (intOf x21).toNat)
  case atStart => exact ⟨0, Nat.zero_le _, rfl, Hid.mk_ (by simpa using HK9.out), Mods.refl _ _⟩
  case round =>
    obtain ⟨k, hk, rfl, HKR, HMR⟩ := hrel
    by_cases hlt : k < S1.length + 2
    · have hlt1 : (k : Int) < S1.length + 2 := by omega
      have hll : (S1.map (Value.int .i64) ++ [Value.int .i64 0, Value.int .i64 0]).length = S1.length + 2 := by simp
      have y0 := HKR.out.cell k
      rw [List.getElem?_append_right (by simp), List.length_replicate, Nat.sub_self, List.getElem?_drop, Nat.add_zero] at y0
      have f0 := HKR.out.free k
      have l0 := HKR.out.lt
      have hset : (List.replicate k (Value.int .i64 1) ++ (S1.map (Value.int .i64) ++ [Value.int .i64 0, Value.int .i64 0]).drop k).set k (.int .i64 1) = List.replicate (k + 1) (.int .i64 1) ++ (S1.map (Value.int .i64) ++ [Value.int .i64 0, Value.int .i64 0]).drop (k + 1) := by
        rw [List.set_append_right _ _ (by simp), List.drop_eq_getElem_cons (by rw [hll]; exact hlt)]
        simp only [List.length_replicate, Nat.sub_self, List.set_cons_zero]
        rw [List.replicate_succ', List.append_assoc]
        rfl
      have hnx := HKR.out.set k (.int .i64 1)
      rw [hset] at hnx
      have HNX := Hid.mk_ hnx
      by_cases hk1 : k < S1.length
      · have hk11 : (k : Int) < S1.length := by omega
        have hbwr : Below w.heap.size w wr := HBW9.out.trans (HMR.out.below HBW9.out.size (fun q _ e => by rw [e]; exact hgow))
        obtain ⟨g, p, rfl, hg, hc⟩ := (H1.out wr hbwr).2 (by omega)
        have c0 := hc k hk1
        rw [List.getElem?_append_left (by simpa using hk1), List.getElem?_map, List.getElem?_eq_getElem hk1, Option.map_some] at y0
        obtain ⟨y, hy⟩ : ∃ y, y = S1[k]'hk1 := ⟨_, rfl⟩
        rw [← hy] at y0 c0
        have t1 : (y != y) = false := by simp
        have t2 : ¬ (S1.length : Int) ≤ k := by omega
        have t3 : decide ((k : Int) < S1.length) = true := decide_eq_true hk11
        have t3n : decide (k < S1.length) = true := decide_eq_true hk1
        have t4 : decide ((S1.length : Int) ≤ k) = false := decide_eq_false t2
        have t4n : decide (S1.length ≤ k) = false := decide_eq_false (by omega)
        clear hy hc hll hset hnx hbwr
        go_wp2_with fail
        go_big_quiet (fail)
        go_wp2_with fail
        go_roundw
        case rel => exact ⟨k + 1, by omega, by go_num, HNX.out.drewN _, (HMR.out.drewN _).setCell (p := ⟨go, k, none⟩) (fun _ => rfl) _⟩
        case measure => simp [intOf]; omega
      · have t2 : (S1.length : Int) ≤ k := by omega
        have t3 : decide ((k : Int) < S1.length) = false := decide_eq_false (by omega)
        have t3n : decide (k < S1.length) = false := decide_eq_false (by omega)
        have t4 : decide ((S1.length : Int) ≤ k) = true := decide_eq_true t2
        have t4n : decide (S1.length ≤ k) = true := decide_eq_true (by omega)
        have y1 : wr.cell? ⟨go, k, none⟩ = some (.int .i64 0) := by
          rw [y0, List.getElem?_append_right (by simp; omega), List.length_map]
          have hk3 : k - S1.length = 0 ∨ k - S1.length = 1 := by omega
          rcases hk3 with e | e <;> rw [e] <;> rfl
        clear y0 hll hset hnx
        go_wp2_with fail
        go_big_quiet (fail)
        go_wp2_with fail
        go_roundw
        case rel => exact ⟨k + 1, by omega, by go_num, HNX.out.drewN _, (HMR.out.drewN _).setCell (p := ⟨go, k, none⟩) (fun _ => rfl) _⟩
        case measure => simp [intOf]; omega
    · have hge : ¬ (k : Int) < S1.length + 2 := by omega
      go_wp2_with fail
      have hbwr : Below w.heap.size w wr := HBW9.out.trans (HMR.out.below HBW9.out.size (fun q _ e => by rw [e]; exact hgow))
      have hst : St w ((wr.alloc (.cells #[.pointer p1, .pointer x1, .pointer p2, .pointer x2] 34)).alloc (.cells #[.slice (some ⟨wr.heap.size, 0, none⟩) 2 2, .slice none 0 0] 38)) (wr.heap.size + 1) wr.heap.size p1 x1 p2 x2 z1 z2 (.slice none 0 0) [] := by
        obtain ⟨hz1, hz2⟩ := HZ12.out
        have hsr := HMR.out.size
        have hgo5 := HK5.out.lt
        have h56 := HBW5.out.size
        have h67 := HB6.out.size
        have h78 := HB7.out.size
        have hb2 : Below wr.heap.size wr ((wr.alloc (.cells #[.pointer p1, .pointer x1, .pointer p2, .pointer x2] 34)).alloc (.cells #[.slice (some ⟨wr.heap.size, 0, none⟩) 2 2, .slice none 0 0] 38)) := ((Below.refl _ _).alloc (Nat.le_refl _) _).alloc (by simp) _
        have mv : ∀ q, q < w9.heap.size → q ≠ go → ((wr.alloc (.cells #[.pointer p1, .pointer x1, .pointer p2, .pointer x2] 34)).alloc (.cells #[.slice (some ⟨wr.heap.size, 0, none⟩) 2 2, .slice none 0 0] 38)).heap[q]? = w9.heap[q]? := fun q h1 h2 => by
          rw [hb2.block q (by omega), HMR.out.block q h1 h2]
        have k1 := (Blk.new wr [.pointer p1, .pointer x1, .pointer p2, .pointer x2] 34).alloc (.cells #[.slice (some ⟨wr.heap.size, 0, none⟩) 2 2, .slice none 0 0] 38)
        have k2 := Blk.new (wr.alloc (.cells #[.pointer p1, .pointer x1, .pointer p2, .pointer x2] 34)) [.slice (some ⟨wr.heap.size, 0, none⟩) 2 2, .slice none 0 0] 38
        rw [show (wr.alloc (.cells #[.pointer p1, .pointer x1, .pointer p2, .pointer x2] 34)).heap.size = wr.heap.size + 1 by simp] at k2
        have hsz2 := hb2.size
        have hzg : ∀ q, q ∈ z1 ∨ q ∈ z2 → q ≠ go ∧ q < w9.heap.size ∧ w.heap.size ≤ q := fun q hq => by
          rcases hq with hq | hq
          · have := hz1 q hq
            have h1 := HS1.out.zlt q hq
            exact ⟨by omega, h1, by omega⟩
          · have := hz2 q hq
            exact ⟨by omega, this.2, by omega⟩
        refine ⟨HS1.out.move (by omega) (fun q hq => mv q (hzg q (.inl hq)).2.1 (hzg q (.inl hq)).1), HS2.out.move (by omega) (fun q hq => mv q (hzg q (.inr hq)).2.1 (hzg q (.inr hq)).1), k1, ⟨k2, Row.nil _ _ _, by simp, fun i j hi => absurd hi (by simp)⟩, fun q h1 h2 => ?_, fun q hq => ⟨?_, fun e => ?_, fun ⟨v, hv, _⟩ => by simp at hv⟩, fun q hq => ?_, hbwr.trans (hb2.mono hbwr.size)⟩
        · have := hz1 q h1
          have := hz2 q h2
          omega
        · have := (hzg q hq).2.1; omega
        · rcases e with e | e
          · have := (hzg q hq).2.1; omega
          · simp [Value.ownBlock] at e
        · have hwr := hbwr.size
          rcases hq with e | e | e | e | ⟨v, hv, _⟩
          · exact (hzg q (.inl e)).2.2
          · exact (hzg q (.inr e)).2.2
          · omega
          · rcases e with e | e
            · omega
            · simp [Value.ownBlock] at e
          · simp at hv
      have HST := Hid.mk_ hst
      clear hst hbwr
      obtain ⟨gs, hgs⟩ : ∃ gs, gs = wr.heap.size := ⟨_, rfl⟩
      obtain ⟨bw, hbw⟩ : ∃ bw, bw = wr.heap.size + 1 := ⟨_, rfl⟩
      rw [← hbw, ← hgs] at HST
      have HGS := Hid.mk_ hgs
      have HBW := Hid.mk_ hbw
      clear hgs hbw
      rw [← HBW.out, ← HGS.out]
      go_loopw [23] (fun x23 wr => ∃ (k : Nat) (z1 z2 : List Nat) (lv : Value) (es : List Value), k ≤ ops.length ∧ x23 = .int .i64 (k : Int) ∧ Hid (St w wr bw gs p1 x1 p2 x2 z1 z2 lv es) ∧ Hid (es.length ≤ k)) (fun x23 _ => ops.length - (intOf x23).toNat)
      case atStart => exact ⟨0, z1, z2, _, [], Nat.zero_le _, rfl, HST.out, Nat.zero_le _⟩
      case round =>
        obtain ⟨j, y1, y2, lv, es, hj, rfl, HT, HES⟩ := hrel
        have q0 := HT.out.book.blk.cell 0
        have q1 := HT.out.book.blk.cell 1
        by_cases hlt : j < ops.length
        · have hlt1 : (j : Int) < ops.length := by omega
          have h3w := H3.out.new HT.out.below
          obtain ⟨g, o, rfl, hg, hc⟩ := h3w.at_ (by omega)
          obtain ⟨d0, d1, d2, d3, d4⟩ := hc j hlt
          have hok := h3w.each _ (List.getElem_mem hlt)
          have HC := Hid.mk_ (fun (W : World) (hW : Below wr.heap.size wr W) => show W.cell? ⟨g, o + j * 5, none⟩ = some (.bool (ops[j]'hlt).other) ∧ W.cell? ⟨g, o + j * 5 + 1, none⟩ = some (.bool (ops[j]'hlt).near) ∧ W.cell? ⟨g, o + j * 5 + 2, none⟩ = some (.int .i64 (ops[j]'hlt).what) ∧ W.cell? ⟨g, o + j * 5 + 3, none⟩ = some (.int .i64 (ops[j]'hlt).n) ∧ W.cell? ⟨g, o + j * 5 + 4, none⟩ = some (.slice (ops[j]'hlt).A (ops[j]'hlt).ks.length (ops[j]'hlt).c) from by
            have hgw : g < wr.heap.size := Nat.lt_of_lt_of_le hg HT.out.below.size
            exact ⟨(hW.cell (p := ⟨g, _, none⟩) hgw).trans d0, (hW.cell (p := ⟨g, _, none⟩) hgw).trans d1, (hW.cell (p := ⟨g, _, none⟩) hgw).trans d2, (hW.cell (p := ⟨g, _, none⟩) hgw).trans d3, (hW.cell (p := ⟨g, _, none⟩) hgw).trans d4⟩)
          clear d0 d1 d2 d3 d4
          obtain ⟨op, hop⟩ : ∃ op, op = ops[j]'hlt := ⟨_, rfl⟩
          rw [← hop] at HC hok
          have HOK := Hid.mk_ hok
          obtain ⟨ot, nr, wh, n, A, c, ks⟩ := op
          have g0 := HT.out.hb.cell 0
          have g1 := HT.out.hb.cell 1
          have g2 := HT.out.hb.cell 2
          have g3 := HT.out.hb.cell 3
          have lg := HT.out.hb.lt
          have lgs : g < wr.heap.size := Nat.lt_of_lt_of_le hg HT.out.below.size
          have lbw := HT.out.book.blk.lt
          obtain ⟨d0, d1, d2, d3, d4⟩ := HC.out wr (Below.refl _ _)
          simp only at d0 d1 d2 d3 d4
          clear h3w hc hop hok
          cases ot with
          | false =>
            rcases HT.out.s1 with ⟨hp, hx, hz⟩ | ⟨a, b, S, M, N, hp, hx, hside⟩
            · subst hp hx
              go_wp2_with fail
              exact ⟨⟨j + 1, y1, y2, lv, es, by omega, by go_num, HT.out.new ((Below.refl _ _).alloc (Nat.le_refl _) _), Hid.mk_ (Nat.le_trans HES.out (Nat.le_succ j))⟩, by simp [intOf]; omega⟩
            · subst hp hx
              have hs34 : Below wr.heap.size wr (wr.alloc (.cells #[.pointer (some ⟨a, 0, none⟩), .pointer (some ⟨b, 0, none⟩)] 34)) := (Below.refl _ _).alloc (Nat.le_refl _) _
              have hT2 := HT.out.new hs34
              have hstp := step_any (w := (wr.alloc (.cells #[.pointer (some ⟨a, 0, none⟩), .pointer (some ⟨b, 0, none⟩)] 34)).drew) (bw := bw) (o := ⟨false, nr, wh, n, A, c, ks⟩) (B := w.heap.size) (by have := hT2.below.size; exact this) ((hside.new hs34).move (Nat.le_refl _) (fun _ _ => rfl)) (fun q hq => HT.out.lo q (.inl hq)) (HOK.out.new ((hs34.mono HT.out.below.size).trans (Drawn_below _ 1))) (hT2.book.move (fun _ _ => rfl)) (fun q hq => ⟨(HT.out.db q (.inl hq)).2.1, (HT.out.db q (.inl hq)).2.2⟩) (by have := HES.out; omega)
              unfold OpV.agg at hstp
              have HSTP := Hid.mk_ hstp
              have HT2 := Hid.mk_ hT2
              clear hs34 hT2 hstp
              go_wp2_with fail
              go_region_law ((go_simp; go_at_call 8; (with_reducible refine HSTP.out.mono ?_); rintro e wn ⟨rfl, N', z', lv', es', hleft⟩))
              all_goals (
                go_wp2_with fail
                refine ⟨?_, by simp [intOf]; omega⟩
                (repeat apply Exists.intro)
                exact ⟨⟨j + 1, z', y2, lv', es', by omega, by go_num, HT2.out.left1 ⟨hleft.side, hleft.book, ⟨hleft.mods.os, hleft.mods.tape, hleft.mods.output, hleft.mods.size, hleft.mods.block⟩, hleft.zs, hleft.ls, hleft.es_, hleft.dis, hleft.len⟩, Hid.mk_ (by have := hleft.len; have := HES.out; omega)⟩, rfl⟩)
          | true =>
            rcases HT.out.s2 with ⟨hp, hx, hz⟩ | ⟨a, b, S, M, N, hp, hx, hside⟩
            · subst hp hx
              go_wp2_with fail
              exact ⟨⟨j + 1, y1, y2, lv, es, by omega, by go_num, HT.out.new ((Below.refl _ _).alloc (Nat.le_refl _) _), Hid.mk_ (Nat.le_trans HES.out (Nat.le_succ j))⟩, by simp [intOf]; omega⟩
            · subst hp hx
              have hs34 : Below wr.heap.size wr (wr.alloc (.cells #[.pointer (some ⟨a, 0, none⟩), .pointer (some ⟨b, 0, none⟩)] 34)) := (Below.refl _ _).alloc (Nat.le_refl _) _
              have hT2 := HT.out.new hs34
              have hstp := step_any (w := (wr.alloc (.cells #[.pointer (some ⟨a, 0, none⟩), .pointer (some ⟨b, 0, none⟩)] 34)).drew) (bw := bw) (o := ⟨true, nr, wh, n, A, c, ks⟩) (B := w.heap.size) (by have := hT2.below.size; exact this) ((hside.new hs34).move (Nat.le_refl _) (fun _ _ => rfl)) (fun q hq => HT.out.lo q (.inr (.inl hq))) (HOK.out.new ((hs34.mono HT.out.below.size).trans (Drawn_below _ 1))) (hT2.book.move (fun _ _ => rfl)) (fun q hq => ⟨(HT.out.db q (.inr hq)).2.1, (HT.out.db q (.inr hq)).2.2⟩) (by have := HES.out; omega)
              unfold OpV.agg at hstp
              have HSTP := Hid.mk_ hstp
              have HT2 := Hid.mk_ hT2
              clear hs34 hT2 hstp
              go_wp2_with fail
              go_region_law ((go_simp; go_at_call 8; (with_reducible refine HSTP.out.mono ?_); rintro e wn ⟨rfl, N', z', lv', es', hleft⟩))
              all_goals (
                go_wp2_with fail
                refine ⟨?_, by simp [intOf]; omega⟩
                (repeat apply Exists.intro)
                exact ⟨⟨j + 1, y1, z', lv', es', by omega, by go_num, HT2.out.left2 ⟨hleft.side, hleft.book, ⟨hleft.mods.os, hleft.mods.tape, hleft.mods.output, hleft.mods.size, hleft.mods.block⟩, hleft.zs, hleft.ls, hleft.es_, hleft.dis, hleft.len⟩, Hid.mk_ (by have := hleft.len; have := HES.out; omega)⟩, rfl⟩)
        · have hge : ¬ (j : Int) < ops.length := by omega
          obtain ⟨lso, hown⟩ := HT.out.book.own (by have := HES.out; omega)
          have HOW := Hid.mk_ (owned_any hown)
          go_upto_region 28 with (go_at_call 9; (with_reducible refine HOW.out.mono ?_); rintro e wo ⟨rfl, hmo⟩; have HMO := Hid.mk_ hmo; clear hmo)
          obtain ⟨hst2, hc1, hf1, hl1⟩ := HT.out.owned HMO.out
          have HST2 := Hid.mk_ hst2
          clear hst2
          go_upto_region 29 with fail
          obtain ⟨wp, hwp⟩ : ∃ wp, wp = wo.setCell ⟨bw, 1, none⟩ (.slice none 0 0) := ⟨_, rfl⟩
          rw [← hwp] at HST2 ⊢
          clear hwp hc1 hf1 hl1 HMO q0 q1
          go_wp2_with fail
          go_loopw [27] (fun x27 wr => ∃ (i : Nat) (z1 z2 : List Nat) (lv : Value) (es : List Value), i ≤ 2 ∧ x27 = .int .i64 (i : Int) ∧ Hid (St w wr bw gs p1 x1 p2 x2 z1 z2 lv es) ∧ Hid (es.length ≤ i * 9000)) (fun x27 _ => 2 - (intOf x27).toNat)
          case atStart => exact ⟨0, y1, y2, _, [], by omega, rfl, HST2.out, Hid.mk_ (by simp)⟩
          case round =>
            obtain ⟨i, z1, z2, lv, es, hi, rfl, HT, HES⟩ := hrel
            have q0 := HT.out.book.blk.cell 0
            have g0 := HT.out.hb.cell 0
            have g1 := HT.out.hb.cell 1
            have g2 := HT.out.hb.cell 2
            have g3 := HT.out.hb.cell 3
            have lg := HT.out.hb.lt
            have lbw := HT.out.book.blk.lt
            have hcase : i = 0 ∨ i = 1 ∨ i = 2 := by omega
            rcases hcase with rfl | rfl | rfl
            · rcases HT.out.s1 with ⟨hp, hx, hz⟩ | ⟨a, b, S, M, N, hp, hx, hside⟩
              · subst hp hx
                go_wp2_with fail
                first
                  | exact ⟨⟨1, z1, z2, lv, es, by omega, by go_num, HT.out.new ((Below.refl _ _).alloc (Nat.le_refl _) _), Hid.mk_ (Nat.le_trans HES.out (by omega))⟩, by simp [intOf]⟩
                  | (refine ⟨?_, by simp [intOf]⟩
                     (repeat apply Exists.intro)
                     exact ⟨⟨1, z1, z2, lv, es, by omega, by go_num, HT.out.new ((Below.refl _ _).alloc (Nat.le_refl _) _), Hid.mk_ (Nat.le_trans HES.out (by omega))⟩, rfl⟩)
              · subst hp hx
                have hs34 : Below wr.heap.size wr (wr.alloc (.cells #[.pointer (some ⟨a, 0, none⟩), .pointer (some ⟨b, 0, none⟩)] 34)) := (Below.refl _ _).alloc (Nat.le_refl _) _
                have hT2 := HT.out.new hs34
                have hk28 := Blk.new wr [.pointer (some ⟨a, 0, none⟩), .pointer (some ⟨b, 0, none⟩)] 34
                obtain ⟨ws, hws⟩ : ∃ ws, ws = wr.alloc (.cells #[.pointer (some ⟨a, 0, none⟩), .pointer (some ⟨b, 0, none⟩)] 34) := ⟨_, rfl⟩
                obtain ⟨b28, hb28⟩ : ∃ x, x = wr.heap.size := ⟨_, rfl⟩
                rw [← hws] at hT2 hk28 hs34
                rw [← hb28] at hk28
                have hstp := step_any (w := ws) (bw := bw) (o := ⟨false, false, 9, 0, none, 0, []⟩) (B := w.heap.size) hT2.below.size (hside.new hs34) (fun q hq => HT.out.lo q (.inl hq)) (OpOk.plain _ _ 9 0 (by unfold i64; omega) (by unfold i64; omega)) hT2.book (fun q hq => ⟨(HT.out.db q (.inl hq)).2.1, (HT.out.db q (.inl hq)).2.2⟩) (by have := HES.out; omega)
                unfold OpV.agg at hstp
                simp only [List.length_nil] at hstp
                have HSTP := Hid.mk_ hstp
                have HT2 := Hid.mk_ hT2
                have HK28 := Hid.mk_ hk28
                have HWS := Hid.mk_ hws
                have HB28 := Hid.mk_ hb28
                have hfar : b28 ∉ z1 ∧ ¬ bookZ bw lv b28 := by
                  refine ⟨fun e => ?_, fun e => ?_⟩
                  · have := HT.out.s1.zlt b28 e; omega
                  · rcases e with e | e
                    · omega
                    · have := HT.out.book.row.lt b28 e; omega
                have HFAR := Hid.mk_ hfar
                have HLT28 := Hid.mk_ (show b28 = wr.heap.size from hb28)
                clear hs34 hT2 hstp hk28 hws hb28 hside hfar
                go_upto_region 34 with fail
                rw [← HB28.out, ← HWS.out]
                have k0 := HK28.out.cell 0
                have k1 := HK28.out.cell 1
                go_wp2_with (go_at_call 8; (with_reducible refine HSTP.out.mono ?_); rintro e wt ⟨rfl, N', z', lv', es', hleft⟩; have HLF := Hid.mk_ hleft; clear hleft)
                have HB2 := Hid.mk_ (HK28.out.mods HLF.out.mods (fun e => by rcases e with e | e; exact HFAR.out.1 e; exact HFAR.out.2 e))
                have HF2 := Hid.mk_ (show b28 ∉ z' ∧ ¬ bookZ bw lv' b28 by
                  have hlt := HK28.out.lt
                  refine ⟨fun e => ?_, fun e => ?_⟩
                  · rcases HLF.out.zs b28 e with e2 | e2
                    · exact HFAR.out.1 e2
                    · omega
                  · rcases e with e | e
                    · exact HFAR.out.2 (.inl e)
                    · rcases HLF.out.ls b28 e with e2 | e2
                      · exact HFAR.out.2 (.inr e2)
                      · omega)
                have HT3 := Hid.mk_ (HT2.out.left1 HLF.out)
                have HE3 := Hid.mk_ (show es'.length ≤ 0 * 9000 + 1 by have := HLF.out.len; have := HES.out; omega)
                clear HLF HT HT2 HES HSTP HK28 HFAR
                go_loopw [29, 30] (fun x29 x30 wr => ∃ (m : Int) (z1 z2 : List Nat) (lv : Value) (es : List Value), -1 ≤ m ∧ m ≤ 8200 ∧ x29 = .bool true ∧ x30 = .int .i64 m ∧ Hid (St w wr bw gs (some ⟨a, 0, none⟩) (some ⟨b, 0, none⟩) p2 x2 z1 z2 lv es) ∧ Hid ((es.length : Int) ≤ 0 * 9000 + m + 2) ∧ Hid (Blk wr b28 [.pointer (some ⟨a, 0, none⟩), .pointer (some ⟨b, 0, none⟩)] 34) ∧ Hid (b28 ∉ z1 ∧ ¬ bookZ bw lv b28)) (fun _ x30 _ => (9000 - intOf x30).toNat)
                case atStart => exact ⟨-1, z', z2, lv', es', by omega, by omega, rfl, rfl, HT3.out, Hid.mk_ (by have := HE3.out; omega), HB2.out, HF2.out⟩
                case round =>
                  obtain ⟨m, z1, z2, lv, es, hm0, hm1, rfl, rfl, HT, HES, HK28, HFAR⟩ := hrel
                  rcases HT.out.s1 with ⟨hp, hx, hz⟩ | ⟨a', b', S', M', N2, hp, hx, hside⟩
                  · cases hp
                  · cases hp
                    cases hx
                    have HLEN := Hid.mk_ hside.lenR0
                    have hN2 := hside.good.len2
                    obtain ⟨l, hle⟩ : ∃ l : Int, l = (N2.length : Int) := ⟨_, rfl⟩
                    rw [← hle] at HLEN
                    have hl0 : 0 ≤ l ∧ l ≤ 8192 := by omega
                    have k0 := HK28.out.cell 0
                    have k1 := HK28.out.cell 1
                    by_cases hml : m < l + 4
                    · have hstp := step_any (w := wr) (bw := bw) (o := ⟨false, false, 4, m, none, 0, []⟩) (B := w.heap.size) HT.out.below.size hside (fun q hq => HT.out.lo q (.inl hq)) (OpOk.plain _ _ 4 m (by unfold i64; omega) (by unfold i64; omega)) HT.out.book (fun q hq => ⟨(HT.out.db q (.inl hq)).2.1, (HT.out.db q (.inl hq)).2.2⟩) (by have := HES.out; omega)
                      unfold OpV.agg at hstp
                      simp only [List.length_nil] at hstp
                      have HSTP := Hid.mk_ hstp
                      clear hstp hside hle
                      go_wp2_with (first
                        | (go_at_call 10; (with_reducible refine HLEN.out.mono ?_); rintro e w' ⟨rfl, rfl⟩)
                        | (go_at_call 8; (with_reducible refine HSTP.out.mono ?_); rintro e wu ⟨rfl, N3, z3, lv3, es3, hleft3⟩; have HLF3 := Hid.mk_ hleft3; clear hleft3))
                      have hlt28 := HK28.out.lt
                      have hrel : St w wu bw gs (some ⟨a, 0, none⟩) (some ⟨b, 0, none⟩) p2 x2 z3 z2 lv3 es3 ∧ ((es3.length : Int) ≤ 0 * 9000 + (m + 1) + 2) ∧ (Blk wu b28 [.pointer (some ⟨a, 0, none⟩), .pointer (some ⟨b, 0, none⟩)] 34) ∧ (b28 ∉ z3 ∧ ¬ bookZ bw lv3 b28) := by
                        refine ⟨HT.out.left1 HLF3.out, by have := HLF3.out.len; have := HES.out; omega, HK28.out.mods HLF3.out.mods (fun e => by rcases e with e | e; exact HFAR.out.1 e; exact HFAR.out.2 e), fun e => ?_, fun e => ?_⟩
                        · rcases HLF3.out.zs b28 e with e2 | e2
                          · exact HFAR.out.1 e2
                          · omega
                        · rcases e with e | e
                          · exact HFAR.out.2 (.inl e)
                          · rcases HLF3.out.ls b28 e with e2 | e2
                            · exact HFAR.out.2 (.inr e2)
                            · omega
                      first
                        | exact ⟨⟨m + 1, z3, z2, lv3, es3, by omega, by omega, rfl, rfl, hrel.1, hrel.2.1, hrel.2.2.1, hrel.2.2.2⟩, by simp [intOf]; omega⟩
                        | (refine ⟨?_, by simp [intOf]; omega⟩
                           (repeat apply Exists.intro)
                           exact ⟨⟨m + 1, z3, z2, lv3, es3, by omega, by omega, rfl, rfl, hrel.1, hrel.2.1, hrel.2.2.1, hrel.2.2.2⟩, rfl⟩)
                    · clear hside hle
                      go_wp2_with (go_at_call 10; (with_reducible refine HLEN.out.mono ?_); rintro e w' ⟨rfl, rfl⟩)
                      first
                        | exact ⟨⟨1, by omega, rfl, z1, z2, lv, es, HT.out, Hid.mk_ (by have := HES.out; omega)⟩, by simp [intOf]⟩
                        | exact ⟨⟨1, z1, z2, lv, es, by omega, by go_num, HT.out, Hid.mk_ (by have := HES.out; omega)⟩, by simp [intOf]⟩
                        | (refine ⟨?_, by simp [intOf]⟩
                           (repeat apply Exists.intro)
                           exact ⟨⟨1, z1, z2, lv, es, by omega, by go_num, HT.out, Hid.mk_ (by have := HES.out; omega)⟩, rfl⟩)
            · rcases HT.out.s2 with ⟨hp, hx, hz⟩ | ⟨a, b, S, M, N, hp, hx, hside⟩
              · subst hp hx
                go_wp2_with fail
                first
                  | exact ⟨⟨2, z1, z2, lv, es, by omega, by go_num, HT.out.new ((Below.refl _ _).alloc (Nat.le_refl _) _), Hid.mk_ (Nat.le_trans HES.out (by omega))⟩, by simp [intOf]⟩
                  | (refine ⟨?_, by simp [intOf]⟩
                     (repeat apply Exists.intro)
                     exact ⟨⟨2, z1, z2, lv, es, by omega, by go_num, HT.out.new ((Below.refl _ _).alloc (Nat.le_refl _) _), Hid.mk_ (Nat.le_trans HES.out (by omega))⟩, rfl⟩)
              · subst hp hx
                have hs34 : Below wr.heap.size wr (wr.alloc (.cells #[.pointer (some ⟨a, 0, none⟩), .pointer (some ⟨b, 0, none⟩)] 34)) := (Below.refl _ _).alloc (Nat.le_refl _) _
                have hT2 := HT.out.new hs34
                have hk28 := Blk.new wr [.pointer (some ⟨a, 0, none⟩), .pointer (some ⟨b, 0, none⟩)] 34
                obtain ⟨ws, hws⟩ : ∃ ws, ws = wr.alloc (.cells #[.pointer (some ⟨a, 0, none⟩), .pointer (some ⟨b, 0, none⟩)] 34) := ⟨_, rfl⟩
                obtain ⟨b28, hb28⟩ : ∃ x, x = wr.heap.size := ⟨_, rfl⟩
                rw [← hws] at hT2 hk28 hs34
                rw [← hb28] at hk28
                have hstp := step_any (w := ws) (bw := bw) (o := ⟨false, false, 9, 0, none, 0, []⟩) (B := w.heap.size) hT2.below.size (hside.new hs34) (fun q hq => HT.out.lo q (.inr <| .inl hq)) (OpOk.plain _ _ 9 0 (by unfold i64; omega) (by unfold i64; omega)) hT2.book (fun q hq => ⟨(HT.out.db q (.inr hq)).2.1, (HT.out.db q (.inr hq)).2.2⟩) (by have := HES.out; omega)
                unfold OpV.agg at hstp
                simp only [List.length_nil] at hstp
                have HSTP := Hid.mk_ hstp
                have HT2 := Hid.mk_ hT2
                have HK28 := Hid.mk_ hk28
                have HWS := Hid.mk_ hws
                have HB28 := Hid.mk_ hb28
                have hfar : b28 ∉ z2 ∧ ¬ bookZ bw lv b28 := by
                  refine ⟨fun e => ?_, fun e => ?_⟩
                  · have := HT.out.s2.zlt b28 e; omega
                  · rcases e with e | e
                    · omega
                    · have := HT.out.book.row.lt b28 e; omega
                have HFAR := Hid.mk_ hfar
                have HLT28 := Hid.mk_ (show b28 = wr.heap.size from hb28)
                clear hs34 hT2 hstp hk28 hws hb28 hside hfar
                go_upto_region 34 with fail
                rw [← HB28.out, ← HWS.out]
                have k0 := HK28.out.cell 0
                have k1 := HK28.out.cell 1
                go_wp2_with (go_at_call 8; (with_reducible refine HSTP.out.mono ?_); rintro e wt ⟨rfl, N', z', lv', es', hleft⟩; have HLF := Hid.mk_ hleft; clear hleft)
                have HB2 := Hid.mk_ (HK28.out.mods HLF.out.mods (fun e => by rcases e with e | e; exact HFAR.out.1 e; exact HFAR.out.2 e))
                have HF2 := Hid.mk_ (show b28 ∉ z' ∧ ¬ bookZ bw lv' b28 by
                  have hlt := HK28.out.lt
                  refine ⟨fun e => ?_, fun e => ?_⟩
                  · rcases HLF.out.zs b28 e with e2 | e2
                    · exact HFAR.out.1 e2
                    · omega
                  · rcases e with e | e
                    · exact HFAR.out.2 (.inl e)
                    · rcases HLF.out.ls b28 e with e2 | e2
                      · exact HFAR.out.2 (.inr e2)
                      · omega)
                have HT3 := Hid.mk_ (HT2.out.left2 HLF.out)
                have HE3 := Hid.mk_ (show es'.length ≤ 1 * 9000 + 1 by have := HLF.out.len; have := HES.out; omega)
                clear HLF HT HT2 HES HSTP HK28 HFAR
                go_loopw [29, 30] (fun x29 x30 wr => ∃ (m : Int) (z1 z2 : List Nat) (lv : Value) (es : List Value), -1 ≤ m ∧ m ≤ 8200 ∧ x29 = .bool true ∧ x30 = .int .i64 m ∧ Hid (St w wr bw gs p1 x1 (some ⟨a, 0, none⟩) (some ⟨b, 0, none⟩) z1 z2 lv es) ∧ Hid ((es.length : Int) ≤ 1 * 9000 + m + 2) ∧ Hid (Blk wr b28 [.pointer (some ⟨a, 0, none⟩), .pointer (some ⟨b, 0, none⟩)] 34) ∧ Hid (b28 ∉ z2 ∧ ¬ bookZ bw lv b28)) (fun _ x30 _ => (9000 - intOf x30).toNat)
                case atStart => exact ⟨-1, z1, z', lv', es', by omega, by omega, rfl, rfl, HT3.out, Hid.mk_ (by have := HE3.out; omega), HB2.out, HF2.out⟩
                case round =>
                  obtain ⟨m, z1, z2, lv, es, hm0, hm1, rfl, rfl, HT, HES, HK28, HFAR⟩ := hrel
                  rcases HT.out.s2 with ⟨hp, hx, hz⟩ | ⟨a', b', S', M', N2, hp, hx, hside⟩
                  · cases hp
                  · cases hp
                    cases hx
                    have HLEN := Hid.mk_ hside.lenR0
                    have hN2 := hside.good.len2
                    obtain ⟨l, hle⟩ : ∃ l : Int, l = (N2.length : Int) := ⟨_, rfl⟩
                    rw [← hle] at HLEN
                    have hl0 : 0 ≤ l ∧ l ≤ 8192 := by omega
                    have k0 := HK28.out.cell 0
                    have k1 := HK28.out.cell 1
                    by_cases hml : m < l + 4
                    · have hstp := step_any (w := wr) (bw := bw) (o := ⟨false, false, 4, m, none, 0, []⟩) (B := w.heap.size) HT.out.below.size hside (fun q hq => HT.out.lo q (.inr <| .inl hq)) (OpOk.plain _ _ 4 m (by unfold i64; omega) (by unfold i64; omega)) HT.out.book (fun q hq => ⟨(HT.out.db q (.inr hq)).2.1, (HT.out.db q (.inr hq)).2.2⟩) (by have := HES.out; omega)
                      unfold OpV.agg at hstp
                      simp only [List.length_nil] at hstp
                      have HSTP := Hid.mk_ hstp
                      clear hstp hside hle
                      go_wp2_with (first
                        | (go_at_call 10; (with_reducible refine HLEN.out.mono ?_); rintro e w' ⟨rfl, rfl⟩)
                        | (go_at_call 8; (with_reducible refine HSTP.out.mono ?_); rintro e wu ⟨rfl, N3, z3, lv3, es3, hleft3⟩; have HLF3 := Hid.mk_ hleft3; clear hleft3))
                      have hlt28 := HK28.out.lt
                      have hrel : St w wu bw gs p1 x1 (some ⟨a, 0, none⟩) (some ⟨b, 0, none⟩) z1 z3 lv3 es3 ∧ ((es3.length : Int) ≤ 1 * 9000 + (m + 1) + 2) ∧ (Blk wu b28 [.pointer (some ⟨a, 0, none⟩), .pointer (some ⟨b, 0, none⟩)] 34) ∧ (b28 ∉ z3 ∧ ¬ bookZ bw lv3 b28) := by
                        refine ⟨HT.out.left2 HLF3.out, by have := HLF3.out.len; have := HES.out; omega, HK28.out.mods HLF3.out.mods (fun e => by rcases e with e | e; exact HFAR.out.1 e; exact HFAR.out.2 e), fun e => ?_, fun e => ?_⟩
                        · rcases HLF3.out.zs b28 e with e2 | e2
                          · exact HFAR.out.1 e2
                          · omega
                        · rcases e with e | e
                          · exact HFAR.out.2 (.inl e)
                          · rcases HLF3.out.ls b28 e with e2 | e2
                            · exact HFAR.out.2 (.inr e2)
                            · omega
                      first
                        | exact ⟨⟨m + 1, z1, z3, lv3, es3, by omega, by omega, rfl, rfl, hrel.1, hrel.2.1, hrel.2.2.1, hrel.2.2.2⟩, by simp [intOf]; omega⟩
                        | (refine ⟨?_, by simp [intOf]; omega⟩
                           (repeat apply Exists.intro)
                           exact ⟨⟨m + 1, z1, z3, lv3, es3, by omega, by omega, rfl, rfl, hrel.1, hrel.2.1, hrel.2.2.1, hrel.2.2.2⟩, rfl⟩)
                    · clear hside hle
                      go_wp2_with (go_at_call 10; (with_reducible refine HLEN.out.mono ?_); rintro e w' ⟨rfl, rfl⟩)
                      first
                        | exact ⟨⟨2, by omega, rfl, z1, z2, lv, es, HT.out, Hid.mk_ (by have := HES.out; omega)⟩, by simp [intOf]⟩
                        | exact ⟨⟨2, z1, z2, lv, es, by omega, by go_num, HT.out, Hid.mk_ (by have := HES.out; omega)⟩, by simp [intOf]⟩
                        | (refine ⟨?_, by simp [intOf]⟩
                           (repeat apply Exists.intro)
                           exact ⟨⟨2, z1, z2, lv, es, by omega, by go_num, HT.out, Hid.mk_ (by have := HES.out; omega)⟩, rfl⟩)
            · have hcell := q0
              obtain ⟨lso, hown⟩ := HT.out.book.own (by have := HES.out; omega)
              have HOW := Hid.mk_ (owned_any hown)
              clear hown
              go_wp2_with (go_at_call 9; (with_reducible refine HOW.out.mono ?_); rintro e wz ⟨rfl, hmz⟩; have HMZ := Hid.mk_ hmz; clear hmz)
              go_ret
              exact ⟨rfl, HT.out.below.trans (HMZ.out.below HT.out.below.size (fun k _ e => HT.out.lo k (.inr (.inr (.inr (.inr e))))))⟩
end
end Go.Proofs.Ytccgamaijjeafaa
