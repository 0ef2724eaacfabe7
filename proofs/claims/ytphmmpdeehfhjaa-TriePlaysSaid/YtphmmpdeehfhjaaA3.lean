import Derived.Test.YtphmmpdeehfhjaaA1
import Derived.Test.YtphmmpdeehfhjaaA2
namespace Go.Proofs.Ytphmmpdeehfhjaa
open Go.RowKit
set_option linter.unusedVariables false
set_option linter.unusedSimpArgs false
theorem isLabel_yes {n : Int} (h0 : 0 ≤ n) (h1 : n ≤ 65535) (w : World) : Calls Try.prog 25 #[.int .i64 n] w fun e w' => e = .returned (.bool true) ∧ w = w' := by
  have h := isLabel_any n w
  rwa [decide_eq_true ⟨h0, h1⟩] at h
theorem isLabel_no {n : Int} (h : ¬ (0 ≤ n ∧ n ≤ 65535)) (w : World) : Calls Try.prog 25 #[.int .i64 n] w fun e w' => e = .returned (.bool false) ∧ w = w' := by
  have h2 := isLabel_any n w
  rwa [decide_eq_false h] at h2
def NewPost (w : World) (n : Int) (e : Ending) (w' : World) : Prop :=
  ∃ a fp, e = .returned (.tuple #[.pointer (some ⟨a, 0, none⟩), .int .i64 0]) ∧ TrieAt w' (.leaf n) a fp ∧ (∀ k ∈ fp, w.heap.size ≤ k) ∧ Below w.heap.size w w'
theorem new_no {n : Int} (h : ¬ (0 ≤ n ∧ n ≤ 65535)) (w : World) :
    Calls Try.prog 9 #[.int .i64 n] w fun e w' => e = .returned (.tuple #[.pointer none, .int .i64 1]) ∧ w = w' := by
  have H := Hid.mk_ h
  clear h
  go_enter Try.func9, Try.ntmps9
  go_wp2_with (go_at_call 25; refine (isLabel_no H.out _).mono ?_; rintro e w' ⟨rfl, rfl⟩)
  go_ret2
  exact ⟨rfl, rfl⟩
theorem new_yes {n : Int} (h0 : 0 ≤ n) (h1 : n ≤ 65535) (w : World) : Calls Try.prog 9 #[.int .i64 n] w (NewPost w n) := by
  go_enter Try.func9, Try.ntmps9
  go_wp2_with (first | (go_at_call 25; refine (isLabel_yes h0 h1 _).mono ?_; rintro e w' ⟨rfl, rfl⟩) | (go_at_call 26; refine (leaf_any _ _).mono ?_; rintro e w' ⟨rfl, rfl⟩))
  go_ret2
  refine ⟨_, [w.heap.size + 1, w.heap.size], rfl, ⟨w.heap.size, [w.heap.size], rfl, ?_, ⟨rfl, ?_⟩, by simp⟩, by simp, ?_⟩
  · have h := Blk.new (w.alloc (.cells #[.int .i64 n, .pointer none, .pointer none] 85)) [.pointer (some ⟨w.heap.size, 0, none⟩)] 73
    rw [World.size_alloc] at h
    exact h
  · exact (Blk.new w (nodeCells n none none) 85).alloc _
  · exact ((Below.refl _ _).alloc (Nat.le_refl _) _).alloc (by simp) _
/-! Trie.Put -/
theorem tput_no (t : Tr) (a : Nat) (fp : List Nat) (at_ bits v : Int) (w : World) (h : TrieAt w t a fp) (hr : rightB at_ bits = false) :
    Calls Try.prog 18 #[.pointer (some ⟨a, 0, none⟩), .agg #[.int .i64 at_, .int .i64 bits], .int .i64 v] w fun e w' => e = .returned (.int .i64 1) ∧ Below w.heap.size w w' := by
  have H := Hid.mk_ hr
  have H2 := Hid.mk_ h
  clear hr h
  go_enter Try.func18, Try.ntmps18
  go_wp2_with (go_at_call 19; refine (range_no _ _ _ H.out).mono ?_; rintro e w1 ⟨rfl, hb⟩; obtain ⟨hc, hf⟩ := bcell hb; have hz : w.heap.size < w1.heap.size := by have := hb.size; simp at this; omega)
  go_ret
  exact ⟨rfl, (((((Below.refl _ _).alloc (Nat.le_refl _) _).trans (hb.mono (by simp)))).alloc (by omega) _)⟩
theorem tput_nol (t : Tr) (a : Nat) (fp : List Nat) (at_ bits v : Int) (w : World) (h : TrieAt w t a fp) (hr : rightB at_ bits = true) (hl : ¬ (0 ≤ v ∧ v ≤ 65535)) :
    Calls Try.prog 18 #[.pointer (some ⟨a, 0, none⟩), .agg #[.int .i64 at_, .int .i64 bits], .int .i64 v] w fun e w' => e = .returned (.int .i64 1) ∧ Below w.heap.size w w' := by
  have H := Hid.mk_ hr
  have H2 := Hid.mk_ h
  have H3 := Hid.mk_ hl
  clear hr h hl
  go_enter Try.func18, Try.ntmps18
  go_wp2_with (first | (go_at_call 19; refine (range_yes _ _ _ H.out).mono ?_; rintro e w1 ⟨rfl, hb⟩; obtain ⟨hc, hf⟩ := bcell hb; have hz : w.heap.size < w1.heap.size := by have := hb.size; simp at this; omega) | (go_at_call 25; refine (isLabel_no H3.out _).mono ?_; rintro e w' ⟨rfl, rfl⟩))
  go_ret
  exact ⟨rfl, (((((Below.refl _ _).alloc (Nat.le_refl _) _).trans (hb.mono (by simp)))).alloc (by omega) _)⟩
def TputPost (w : World) (t' : Tr) (a : Nat) (fp : List Nat) (e : Ending) (w' : World) : Prop :=
  ∃ fp', e = .returned (.int .i64 0) ∧ TrieAt w' t' a fp' ∧ (∀ k ∈ fp', k ∈ fp ∨ w.heap.size ≤ k) ∧ Mods (· ∈ fp) w w'
theorem tput_yes (t : Tr) (a : Nat) (fp : List Nat) (at_ bits v : Int) (w : World) (h : TrieAt w t a fp) (hr : rightB at_ bits = true) (l0 : 0 ≤ v) (l1 : v ≤ 65535) :
    Calls Try.prog 18 #[.pointer (some ⟨a, 0, none⟩), .agg #[.int .i64 at_, .int .i64 bits], .int .i64 v] w (TputPost w (Tr.put at_ v bits.toNat 0 t) a fp) := by
  have H := Hid.mk_ hr
  have hh : 0 ≤ bits ∧ bits ≤ 32 ∧ 0 ≤ at_ ∧ at_ ≤ 4294967295 ∧ at_ % 2 ^ (32 - bits).toNat = 0 := of_decide_eq_true hr
  obtain ⟨b0, b1, a0, a1, _⟩ := hh
  clear hr
  obtain ⟨b, f, rfl, ha, ht, hn⟩ := h
  have hlt := ha.lt
  have hp := Hid.mk_ (put_any at_ v a0 a1 bits.toNat 0 t b f)
  have n0 : ¬ a = w.heap.size := by omega
  go_enter Try.func18, Try.ntmps18
  go_wp2_with (first | (go_at_call 19; refine (range_yes _ _ _ H.out).mono ?_; rintro e w1 ⟨rfl, hb⟩; obtain ⟨hc, hf⟩ := bcell hb; have hz : w.heap.size < w1.heap.size := by have := hb.size; simp at this; omega) | (go_at_call 25; refine (isLabel_yes l0 l1 _).mono ?_; rintro e w' ⟨rfl, rfl⟩))
  have hB : Below w.heap.size w w1 := ((Below.refl _ _).alloc (Nat.le_refl _) _).trans (hb.mono (by simp))
  have hA1 := ha.below hB hlt
  have hX : Blk w1 w.heap.size [.int .i64 at_, .int .i64 bits] 42 := (Blk.new w [.int .i64 at_, .int .i64 bits] 42).below hb (by simp)
  clear hc hf
  have htW : ∀ O, At ((w1.alloc O).drew) t b f := fun O => ht.move (fun k hk => (Below.heap_alloc w1 O k (by have := ht.lt k hk; have := hB.size; omega)).trans (hB.block k (ht.lt k hk)))
  have hAW := fun O => (hA1.alloc O).drew
  have hXW := fun O => (hX.alloc O).drew
  have hBW : ∀ O, Below w.heap.size w ((w1.alloc O).drew) := fun O => (hB.alloc hB.size O).drew
  have HtW := Hid.mk_ htW
  have HAW := Hid.mk_ hAW
  have HXW := Hid.mk_ hXW
  have HBW := Hid.mk_ hBW
  clear htW hAW hXW hBW hX hA1
  go_region_held3 (fun w' => w'.cell? ⟨a, 0, none⟩ = some (.pointer (some ⟨b, 0, none⟩)) ∧ w'.cell? ⟨w.heap.size, 0, none⟩ = some (.int .i64 at_) ∧ w'.cell? ⟨w.heap.size, 1, none⟩ = some (.int .i64 bits)) (first | exact ⟨(HAW.out _).cell 0, (HXW.out _).cell 0, (HXW.out _).cell 1⟩ | assumption)
    (first | (go_at_call 36; refine (hp.out _ bits 0 (by omega) (by omega) (by omega) (HtW.out _)).mono ?_; rintro e w2 ⟨rfl, f2, ht2, hs2, hm2⟩; have hAx := (HAW.out _).mods hm2 hn; have hXx := (HXW.out _).mods hm2 (fun hk => absurd (ht.lt _ hk) (Nat.lt_irrefl _)); have hK := And.intro (hAx.cell 0) (And.intro (hXx.cell 0) (hXx.cell 1))))
  go_wp2
  go_ret
  have hsz := (HBW.out (.cells #[.int .i64 at_, .int .i64 (at_ + 2 ^ (32 - bits).toNat - 1)] 58)).size
  refine ⟨a :: f2, rfl, ⟨b, f2, rfl, hAx, ht2, fun hk => ?_⟩, ?_, ?_⟩
  · rcases hs2 a hk with h | h
    · exact hn h
    · omega
  · intro k hk
    simp at hk
    rcases hk with rfl | hk
    · exact .inl (by simp)
    · rcases hs2 k hk with h | h
      · exact .inl (by simp [h])
      · exact .inr (by omega)
  · exact (Mods.of_new (HBW.out _)).trans hm2 (fun k _ hk => by simp [hk])
end Go.Proofs.Ytphmmpdeehfhjaa
