import Derived.Test.YtphmmpdeehfhjaaA5
namespace Go.Proofs.Ytphmmpdeehfhjaa
open Go.RowKit
set_option linter.unusedVariables false
set_option linter.unusedSimpArgs false
def RowsPost (w : World) (rows : List Row) (e : Ending) (w' : World) : Prop :=
  ∃ g cur, e = .returned (.slice (some ⟨g, 0, none⟩) rows.length rows.length) ∧ w.heap.size ≤ g ∧ w'.heap[g]? = some (.cells cur 65 (0, 0)) ∧ cur.toList.take (rows.length * 3) = rowsCells rows ∧ Below w.heap.size w w'
theorem OutAt.start {w : World} {base : Nat} (h : base = w.heap.size) : OutAt base (w.alloc (.cells #[.slice none 0 0] 44)) w.heap.size [] :=
  ⟨_, Blk.new w [.slice none 0 0] 44, World.ownsRow_nil _ _ _ _, by simp [Value.ownBlock], by omega⟩
theorem OutAt.some_ {base : Nat} {w : World} {bo : Nat} {rows : List Row} (h : OutAt base w bo rows) (hn : 1 ≤ rows.length) :
    ∃ g cap cur, Blk w bo [.slice (some ⟨g, 0, none⟩) rows.length cap] 44 ∧ base ≤ g ∧ w.heap[g]? = some (.cells cur 65 (0, 0)) ∧ rows.length ≤ cap ∧ cap ≤ maxLen ∧ cur.toList.take (rows.length * 3) = rowsCells rows := by
  obtain ⟨v, hv, hown, _, _⟩ := h
  rcases hown.2 with ⟨_, h0⟩ | ⟨g, cap, cur, rfl, hg, hh, h1, h2, h3, h4⟩
  · omega
  · exact ⟨g, cap, cur, hv, hg, hh, h1, h2, h4⟩
theorem rows_any (t : Tr) (a : Nat) (fp : List Nat) (w : World) (h : TrieAt w t a fp) (hh : t.ht ≤ 32) :
    Calls Try.prog 16 #[.pointer (some ⟨a, 0, none⟩)] w (RowsPost w (t.all 0 0)) := by
  obtain ⟨b, f, rfl, ha, ht, hn⟩ := h
  have ca : w.cell? ⟨a, 0, none⟩ = some (.pointer (some ⟨b, 0, none⟩)) := ha.cell 0
  have hlen := Tr.all_length t 0 0
  have hp := Nat.pow_le_pow_right (n := 2) (by omega) hh
  have halt := ha.lt
  have n1 : ¬ a = w.heap.size := by omega
  obtain ⟨rows, hrows⟩ : ∃ r, r = t.all 0 0 := ⟨_, rfl⟩
  have hc := Hid.mk_ (all_any w.heap.size w.heap.size t 0 0 b f (w.alloc (.cells #[.slice none 0 0] 44)) [] 0 rfl (ht.move (fun k hk => Below.heap_alloc w _ k (ht.lt k hk))) (ht.lt) (OutAt.start rfl) (by omega) (by omega) (by decide) (by decide) (by simp; omega))
  rw [List.nil_append] at hc
  rw [← hrows] at hc hlen ⊢
  clear hrows
  go_enter Try.func16, Try.ntmps16
  go_wp2_with (go_at_call 34; refine hc.out.mono ?_; rintro e w1 ⟨rfl, h1, h2⟩; obtain ⟨g, cap, cur, hb, hg, hh1, hcap, hcm, htk⟩ := h1.some_ (by omega); have cb : w1.cell? ⟨w.heap.size, 0, none⟩ = some (.slice (some ⟨g, 0, none⟩) rows.length cap) := hb.cell 0; have hl1 : (rows.length : Int) ≤ cap := by omega)
  go_ret
  exact ⟨g, cur, rfl, hg, hh1, htk, ((Below.refl _ _).alloc (Nat.le_refl _) _).trans h2⟩
end Go.Proofs.Ytphmmpdeehfhjaa
