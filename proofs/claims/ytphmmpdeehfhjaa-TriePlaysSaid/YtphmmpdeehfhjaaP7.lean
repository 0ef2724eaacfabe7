/- The document's own trie: the walk of its rows. -/
import Derived.Test.YtphmmpdeehfhjaaP6
import Derived.Deep.AppendLies
import Derived.Deep.CutBlock
namespace Go.Proofs.Ytphmmpdeehfhjaa
open Go.RowKit
set_option linter.unusedVariables false
set_option linter.unusedSimpArgs false
theorem RR49.fin {B : Nat} {w1 wr W w2 : World} {gg cap H : Nat} {a v : Int} {D : Int} {rows : List Row} {u : Value}
    (hown : w2.ownsRow B 65 3 (.slice (some ⟨gg, 0, none⟩) (rows.length + 1) cap) (rows.length + 1) (rowsCells rows ++ [.int .i64 a, .int .i64 D, .int .i64 v])) (hB : Below B w1 W) (hBs : B ≤ W.heap.size) (hg : W.grownBy w2 u.ownBlock) (hr : ∀ k, u.ownBlock = some k → B ≤ k) (hl : (rows.length : Int) ≤ a) {top : Int} (ht : a + 1 ≤ top)
    (hat : u.ownBlock = some gg ∨ gg = H) (hH : wr.heap.size ≤ H) (hm : Mods (fun k => u.ownBlock = some k) wr W) :
    RR49Post B w1 wr u (rows ++ [⟨a, D, v⟩]) top (.returned (.slice (some ⟨gg, 0, none⟩) (rows.length + 1) cap)) w2 := by
  refine ⟨_, rfl, ?_, hB.grown hg hBs hr, Nat.le_trans hBs hg.size, by simp; omega, hm.grown hg (fun k e _ => e), ?_⟩
  · unfold OwnRows
    rw [rowsCells_append, List.length_append]
    exact hown
  · rcases hat with h | h
    · exact .inl h.symm
    · exact .inr ⟨gg, rfl, by omega⟩
set_option maxHeartbeats 8000000 in
set_option maxRecDepth 100000 in
theorem rows49_leaf {g : Int → Int} {l : List Cut} {w1 wr : World} {b B : Nat} {fp : List Nat} {A : Option Addr} {cap0 : Nat} {rows : List Row} {a v : Int} {d : Nat} (hN : Norm g l) (hR : RefAt w1 l b fp) (hB1 : B = w1.heap.size) (hs : Spot a d) (hg : Agree g (.leaf v) a d)
    (hown : OwnRows B wr (.slice A rows.length cap0) rows) (hl : (rows.length : Int) ≤ a) (hB : Below B w1 wr) (hBs : B ≤ wr.heap.size) :
    Calls Try.prog 49 #[.pointer (some ⟨b, 0, none⟩), .slice A rows.length cap0, .agg #[.int .i64 a, .int .i64 (d : Int)]] wr (RR49Post B w1 wr (.slice A rows.length cap0) (rows ++ [⟨a, d, v⟩]) (a + 2 ^ (32 - d))) := by
  have hp := pw_pos (32 - d)
  obtain ⟨sd, sa0, sa1, sam⟩ := hs
  have hs : Spot a d := ⟨sd, sa0, sa1, sam⟩
  obtain ⟨i, hi, h1, h2⟩ := hN.place (n := a) sa0 (by omega)
  obtain ⟨hcov, hlab⟩ := cover_leaf hN hs hg hi h1 h2
  have hlN := hN.len
  obtain ⟨gb, cap, c0, hownb, hne, rfl, hblk⟩ := hR.cells hN.ne
  obtain ⟨i0, hi0, hz0, hz1, hz2⟩ := info_parts Try.info65
  obtain ⟨bx, hbx⟩ : ∃ bx, bx = wr.heap.size := ⟨_, rfl⟩
  obtain ⟨S, hS⟩ : ∃ S : Int, S = 2 ^ (32 - d) := ⟨_, rfl⟩
  have hS2 : S = 2 ^ (32 - (d : Int)).toNat := by rw [hS, show (32 - (d : Int)).toNat = 32 - d by omega]
  rw [← hS] at hcov hp sa1 ⊢
  obtain ⟨W, hW⟩ : ∃ W, W = wr.alloc (.cells #[.int .i64 a, .int .i64 (d : Int)] 42) := ⟨_, rfl⟩
  have hBW : Below B w1 W := by rw [hW]; exact hB.alloc hBs _
  have hWs : W.heap.size = bx + 1 := by rw [hW, World.size_alloc, hbx]
  have hbxc := Blk.new wr [.int .i64 a, .int .i64 (d : Int)] 42
  rw [← hW, ← hbx] at hbxc
  have b0 := hbxc.cell 0
  have b1 := hbxc.cell 1
  simp at b0 b1
  have hbl : b < B := by rw [hB1]; exact hblk.lt
  have hgl : gb < B := by rw [hB1]; exact (hownb.lt gb rfl).2
  have k0 : W.cell? ⟨b, 0, none⟩ = some (.slice (some ⟨gb, 0, none⟩) l.length cap) := (hBW.cell (p := ⟨b, 0, none⟩) hbl).trans c0
  have kc : ∀ i (hi : i < l.length), W.cell? ⟨gb, i * 2, none⟩ = some (.int .i64 (l[i]'hi).f) ∧ W.cell? ⟨gb, i * 2 + 1, none⟩ = some (.int .i64 (l[i]'hi).l) := fun i hi => by
    obtain ⟨d0, d1⟩ := hownb.cell i hi
    exact ⟨(hBW.cell (p := ⟨gb, i * 2, none⟩) hgl).trans d0, (hBW.cell (p := ⟨gb, i * 2 + 1, none⟩) hgl).trans d1⟩
  have k1 := (kc i hi).2
  rw [hlab] at k1
  have hRW : RefAt W l b [b, gb] := hR.new (by rw [← hB1]; exact hBW)
  have HOF := Hid.mk_ (of_at hN hi h1 h2 hlN hRW)
  have HSZ := Hid.mk_ (rsize_at hS2 (by omega) (by omega) W)
  have hil1 : (i : Int) < l.length := by omega
  have hwi : IntKind.i64.wrap ((i : Int) + 1) = i + 1 := by rw [IntKind.wrap_i64]; omega
  have hwa : IntKind.i64.wrap (a + S) = a + S := by rw [IntKind.wrap_i64]; omega
  have hownW : ∀ n : Nat, OwnRows B (W.drewN n) (.slice A rows.length cap0) rows := fun n => by
    refine own_move hown (fun k hk => ?_)
    have := (hown.lt k hk).2
    rw [hW]
    exact Below.heap_alloc wr _ k this
  have HOWN := Hid.mk_ hownW
  have HBW := Hid.mk_ hBW
  have HW := Hid.mk_ hW
  have HBX := Hid.mk_ hbx
  have hrl : rows.length ≤ 4294967296 := by omega
  have hBW2 : B ≤ W.heap.size := by omega
  have HROW := Hid.mk_ (fun k (hk : Value.ownBlock (.slice A rows.length cap0) = some k) => (hown.lt k hk).1)
  have HB1 := Hid.mk_ hB1
  have e0 : (d : Int) ≤ 32 := by omega
  by_cases hlast : i + 1 = l.length
  · have t0 : ((i : Int) + 1 == (l.length : Int)) = true := by simp; omega
    have t1 : decide ((i : Int) + 1 = (l.length : Int)) = true := decide_eq_true (by omega)
    clear hlast hg hcov hlab kc hRW hownW hBW hW hbx hS hS2 hown hN h1 h2 hR hB hs sam hownb hblk hbxc hB1
    go_enter Try.func49, Try.ntmps49
    go_upto_region 1 with fail
    rw [← HW.out, ← HBX.out]
    go_wp2_with (first
      | (go_at_call 45; (with_reducible refine HOF.out.mono ?_); rintro e w' ⟨rfl, rfl⟩)
      | (go_at_call 43; (with_reducible refine HSZ.out.mono ?_); rintro e w' ⟨rfl, rfl⟩))
    go_big_quiet (fail)
    go_upto_region 4 with fail
    obtain ⟨W3, hW3⟩ : ∃ W3, W3 = W.drewN nq := ⟨_, rfl⟩
    have q0 : W3.cell? ⟨b, 0, none⟩ = some (.slice (some ⟨gb, 0, none⟩) l.length cap) := by rw [hW3]; exact k0
    have q1 : W3.cell? ⟨gb, i * 2 + 1, none⟩ = some (.int .i64 v) := by rw [hW3]; exact k1
    have q2 : W3.cell? ⟨bx, 0, none⟩ = some (.int .i64 a) := by rw [hW3]; exact b0
    have q3 : W3.cell? ⟨bx, 1, none⟩ = some (.int .i64 (d : Int)) := by rw [hW3]; exact b1
    have HOWN3 := Hid.mk_ (show OwnRows B W3 (.slice A rows.length cap0) rows by rw [hW3]; exact HOWN.out nq)
    have HBW3 := Hid.mk_ (show Below B w1 W3 by rw [hW3]; exact HBW.out.trans (Drawn_below _ _))
    have HMW3 := Hid.mk_ (show Mods (fun k => Value.ownBlock (.slice A rows.length cap0) = some k) wr W3 by rw [hW3, HW.out]; exact ((Mods.refl _ _).alloc _).drewN _)
    have hs3 : B ≤ W3.heap.size := by rw [hW3]; exact hBW2
    rw [← hW3]
    clear hW3 k0 k1 b0 b1 hWs
    go_region_law ((refine step_append_lies _ (by rfl) _ _ _ (by rfl) B 65 i0 _ 3 24 Try.underlying44 hi0 hz0 hz1 hz2 rfl (by omega) (.slice A rows.length cap0) rows.length (rowsCells rows) (by rfl) ((World.ownsRow.alloc HOWN3.out _).drew) ⟨W3.heap.size, 0, none⟩ 1 1 [.int .i64 a, .int .i64 (d : Int), .int .i64 v] (by rfl) (by rfl) ((one_three W3 _ _ _)) (by simp [Value.oneCell']) (by omega) (by unfold maxLen; omega) (by omega) (by simp; omega) (W3.heap.size + 1) (by simp) ?_; intro gg cap' w2 hown2 hgrow hat hlt1))
    all_goals (try go_wp2_with fail)
    all_goals go_ret
    all_goals exact RR49.fin hown2 (HBW3.out.alloc (by omega) _).drew (by simp; omega) hgrow HROW.out hl (by omega) hat (by have h1 := HMW3.out.size; omega) (HMW3.out.alloc _).drew
  · have hil2 : i + 1 < l.length := by omega
    have hnf : nextF l (i + 1) = (l[i + 1]'hil2).f := nextF_in hil2
    rw [hnf] at hcov
    have k2 := (kc (i + 1) hil2).1
    obtain ⟨fn, hfn⟩ : ∃ fn, fn = (l[i + 1]'hil2).f := ⟨_, rfl⟩
    rw [← hfn] at hcov k2
    have hil3 : (i : Int) + 1 < l.length := by omega
    have t0 : ((i : Int) + 1 == (l.length : Int)) = false := by simp; omega
    have t1 : decide ((i : Int) + 1 = (l.length : Int)) = false := decide_eq_false (by omega)
    have t2 : decide (a + S ≤ fn) = true := decide_eq_true hcov
    clear hlast hg hlab kc hRW hownW hBW hW hbx hS hS2 hown hN h1 h2 hR hB hs sam hownb hblk hbxc hB1 hnf hfn
    go_enter Try.func49, Try.ntmps49
    go_upto_region 1 with fail
    rw [← HW.out, ← HBX.out]
    go_wp2_with (first
      | (go_at_call 45; (with_reducible refine HOF.out.mono ?_); rintro e w' ⟨rfl, rfl⟩)
      | (go_at_call 43; (with_reducible refine HSZ.out.mono ?_); rintro e w' ⟨rfl, rfl⟩))
    go_big_quiet (fail)
    go_upto_region 4 with fail
    obtain ⟨W3, hW3⟩ : ∃ W3, W3 = W.drewN nq := ⟨_, rfl⟩
    have q0 : W3.cell? ⟨b, 0, none⟩ = some (.slice (some ⟨gb, 0, none⟩) l.length cap) := by rw [hW3]; exact k0
    have q1 : W3.cell? ⟨gb, i * 2 + 1, none⟩ = some (.int .i64 v) := by rw [hW3]; exact k1
    have q2 : W3.cell? ⟨bx, 0, none⟩ = some (.int .i64 a) := by rw [hW3]; exact b0
    have q3 : W3.cell? ⟨bx, 1, none⟩ = some (.int .i64 (d : Int)) := by rw [hW3]; exact b1
    have HOWN3 := Hid.mk_ (show OwnRows B W3 (.slice A rows.length cap0) rows by rw [hW3]; exact HOWN.out nq)
    have HBW3 := Hid.mk_ (show Below B w1 W3 by rw [hW3]; exact HBW.out.trans (Drawn_below _ _))
    have HMW3 := Hid.mk_ (show Mods (fun k => Value.ownBlock (.slice A rows.length cap0) = some k) wr W3 by rw [hW3, HW.out]; exact ((Mods.refl _ _).alloc _).drewN _)
    have hs3 : B ≤ W3.heap.size := by rw [hW3]; exact hBW2
    rw [← hW3]
    clear hW3 k0 k1 b0 b1 hWs
    go_region_law ((refine step_append_lies _ (by rfl) _ _ _ (by rfl) B 65 i0 _ 3 24 Try.underlying44 hi0 hz0 hz1 hz2 rfl (by omega) (.slice A rows.length cap0) rows.length (rowsCells rows) (by rfl) ((World.ownsRow.alloc HOWN3.out _).drew) ⟨W3.heap.size, 0, none⟩ 1 1 [.int .i64 a, .int .i64 (d : Int), .int .i64 v] (by rfl) (by rfl) ((one_three W3 _ _ _)) (by simp [Value.oneCell']) (by omega) (by unfold maxLen; omega) (by omega) (by simp; omega) (W3.heap.size + 1) (by simp) ?_; intro gg cap' w2 hown2 hgrow hat hlt1))
    all_goals (try go_wp2_with fail)
    all_goals go_ret
    all_goals exact RR49.fin hown2 (HBW3.out.alloc (by omega) _).drew (by simp; omega) hgrow HROW.out hl (by omega) hat (by have h1 := HMW3.out.size; omega) (HMW3.out.alloc _).drew
end Go.Proofs.Ytphmmpdeehfhjaa
