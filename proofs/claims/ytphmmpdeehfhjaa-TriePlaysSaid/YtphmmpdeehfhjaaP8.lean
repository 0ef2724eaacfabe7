/- The document's own trie: the walk of its rows, all of it. -/
import Derived.Test.YtphmmpdeehfhjaaP7
namespace Go.Proofs.Ytphmmpdeehfhjaa
open Go.RowKit
set_option linter.unusedVariables false
set_option linter.unusedSimpArgs false
set_option maxHeartbeats 8000000 in
set_option maxRecDepth 100000 in
theorem rows49_any {g : Int → Int} {l : List Cut} {w1 : World} {b B : Nat} {fp : List Nat} (hN : Norm g l) (hR : RefAt w1 l b fp) (hB1 : B = w1.heap.size) : ∀ (t : Tr) (wr : World) (v : Value) (rows : List Row) (a : Int) (d : Nat) (D : Int), D = d → Spot a d → t.ht + d ≤ 32 → t.canon → Agree g t a d →
    OwnRows B wr v rows → (rows.length : Int) ≤ a → Below B w1 wr → B ≤ wr.heap.size →
    Calls Try.prog 49 #[.pointer (some ⟨b, 0, none⟩), v, .agg #[.int .i64 a, .int .i64 D]] wr (RR49Post B w1 wr v (rows ++ t.all a d) (a + 2 ^ (32 - d)))
  | .leaf y, wr, v, rows, a, d, D, hD, hs, hh, hc, hg, hown, hl, hB, hBs => by
    subst hD
    obtain ⟨A, c, rfl⟩ := own_shape hown
    exact rows49_leaf hN hR hB1 hs hg hown hl hB hBs
  | .node x y, wr, v, rows, a, d, D, hD, hs, hh, hc, hg, hown, hl, hB, hBs => by
    subst hD
    obtain ⟨A, cap0, rfl⟩ := own_shape hown
    have hd : d ≤ 31 := by simp [Tr.ht] at hh; omega
    obtain ⟨s1, s2, _⟩ := hs.halves hd
    have hx : x.ht + (d + 1) ≤ 32 := by simp [Tr.ht] at hh; omega
    have hy : y.ht + (d + 1) ≤ 32 := by simp [Tr.ht] at hh; omega
    have hcx : x.canon := hc.1
    have hcy : y.canon := hc.2.1
    have gx := agree_left hs hd hg
    have gy := agree_right hs hd hg
    have ihx := rows49_any hN hR hB1 x
    have ihy := rows49_any hN hR hB1 y
    have sa0 := hs.a0
    have sa1 := hs.a1
    have hp := pw_pos (31 - d)
    have hhalf := pw_half hd
    obtain ⟨i, hi, h1, h2⟩ := hN.place (n := a) sa0 (by omega)
    have hcov := cover_node hN hs hh hc hg hi h1 h2
    have hlN := hN.len
    obtain ⟨gb, cap, c0, hownb, hne, rfl, hblk⟩ := hR.cells hN.ne
    obtain ⟨bx, hbx⟩ : ∃ bx, bx = wr.heap.size := ⟨_, rfl⟩
    obtain ⟨S, hS⟩ : ∃ S : Int, S = 2 ^ (32 - d) := ⟨_, rfl⟩
    obtain ⟨M, hM⟩ : ∃ M : Int, M = 2 ^ (31 - d) := ⟨_, rfl⟩
    have hS2 : S = 2 ^ (32 - (d : Int)).toNat := by rw [hS, show (32 - (d : Int)).toNat = 32 - d by omega]
    have hall : (Tr.node x y).all a d = x.all a (d + 1) ++ y.all (a + M) (d + 1) := by rw [hM]; rfl
    rw [← hS] at hcov sa1 hhalf ⊢
    rw [← hM] at hp hhalf s2 gy
    rw [hall]
    have ihx' := fun W (v : Value) => ihx W v rows a (d + 1) ((d : Int) + 1) (by omega) s1 hx hcx gx
    have ihy' := fun W (v : Value) => ihy W v (rows ++ x.all a (d + 1)) (a + M) (d + 1) ((d : Int) + 1) (by omega) s2 hy hcy gy
    rw [show 32 - (d + 1) = 31 - d by omega, ← hM] at ihx' ihy'
    obtain ⟨W, hW⟩ : ∃ W, W = wr.alloc (.cells #[.int .i64 a, .int .i64 (d : Int)] 42) := ⟨_, rfl⟩
    have hBW : Below B w1 W := by rw [hW]; exact hB.alloc hBs _
    have hWs : W.heap.size = bx + 1 := by rw [hW, World.size_alloc, hbx]
    have hbxc := Blk.new wr [.int .i64 a, .int .i64 (d : Int)] 42
    rw [← hW, ← hbx] at hbxc
    have b0 := hbxc.cell 0
    have b1 := hbxc.cell 1
    simp at b0 b1
    have hbl : b < B := by rw [hB1]; exact hblk.lt
    have hgl : gb < B := by rw [hB1]; exact (hownb.lt gb rfl).2
    have k0 : W.cell? ⟨b, 0, none⟩ = some (.slice (some ⟨gb, 0, none⟩) l.length cap) := (hBW.cell (p := ⟨b, 0, none⟩) hbl).trans c0
    have hil2 : i + 1 < l.length := by
      rcases Nat.lt_or_ge (i + 1) l.length with h4 | h4
      · exact h4
      · rw [nextF_out (by omega)] at hcov; omega
    have hnf : nextF l (i + 1) = (l[i + 1]'hil2).f := nextF_in hil2
    rw [hnf] at hcov
    have k2 : W.cell? ⟨gb, (i + 1) * 2, none⟩ = some (.int .i64 (l[i + 1]'hil2).f) := (hBW.cell (p := ⟨gb, (i + 1) * 2, none⟩) hgl).trans (hownb.cell (i + 1) hil2).1
    obtain ⟨fn, hfn⟩ : ∃ fn, fn = (l[i + 1]'hil2).f := ⟨_, rfl⟩
    rw [← hfn] at hcov k2
    have hRW : RefAt W l b [b, gb] := hR.new (by rw [← hB1]; exact hBW)
    have HOF := Hid.mk_ (of_at hN hi h1 h2 hlN hRW)
    have HSZ := Hid.mk_ (rsize_at hS2 (by omega) (by omega) W)
    have hil1 : (i : Int) < l.length := by omega
    have hwi : IntKind.i64.wrap ((i : Int) + 1) = i + 1 := by rw [IntKind.wrap_i64]; omega
    have hwd : IntKind.i64.wrap ((d : Int) + 1) = d + 1 := by rw [IntKind.wrap_i64]; omega
    have hwa : IntKind.i64.wrap (a + S) = a + S := by rw [IntKind.wrap_i64]; omega
    have hwm : IntKind.i64.wrap (a + M) = a + M := by rw [IntKind.wrap_i64]; omega
    have hSM : S / 2 = M := by omega
    have hSM2 : S.tdiv 2 = M := by rw [Int.tdiv_eq_ediv_of_nonneg (by omega)]; omega
    have hwM : IntKind.i64.wrap M = M := by rw [IntKind.wrap_i64]; omega
    have hownW : ∀ n : Nat, OwnRows B (W.drewN n) (.slice A rows.length cap0) rows := fun n => by
      refine own_move hown (fun k hk => ?_)
      have := (hown.lt k hk).2
      rw [hW]
      exact Below.heap_alloc wr _ k this
    have hbx0 : B ≤ bx := by omega
    have hlt0 : ∀ k, Value.ownBlock (.slice A rows.length cap0) = some k → k < bx := fun k hk => by have := (hown.lt k hk).2; omega
    have hin : ∀ (W' : World), Below W.heap.size W W' → W'.cell? ⟨bx, 0, none⟩ = some (.int .i64 a) := fun W' hB' => (hB'.cell (p := ⟨bx, 0, none⟩) (by show bx < _; omega)).trans b0
    have HOWN := Hid.mk_ hownW
    have HBW := Hid.mk_ hBW
    have HW := Hid.mk_ hW
    have HBX := Hid.mk_ hbx
    have hBW2 : B ≤ W.heap.size := by omega
    have HIX := Hid.mk_ ihx'
    have HIY := Hid.mk_ ihy'
    have e0 : (d : Int) ≤ 32 := by omega
    have hil3 : (i : Int) + 1 < l.length := by omega
    have t0 : ((i : Int) + 1 == (l.length : Int)) = false := by simp; omega
    have t1 : decide ((i : Int) + 1 = (l.length : Int)) = false := decide_eq_false (by omega)
    have t2 : decide (a + S ≤ fn) = false := decide_eq_false (by omega)
    have haM : a + M + M = a + S := by omega
    have haM2 : a ≤ a + M := by omega
    clear hg hRW hownW hBW hW hbx hS hS2 hown hN h1 h2 hR hB hs hownb hblk hbxc hnf hfn ihx ihy ihx' ihy' s1 s2 gx gy hcx hcy hx hy hall hM hcov hhalf hc hh
    go_enter Try.func49, Try.ntmps49
    go_upto_region 1 with fail
    rw [← HW.out, ← HBX.out]
    go_wp2_with (first
      | (go_at_call 45; (with_reducible refine HOF.out.mono ?_); rintro e w' ⟨rfl, rfl⟩)
      | (go_at_call 43; (with_reducible refine HSZ.out.mono ?_); rintro e w' ⟨rfl, rfl⟩))
    go_big_quiet (fail)
    obtain ⟨W3, hW3⟩ : ∃ W3, W3 = W.drewN nq := ⟨_, rfl⟩
    have q2 : W3.cell? ⟨bx, 0, none⟩ = some (.int .i64 a) := by rw [hW3]; exact b0
    have q3 : W3.cell? ⟨bx, 1, none⟩ = some (.int .i64 (d : Int)) := by rw [hW3]; exact b1
    have HOWN3 := Hid.mk_ (show OwnRows B W3 (.slice A rows.length cap0) rows by rw [hW3]; exact HOWN.out nq)
    have HBW3 := Hid.mk_ (show Below B w1 W3 by rw [hW3]; exact HBW.out.trans (Drawn_below _ _))
    have HMW3 := Hid.mk_ (show Mods (fun k => Value.ownBlock (.slice A rows.length cap0) = some k) wr W3 by rw [hW3, HW.out]; exact ((Mods.refl _ _).alloc _).drewN _)
    have hs3 : B ≤ W3.heap.size := by rw [hW3]; exact hBW2
    have hs4 : W3.heap.size = bx + 1 := by rw [hW3]; exact hWs
    have HKEEP := Hid.mk_ (fun (W4 : World) (hm : Mods (fun k => Value.ownBlock (.slice A rows.length cap0) = some k) W3 W4) => show W4.cell? ⟨bx, 0, none⟩ = some (.int .i64 a) ∧ W4.cell? ⟨bx, 1, none⟩ = some (.int .i64 (d : Int)) by
      have hb : W4.heap[bx]? = W3.heap[bx]? := hm.block bx (by omega) (fun e => by have := hlt0 bx e; omega)
      exact ⟨(World.cell?_of_block (w := W3) (w' := W4) (a := ⟨bx, 0, none⟩) hb).trans q2, (World.cell?_of_block (w := W3) (w' := W4) (a := ⟨bx, 1, none⟩) hb).trans q3⟩)
    rw [← hW3]
    clear hW3 k0 k2 b0 b1 hWs hin hlt0
    go_wp2_with (first
      | (go_at_call 49; (with_reducible refine (HIX.out W3 _ HOWN3.out hl HBW3.out hs3).mono ?_); rintro e w4 ⟨v4, rfl, hown4, hb4, hs5, hl4, hm4, hat4⟩; obtain ⟨q4, q5⟩ := HKEEP.out w4 hm4; have HOWN4 := Hid.mk_ hown4; have HB4 := Hid.mk_ hb4; have HM4 := Hid.mk_ hm4; have HAT4 := Hid.mk_ hat4; clear hown4 hb4 hm4 hat4 q2 q3)
      | (go_at_call 49; (with_reducible refine (HIY.out w4 _ HOWN4.out hl4 HB4.out hs5).mono ?_); rintro e w5 ⟨v5, rfl, hown5, hb5, hs6, hl5, hm5, hat5⟩))
    go_ret
    rw [List.append_assoc] at hown5 hl5
    refine ⟨v5, rfl, hown5, hb5, hs6, by omega, (HMW3.out.trans HM4.out (fun _ _ e => e)).trans hm5 (fun k hk e => ?_), ?_⟩
    · rcases HAT4.out with h | ⟨q, h, hq⟩
      · rw [← h]; exact e
      · rw [h] at e; cases e; have := HMW3.out.size; omega
    · have h6 := HMW3.out.size
      have h7 := HM4.out.size
      rcases hat5 with h | ⟨q, h, hq⟩
      · rcases HAT4.out with h2 | ⟨q, h2, hq⟩
        · exact .inl (h.trans h2)
        · exact .inr ⟨q, h.trans h2, by omega⟩
      · exact .inr ⟨q, h, by omega⟩
theorem rows31_any {t : Tr} {l : List Cut} {w : World} {b : Nat} {fp : List Nat} (hN : Norm (fun n => Tr.find n t 0) l) (hR : RefAt w l b fp) (hh : t.ht ≤ 32) (hc : t.canon) :
    Calls Try.prog 31 #[.pointer (some ⟨b, 0, none⟩)] w fun e w' => ∃ v', e = .returned v' ∧ OwnRows w.heap.size w' v' (t.all 0 0) ∧ Below w.heap.size w w' := by
  have h := Hid.mk_ (rows49_any hN hR rfl t w (.slice none 0 0) [] 0 0 0 rfl Spot.root (by omega) hc (fun n _ _ => rfl) (World.ownsRow_nil _ _ _ _) (by decide) (Below.refl _ _) (Nat.le_refl _))
  clear hN hR
  go_enter Try.func31, Try.ntmps31
  go_wp2_with (first | (go_at_call 49; (with_reducible refine h.out.mono ?_); rintro e w4 ⟨v4, rfl, hown4, hb4, _⟩))
  go_ret
  exact ⟨v4, rfl, hown4, hb4⟩
end Go.Proofs.Ytphmmpdeehfhjaa
