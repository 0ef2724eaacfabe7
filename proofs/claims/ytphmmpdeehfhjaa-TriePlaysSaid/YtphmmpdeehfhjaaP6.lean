/- The document's own trie: Map's walk. -/
import Derived.Test.YtphmmpdeehfhjaaP4
namespace Go.Proofs.Ytphmmpdeehfhjaa
open Go.RowKit
set_option linter.unusedVariables false
set_option linter.unusedSimpArgs false
/-- what Map reads of the labels -/
theorem LabsAt.look {base : Nat} {w : World} {A : Option Addr} {n : Nat} {xs : List Int} (h : LabsAt base w A n xs) (hn : 0 < n) : ∃ gl o, A = some ⟨gl, o, none⟩ ∧ gl < base ∧ ∀ j, j < n → w.cell? ⟨gl, o + j, none⟩ = some (.int .i64 (xs.getD j 0)) := h.2.2 hn
theorem good_iff {n : Nat} {xs : List Int} {y : Int} (hy : 0 ≤ y) : good n xs y.toNat = true ↔ y < n ∧ decide (0 ≤ remap xs y ∧ remap xs y ≤ 65535) = true := by
  unfold good remap
  simp
  omega
set_option maxHeartbeats 8000000 in
set_option maxRecDepth 100000 in
theorem rmap_no {g : Int → Int} {l : List Cut} {w : World} {b : Nat} {fp : List Nat} {A : Option Addr} {n c : Nat} {xs : List Int} (h : Norm g l) (hR : RefAt w l b fp) (hpos : ∀ q ∈ l, 0 ≤ q.l) (hL : LabsAt w.heap.size w A n xs) (hbad : (l.all fun q => good n xs q.l.toNat) = false) :
    Calls Try.prog 48 #[.pointer (some ⟨b, 0, none⟩), .slice A n c] w fun e w' => e = .returned (.int .i64 1) ∧ w = w' := by
  obtain ⟨gb, cap, c0, hown, hne, rfl, hblk⟩ := hR.cells h.ne
  have hlN := h.len
  have hnN := hL.2.1
  have HO := Hid.mk_ hown
  have HP := Hid.mk_ hpos
  have HL := Hid.mk_ hL
  have HB := Hid.mk_ hbad
  clear hown hpos hL hbad hblk hR h
  go_enter Try.func48, Try.ntmps48
  go_wp2_with fail
  go_loopw [5] (fun x5 wr => ∃ i : Nat, i ≤ l.length ∧ x5 = .int .i64 (i : Int) ∧ Hid (∀ j (hj : j < l.length), j < i → good n xs (l[j]'hj).l.toNat = true) ∧ w = wr) (fun x _ => l.length - (intOf x).toNat)
  case atStart => exact ⟨0, Nat.zero_le _, rfl, fun j hj h => by omega, rfl⟩
  case round =>
    obtain ⟨i, hil, rfl, HG, rfl⟩ := hrel
    by_cases hlt : i < l.length
    · have hlt1 : (i : Int) < l.length := by omega
      obtain ⟨_, d1⟩ := HO.out.cell i hlt
      have hy0 := HP.out _ (List.getElem_mem hlt)
      have hgi := good_iff (n := n) (xs := xs) hy0
      have hnext := fun (hg : good n xs (l[i]'hlt).l.toNat = true) => show ∀ j (hj : j < l.length), j < i + 1 → good n xs (l[j]'hj).l.toNat = true by
        intro j hj hji
        by_cases e : j = i
        · subst e; exact hg
        · exact HG.out j hj (by omega)
      obtain ⟨y, hy⟩ : ∃ y, y = (l[i]'hlt).l := ⟨_, rfl⟩
      rw [← hy] at d1 hy0 hgi hnext
      clear hy
      by_cases hyn : y < n
      · obtain ⟨gl, o, rfl, hgl, hc⟩ := HL.out.look (by omega)
        obtain ⟨k, rfl⟩ : ∃ k : Nat, y = k := ⟨y.toNat, by omega⟩
        have hkn : k < n := by omega
        have dk := hc k hkn
        have hrm : remap xs (k : Int) = xs.getD k 0 := by unfold remap; simp
        rw [hrm] at hgi
        have hge : ¬ ((n : Int) ≤ k) := by omega
        cases hlb : decide (0 ≤ xs.getD k 0 ∧ xs.getD k 0 ≤ 65535) with
        | true =>
          have HNEXT := Hid.mk_ (hnext (hgi.2 ⟨hyn, hlb⟩))
          have HLB := Hid.mk_ hlb
          obtain ⟨z, hz⟩ : ∃ z, z = xs.getD k 0 := ⟨_, rfl⟩
          rw [← hz] at dk HLB
          clear hlb hz hgi hnext hc hrm
          go_wp2_with (first | (go_at_call 27; (with_reducible refine (rlabel_at HLB.out _).mono ?_); rintro e w' ⟨rfl, rfl⟩))
          exact ⟨⟨i + 1, by omega, by go_num, HNEXT.out, trivial⟩, by simp [intOf]; omega⟩
        | false =>
          have HLB := Hid.mk_ hlb
          obtain ⟨z, hz⟩ : ∃ z, z = xs.getD k 0 := ⟨_, rfl⟩
          rw [← hz] at dk HLB
          clear hlb hz hgi hnext hc hrm
          go_wp2_with (first | (go_at_call 27; (with_reducible refine (rlabel_at HLB.out _).mono ?_); rintro e w' ⟨rfl, rfl⟩))
          go_ret
          exact ⟨rfl, rfl⟩
      · have hge : (n : Int) ≤ y := by omega
        clear hgi hnext
        go_wp2_with fail
        go_ret
        exact ⟨rfl, rfl⟩
    · exfalso
      have h1 := HB.out
      rw [List.all_eq_true.2 (fun q hq => ?_)] at h1
      · cases h1
      · obtain ⟨j, hj, rfl⟩ := List.getElem_of_mem hq
        exact HG.out j hj (by omega)
set_option maxHeartbeats 8000000 in
set_option maxRecDepth 100000 in
theorem rmap_yes {g : Int → Int} {l : List Cut} {w : World} {b : Nat} {fp : List Nat} {A : Option Addr} {n c : Nat} {xs : List Int} (h : Norm g l) (hR : RefAt w l b fp) (hpos : ∀ q ∈ l, 0 ≤ q.l) (hL : LabsAt w.heap.size w A n xs) (hgood : (l.all fun q => good n xs q.l.toNat) = true) :
    Calls Try.prog 48 #[.pointer (some ⟨b, 0, none⟩), .slice A n c] w (RPutPost w (fun z => remap xs (g z)) b fp) := by
  obtain ⟨gb, cap, c0, hown, hne, rfl, hblk⟩ := hR.cells h.ne
  have hlN := h.len
  have hnN := hL.2.1
  have hbl : b < w.heap.size := hblk.lt
  have hgl : gb < w.heap.size := (hown.lt gb rfl).2
  have hlen := h.ne
  have hat : ∀ i (hi : i < l.length), 0 ≤ (l[i]'hi).l ∧ (l[i]'hi).l < n ∧ decide (0 ≤ remap xs (l[i]'hi).l ∧ remap xs (l[i]'hi).l ≤ 65535) = true := by
    intro i hi
    have h1 := hpos _ (List.getElem_mem hi)
    exact ⟨h1, (good_iff h1).1 (List.all_eq_true.1 hgood _ (List.getElem_mem hi))⟩
  have hn0 : 0 < n := by have := hat 0 hlen; omega
  obtain ⟨gl, o, rfl, hgl2, hc⟩ := hL.look hn0
  have hfacts : ∀ W, Below w.heap.size w W → W.cell? ⟨b, 0, none⟩ = some (.slice (some ⟨gb, 0, none⟩) l.length cap) ∧ W.frozen? ⟨b, 0, none⟩ = false ∧ b < W.heap.size ∧
      ∀ i (hi : i < l.length), W.cell? ⟨gb, i * 2, none⟩ = some (.int .i64 (l[i]'hi).f) ∧ W.cell? ⟨gb, i * 2 + 1, none⟩ = some (.int .i64 (l[i]'hi).l) ∧
      ∃ k : Nat, (l[i]'hi).l = k ∧ k < n ∧ W.cell? ⟨gl, o + k, none⟩ = some (.int .i64 (remap xs (l[i]'hi).l)) ∧ decide (0 ≤ remap xs (l[i]'hi).l ∧ remap xs (l[i]'hi).l ≤ 65535) = true := by
    intro W hW
    have h2 := hblk.below hW hbl
    refine ⟨h2.cell 0, h2.free 0, h2.lt, fun i hi => ?_⟩
    obtain ⟨d0, d1⟩ := hown.cell i hi
    obtain ⟨h3, h4, h5⟩ := hat i hi
    refine ⟨(hW.cell (p := ⟨gb, i * 2, none⟩) hgl).trans d0, (hW.cell (p := ⟨gb, i * 2 + 1, none⟩) hgl).trans d1, (l[i]'hi).l.toNat, by omega, by omega, ?_, h5⟩
    exact (hW.cell (p := ⟨gl, o + (l[i]'hi).l.toNat, none⟩) hgl2).trans (hc _ (by omega))
  have HF := Hid.mk_ hfacts
  have HR := Hid.mk_ hR
  have HN := Hid.mk_ h
  clear hown hpos hL hgood hblk hR h hat hc hfacts
  go_enter Try.func48, Try.ntmps48
  go_wp2_with fail
  go_loopw [5] (fun x5 wr => ∃ i : Nat, i ≤ l.length ∧ x5 = .int .i64 (i : Int) ∧ w = wr) (fun x _ => l.length - (intOf x).toNat)
  case atStart => exact ⟨0, Nat.zero_le _, rfl, rfl⟩
  case round =>
    obtain ⟨i, hil, rfl, rfl⟩ := hrel
    by_cases hlt : i < l.length
    · have hlt1 : (i : Int) < l.length := by omega
      obtain ⟨_, _, _, hc⟩ := HF.out w (Below.refl _ _)
      obtain ⟨_, d1, k, hk, hkn, dk, hlb⟩ := hc i hlt
      rw [hk] at d1
      have hge : ¬ ((n : Int) ≤ k) := by omega
      have hkn1 : (k : Int) < n := by omega
      obtain ⟨z, hz⟩ : ∃ z, z = remap xs (l[i]'hlt).l := ⟨_, rfl⟩
      rw [← hz] at dk hlb
      have HLB := Hid.mk_ hlb
      clear hlb hz hc hk
      go_wp2_with (first | (go_at_call 27; (with_reducible refine (rlabel_at HLB.out _).mono ?_); rintro e w' ⟨rfl, rfl⟩))
      exact ⟨⟨i + 1, by omega, by go_num, trivial⟩, by simp [intOf]; omega⟩
    · have hge : ¬ ((i : Int) < l.length) := by omega
      go_wp2_with fail
      go_loopw [7, 8] (fun x7 x8 wr => RP2 w.heap.size w (fun z => remap xs (g z)) l (nextF l) x7 x8 wr) (fun _ x _ => l.length - (intOf x).toNat)
      case atStart => exact ⟨0, [], Nat.zero_le _, rfl, World.ownsRow_nil _ _ _ _, by rw [nextF_in hlen, HN.out.first]; exact Part.nil _, Below.refl _ _, Nat.le_refl _⟩
      case round =>
        obtain ⟨i2, acc, hil2, rfl, hown, hpart, hBr, hBs⟩ := hrel
        obtain ⟨e0, e1, e2, e3⟩ := HF.out _ hBr
        by_cases hlt2 : i2 < l.length
        · have hlt3 : (i2 : Int) < l.length := by omega
          obtain ⟨d0, d1, k, hk, hkn, dk, _⟩ := e3 i2 hlt2
          have hstep := map_step (m := remap xs) HN.out hlt2 hpart
          have hal : acc.length ≤ 4294967296 := by have h1 := nextF_le HN.out i2; have := hpart.len (by omega); omega
          obtain ⟨z, hz⟩ : ∃ z, z = remap xs (l[i2]'hlt2).l := ⟨_, rfl⟩
          obtain ⟨f, hf⟩ : ∃ f, f = (l[i2]'hlt2).f := ⟨_, rfl⟩
          rw [← hz] at dk hstep
          rw [← hf] at d0 hstep
          rw [hk] at d1
          have hkn1 : (k : Int) < n := by omega
          have HSTEP := Hid.mk_ hstep
          have HOWN := Hid.mk_ hown
          have HBR := Hid.mk_ hBr
          have HLK := Hid.mk_ (fun W (hW : Below w.heap.size w W) => show W.cell? ⟨b, 0, none⟩ = some (.slice (some ⟨gb, 0, none⟩) l.length cap) ∧ W.cell? ⟨gb, i2 * 2, none⟩ = some (.int .i64 f) ∧ W.cell? ⟨gb, i2 * 2 + 1, none⟩ = some (.int .i64 (k : Int)) ∧ W.cell? ⟨gl, o + k, none⟩ = some (.int .i64 z) by
            obtain ⟨r0, _, _, r3⟩ := HF.out W hW
            obtain ⟨s0, s1, k', hk', _, s2, _⟩ := r3 i2 hlt2
            rw [hk] at hk'
            obtain rfl : k = k' := by omega
            rw [hk] at s1
            rw [← hz] at s2
            rw [← hf] at s0
            exact ⟨r0, s0, s1, s2⟩)
          clear hz hf hk hstep hown hBr e3 hpart
          go_wp2_with fail
          go_region_held3 (fun w' => w'.cell? ⟨b, 0, none⟩ = some (.slice (some ⟨gb, 0, none⟩) l.length cap) ∧ w'.cell? ⟨gb, i2 * 2, none⟩ = some (.int .i64 f) ∧ w'.cell? ⟨gb, i2 * 2 + 1, none⟩ = some (.int .i64 (k : Int)) ∧ w'.cell? ⟨gl, o + k, none⟩ = some (.int .i64 z)) (first | exact ⟨e0, d0, d1, dk⟩ | assumption)
            (first | (go_at_call 44; (with_reducible refine (with_drew ⟨f, z⟩ HOWN.out HBR.out hBs hal).mono ?_); rintro e w5 ⟨v5, rfl, hown5, hb5, hs5⟩; have hK := HLK.out w5 hb5))
          go_wp2_with fail
          exact ⟨⟨i2 + 1, _, by omega, by go_num, hown5, HSTEP.out, hb5, hs5⟩, by simp [intOf]; omega⟩
        · have hge2 : ¬ ((i2 : Int) < l.length) := by omega
          rw [nextF_out hlt2] at hpart
          obtain ⟨A2, cp2, rfl⟩ := own_shape hown
          have HST2 := Hid.mk_ (HR.out.store hBr (Nat.le_refl _) hown hpart)
          clear hpart hBr hown e3
          go_wp2_with fail
          go_ret
          exact ⟨rfl, HST2.out⟩
end Go.Proofs.Ytphmmpdeehfhjaa
namespace Go.Proofs.Ytphmmpdeehfhjaa
open Go.RowKit
set_option linter.unusedVariables false
set_option linter.unusedSimpArgs false
def Agree (g : Int → Int) (t : Tr) (a : Int) (d : Nat) : Prop := ∀ n, a ≤ n → n < a + 2 ^ (32 - d) → Tr.find n t d = g n
section
variable {g : Int → Int} {l : List Cut} {a : Int} {d i : Nat}
theorem cover_leaf {v : Int} (h : Norm g l) (hs : Spot a d) (hg : Agree g (.leaf v) a d) (hi : i < l.length) (h1 : (l[i]'hi).f ≤ a) (h2 : a < nextF l (i + 1)) : a + 2 ^ (32 - d) ≤ nextF l (i + 1) ∧ (l[i]'hi).l = v := by
  have hp := pw_pos (32 - d)
  have ha : (l[i]'hi).l = v := by rw [← h.says hi h1 h2, ← hg a (Int.le_refl _) (by omega)]; rfl
  refine ⟨?_, ha⟩
  rcases Int.lt_or_le (nextF l (i + 1)) (a + 2 ^ (32 - d)) with h3 | h3
  · exfalso
    have hl : i + 1 < l.length := by
      rcases Nat.lt_or_ge (i + 1) l.length with h4 | h4
      · exact h4
      · rw [nextF_out (by omega)] at h3; have := hs.a1; omega
    rw [nextF_in hl] at h3 h2
    have h5 := h.label hl
    rw [← hg _ (by omega) h3] at h5
    exact h.part.adj.unlike i hl (by rw [ha, h5]; rfl)
  · exact h3
theorem cover_node {x y : Tr} (h : Norm g l) (hs : Spot a d) (hh : (Tr.node x y).ht + d ≤ 32) (hc : (Tr.node x y).canon) (hg : Agree g (.node x y) a d) (hi : i < l.length) (h1 : (l[i]'hi).f ≤ a) (h2 : a < nextF l (i + 1)) : nextF l (i + 1) < a + 2 ^ (32 - d) := by
  rcases Int.lt_or_le (nextF l (i + 1)) (a + 2 ^ (32 - d)) with h3 | h3
  · exact h3
  · exfalso
    have := const_canon (.node x y) a d (l[i]'hi).l hs hh hc (fun n h4 h5 => by rw [hg n h4 h5]; exact h.says hi (by omega) (by omega))
    cases this
theorem agree_left {x y : Tr} (hs : Spot a d) (hd : d ≤ 31) (hg : Agree g (.node x y) a d) : Agree g x a (d + 1) := by
  intro n h1 h2
  rw [show 32 - (d + 1) = 31 - d by omega] at h2
  have hb := hs.bit_l hd h1 h2
  have := hg n h1 (by rw [pw_half hd]; have := pw_pos (31 - d); omega)
  rw [← this]
  unfold Tr.find
  rw [if_pos hb]
  cases x <;> rfl
theorem agree_right {x y : Tr} (hs : Spot a d) (hd : d ≤ 31) (hg : Agree g (.node x y) a d) : Agree g y (a + 2 ^ (31 - d)) (d + 1) := by
  intro n h1 h2
  rw [show 32 - (d + 1) = 31 - d by omega] at h2
  have h3 : n < a + 2 ^ (32 - d) := by rw [pw_half hd]; omega
  have hb := hs.bit_r hd h1 h3
  have := hg n (by have := pw_pos (31 - d); omega) h3
  rw [← this]
  conv => rhs; unfold Tr.find
  rw [if_neg (by rw [hb]; decide)]
end
abbrev OwnRows (base : Nat) (w : World) (v : Value) (l : List Row) : Prop := w.ownsRow base 65 3 v l.length (rowsCells l)
def RR49Post (B : Nat) (w1 wr : World) (v : Value) (rows : List Row) (top : Int) (e : Ending) (w' : World) : Prop :=
  ∃ v', e = .returned v' ∧ OwnRows B w' v' rows ∧ Below B w1 w' ∧ B ≤ w'.heap.size ∧ (rows.length : Int) ≤ top ∧ Mods (fun k => v.ownBlock = some k) wr w' ∧ (v'.ownBlock = v.ownBlock ∨ ∃ k, v'.ownBlock = some k ∧ wr.heap.size ≤ k)
end Go.Proofs.Ytphmmpdeehfhjaa
