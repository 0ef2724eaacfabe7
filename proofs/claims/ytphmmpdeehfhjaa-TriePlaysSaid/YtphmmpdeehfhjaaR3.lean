/- Both tries side by side: the plain law and what lies in memory. No program in sight. -/
import Derived.Test.YtphmmpdeehfhjaaP8
import Derived.Test.YtphmmpdeehfhjaaS3
namespace Go.Proofs.Ytphmmpdeehfhjaa
open Go.RowKit Tr
set_option linter.unusedVariables false
set_option linter.unusedSimpArgs false
theorem find_mem (n : Int) : ∀ (t : Tr) (d : Nat), find n t d ∈ t.labels
  | .leaf v, d => by simp [find, labels]
  | .node l r, d => by
    unfold find
    split
    · exact List.mem_append_left _ (find_mem n l (d + 1))
    · exact List.mem_append_right _ (find_mem n r (d + 1))
theorem label_found {v : Int} : ∀ (t : Tr) (a : Int) (d : Nat), Spot a d → t.ht + d ≤ 32 → v ∈ t.labels → ∃ n, a ≤ n ∧ n < a + 2 ^ (32 - d) ∧ find n t d = v
  | .leaf x, a, d, hs, hh, hv => by
    simp [labels] at hv
    have := pw_pos (32 - d)
    exact ⟨a, Int.le_refl _, by omega, by rw [hv]; rfl⟩
  | .node l r, a, d, hs, hh, hv => by
    have hd : d ≤ 31 := by simp [Tr.ht] at hh; omega
    obtain ⟨s1, s2, _⟩ := hs.halves hd
    have hp := pw_pos (31 - d)
    have e3 : 32 - (d + 1) = 31 - d := by omega
    rcases List.mem_append.1 hv with hv | hv
    · obtain ⟨n, h1, h2, h3⟩ := label_found l a (d + 1) s1 (by simp [Tr.ht] at hh; omega) hv
      rw [e3] at h2
      refine ⟨n, h1, by rw [pw_half hd]; omega, ?_⟩
      unfold find
      rw [if_pos (hs.bit_l hd h1 h2), h3]
    · obtain ⟨n, h1, h2, h3⟩ := label_found r (a + 2 ^ (31 - d)) (d + 1) s2 (by simp [Tr.ht] at hh; omega) hv
      rw [e3] at h2
      have h4 : n < a + 2 ^ (32 - d) := by rw [pw_half hd]; omega
      refine ⟨n, by omega, h4, ?_⟩
      unfold find
      rw [if_neg (by rw [hs.bit_r hd h1 h4]; decide), h3]
theorem find_map (m : Int → Int) (n : Int) : ∀ (t : Tr) (d : Nat), find n (t.map m) d = m (find n t d)
  | .leaf v, d => rfl
  | .node l r, d => by
    unfold Tr.map find
    split
    · exact find_map m n l (d + 1)
    · exact find_map m n r (d + 1)
theorem find_tidy (n : Int) : ∀ (t : Tr) (d : Nat), find n t.tidy d = find n t d
  | .leaf v, d => rfl
  | .node l r, d => by
    unfold tidy
    rw [find_join]
    conv => rhs; unfold find
    rw [find_tidy n l (d + 1), find_tidy n r (d + 1)]
theorem canon_tidy : ∀ t : Tr, t.tidy.canon
  | .leaf v => trivial
  | .node l r => canon_join (canon_tidy l) (canon_tidy r)
/-- the two say the same: their labels too -/
theorem labels_all {t : Tr} {l : List Cut} (hN : Norm (fun n => find n t 0) l) (hh : t.ht ≤ 32) (p : Int → Bool) : (l.all fun q => p q.l) = t.labels.all p := by
  rw [Bool.eq_iff_iff, List.all_eq_true, List.all_eq_true]
  constructor
  · intro h v hv
    obtain ⟨n, n0, n1, rfl⟩ := label_found t 0 0 Spot.root hh hv
    rw [show (0 : Int) + 2 ^ (32 - 0) = 4294967296 from by decide] at n1
    obtain ⟨i, hi, h1, h2⟩ := hN.place n0 (show n ≤ 4294967295 by omega)
    have h3 := hN.says hi h1 h2
    have := h _ (List.getElem_mem hi)
    rw [← h3] at this
    exact this
  · intro h q hq
    obtain ⟨i, hi, rfl⟩ := List.getElem_of_mem hq
    rw [hN.label hi]
    exact h _ (find_mem _ _ _)
theorem norm_pos {t : Tr} {l : List Cut} (hN : Norm (fun n => find n t 0) l) (hl : ∀ v ∈ t.labels, 0 ≤ v ∧ v ≤ 65535) : ∀ q ∈ l, 0 ≤ q.l := fun q hq => by
  obtain ⟨i, hi, rfl⟩ := List.getElem_of_mem hq
  rw [hN.label hi]
  exact (hl _ (find_mem _ _ _)).1
/-- a trie and the document's, in one struct -/
structure Side (w : World) (sb : Nat) (t : Tr) (a : Nat) (fp : List Nat) (b : Nat) (fr : List Nat) (l : List Cut) : Prop where
  blk : Blk w sb [.pointer (some ⟨a, 0, none⟩), .pointer (some ⟨b, 0, none⟩)] 39
  trie : TrieAt w t a fp
  ref : RefAt w l b fr
  norm : Norm (fun n => find n t 0) l
  can : t.canon
  ht : t.ht ≤ 32
  lab : ∀ v ∈ t.labels, 0 ≤ v ∧ v ≤ 65535
  sfp : sb ∉ fp
  sfr : sb ∉ fr
  ap : ∀ k ∈ fr, k ∉ fp
def sz (sb : Nat) (fp fr : List Nat) : List Nat := sb :: (fp ++ fr)
section
variable {w w' : World} {sb a b : Nat} {t t' : Tr} {fp fp' fr fr' : List Nat} {l l' : List Cut}
theorem Side.lt (h : Side w sb t a fp b fr l) : ∀ k ∈ sz sb fp fr, k < w.heap.size := by
  intro k hk
  rcases List.mem_cons.1 hk with rfl | hk
  · exact h.blk.lt
  · rcases List.mem_append.1 hk with hk | hk
    · exact h.trie.lt k hk
    · exact h.ref.lt k hk
theorem Side.move (h : Side w sb t a fp b fr l) (hm : ∀ k ∈ sz sb fp fr, w'.heap[k]? = w.heap[k]?) : Side w' sb t a fp b fr l :=
  { h with
    blk := h.blk.move (hm sb (by simp [sz]))
    trie := h.trie.move fun k hk => hm k (by simp [sz, hk])
    ref := h.ref.move fun k hk => hm k (by simp [sz, hk]) }
theorem Side.new (h : Side w sb t a fp b fr l) (hb : Below w.heap.size w w') : Side w' sb t a fp b fr l := h.move fun k hk => hb.block k (h.lt k hk)
/-- the trie has changed, then the document's -/
theorem Side.both {w1 : World} (h : Side w sb t a fp b fr l) (h1 : TrieAt w1 t' a fp') (s1 : ∀ k ∈ fp', k ∈ fp ∨ w.heap.size ≤ k) (m1 : Mods (· ∈ fp) w w1)
    (h2 : RefAt w' l' b fr') (n2 : Norm (fun n => find n t' 0) l') (s2 : ∀ k ∈ fr', k ∈ fr ∨ w1.heap.size ≤ k) (m2 : Mods (· ∈ fr) w1 w') (c : t'.canon) (hh : t'.ht ≤ 32) (hl : ∀ v ∈ t'.labels, 0 ≤ v ∧ v ≤ 65535) :
    Side w' sb t' a fp' b fr' l' ∧ (∀ k ∈ sz sb fp' fr', k ∈ sz sb fp fr ∨ w.heap.size ≤ k) ∧ Mods (· ∈ sz sb fp fr) w w' := by
  have hfr : ∀ k ∈ fr, k ∉ fp' := fun k hk hk2 => by
    rcases s1 k hk2 with h3 | h3
    · exact h.ap k hk h3
    · have := h.ref.lt k hk; omega
  have hs := m1.size
  refine ⟨⟨(h.blk.mods m1 h.sfp).mods m2 h.sfr, h1.mods m2 (fun k hk hk2 => hfr k hk2 hk), h2, n2, c, hh, hl, fun e => ?_, fun e => ?_, fun k hk hk2 => ?_⟩, fun k hk => ?_, ?_⟩
  · rcases s1 sb e with h3 | h3
    · exact h.sfp h3
    · have := h.blk.lt; omega
  · rcases s2 sb e with h3 | h3
    · exact h.sfr h3
    · have := h.blk.lt; omega
  · rcases s2 k hk with h3 | h3
    · exact hfr k h3 hk2
    · have := h1.lt k hk2; omega
  · rcases List.mem_cons.1 hk with rfl | hk
    · exact .inl (by simp [sz])
    · rcases List.mem_append.1 hk with hk | hk
      · rcases s1 k hk with h3 | h3
        · exact .inl (by simp [sz, h3])
        · exact .inr h3
      · rcases s2 k hk with h3 | h3
        · exact .inl (by simp [sz, h3])
        · exact .inr (by omega)
  · exact (m1.mono (fun k _ hk => by simp [sz, hk])).trans m2 (fun k _ hk => by simp [sz, hk])
end
theorem put_norm {t : Tr} {l : List Cut} {r : Row} (h : Norm (putG (fun n => find n t 0) r.a (r.a + 2 ^ (32 - r.b).toNat) r.l) l) (hr : rightB r.a r.b = true) : Norm (fun n => find n (putRow t r) 0) l :=
  h.congr fun n n0 n1 => by
    rw [find_row t r n hr n0 n1]
    unfold putG Row.hi
    by_cases h1 : r.a ≤ n ∧ n < r.a + 2 ^ (32 - r.b).toNat
    · rw [if_pos h1, if_pos ⟨h1.1, by omega⟩]
    · rw [if_neg h1, if_neg (by omega)]
end Go.Proofs.Ytphmmpdeehfhjaa
namespace Go.Proofs.Ytphmmpdeehfhjaa
open Go.RowKit
set_option linter.unusedVariables false
set_option linter.unusedSimpArgs false
def lentI (xs : List Int) : List Value := (xs.map (Value.int .i64)) ++ List.replicate 3 (.int .i64 0)
theorem made_ints (n : Nat) : madeCells (Value.int .i64 0).cells (n * 1) = (List.replicate n (Value.int .i64 0)).toArray := by
  unfold madeCells
  apply Array.ext
  · simp
  · intro i h1 h2
    have h3 : (Value.int .i64 0).cells = #[Value.int .i64 0] := by simp [Value.cells]
    simp [h3, Nat.mod_one]
theorem make_ints (n : Nat) (hn : n ≤ 4294967296) (w : World) :
    (Instr.makeSlice 43 (.int .i64 (n : Int)) (.int .i64 (n : Int))).run Try.prog w = .ok (.slice (some ⟨w.heap.size, 0, none⟩) n n) (w.alloc (.cells (List.replicate n (Value.int .i64 0)).toArray 3)) := by
  obtain ⟨i0, hi, hz0, hz1, hz2⟩ := info_parts Try.info3
  have h := run_make (P := Try.prog) w 43 3 i0 _ Try.underlying43 hi hz0 .i64 .i64 n n (by omega) (by omega) (by rw [hz2]; omega) (by omega)
  simp only [Int.toNat_natCast] at h
  rw [h, hz1, made_ints]
/-- numbers that a slice leads to -/
def IntsIn (w : World) (A : Option Addr) (xs : List Int) : Prop := xs.length ≤ 4294967292 ∧ (0 < xs.length → ∃ g o, A = some ⟨g, o, none⟩ ∧ g < w.heap.size ∧ ∀ j (hj : j < xs.length), w.cell? ⟨g, o + j, none⟩ = some (.int .i64 (xs[j]'hj)))
theorem IntsIn.move {w w' : World} {A : Option Addr} {xs : List Int} (h : IntsIn w A xs) (hs : w.heap.size ≤ w'.heap.size) (hm : ∀ g o, A = some ⟨g, o, none⟩ → g < w.heap.size → w'.heap[g]? = w.heap[g]?) : IntsIn w' A xs := by
  refine ⟨h.1, fun h0 => ?_⟩
  obtain ⟨g, o, e, hg, hc⟩ := h.2 h0
  exact ⟨g, o, e, by omega, fun j hj => (World.cell?_of_block (a := ⟨g, o + j, none⟩) (hm g o e hg)).trans (hc j hj)⟩
theorem IntsIn.labs {w : World} {A : Option Addr} {xs : List Int} (h : IntsIn w A xs) : LabsAt w.heap.size w A xs.length xs := by
  refine ⟨rfl, by have := h.1; omega, fun h0 => ?_⟩
  obtain ⟨g, o, e, hg, hc⟩ := h.2 h0
  refine ⟨g, o, e, hg, fun j hj => ?_⟩
  rw [hc j hj]
  simp [List.getD, hj]
theorem lend_ints {A : Option Addr} {c : Nat} {xs : List Int} {w : World} (hR : IntsIn w A xs) :
    ∃ W2, (Builtin.copy_ #[43, 43] 3 #[.slice (some ⟨w.heap.size, 0, none⟩) (xs.length + 3) (xs.length + 3), .slice A xs.length c]).run Try.prog (w.alloc (.cells (List.replicate (xs.length + 3) (Value.int .i64 0)).toArray 3)) = .ok (goInt xs.length) W2 ∧
      Blk W2 w.heap.size (lentI xs) 3 ∧ Below w.heap.size w W2 := by
  obtain ⟨i0, hi, hz0, hz1, hz2⟩ := info_parts Try.info3
  have hg : (w.alloc (.cells (List.replicate (xs.length + 3) (Value.int .i64 0)).toArray 3)).heap[w.heap.size]? = some (.cells (List.replicate (xs.length + 3) (Value.int .i64 0)).toArray 3 (0, 0)) := heap_alloc_new w _
  have hB : Below w.heap.size w (w.alloc (.cells (List.replicate (xs.length + 3) (Value.int .i64 0)).toArray 3)) := (Below.refl _ _).alloc (Nat.le_refl _) _
  have hrun := run_copy_many (P := Try.prog) _ 43 43 3 3 1 w.heap.size (xs.length + 3) (xs.length + 3) A xs.length c (List.replicate (xs.length + 3) (Value.int .i64 0)) 3 (xs.map (Value.int .i64)) Try.underlying43 (by rw [hi]; simp [hz1]) hg (by omega) (by simp)
    (fun h0 => by
      obtain ⟨g, o, rfl, hgl, hc⟩ := hR.2 h0
      refine ⟨_, rfl, fun j v hj => ?_⟩
      have hlt : j < xs.length := by
        have := (List.getElem?_eq_some_iff.1 hj).1
        simpa using this
      have ea : (⟨g, o, none⟩ : Addr).add j = ⟨g, o + j, none⟩ := by
        unfold Addr.add
        split
        · rename_i hz; rw [hz]; rfl
        · rfl
      rw [ea, hB.cell (p := ⟨g, o + j, none⟩) hgl, hc j hlt]
      simpa [hlt] using hj)
    (by simp)
    (fun v hv => by
      obtain ⟨x, _, rfl⟩ := List.mem_map.1 hv
      rfl)
  refine ⟨_, hrun, ?_, below_setRow hB (Nat.le_refl _) _⟩
  have hrow := setRow_heap _ w.heap.size _ (xs.map (Value.int .i64) ++ (List.replicate (xs.length + 3) (Value.int .i64 0)).drop (xs.map (Value.int .i64)).length).toArray 3 (0, 0) hg
  unfold Blk
  rw [hrow]
  congr 3
  rw [lentI, List.length_map, List.drop_replicate]
  congr 2
  omega
def LentPost (w : World) (xs : List Int) (e : Ending) (w' : World) : Prop := e = .returned (.slice (some ⟨w.heap.size, 0, none⟩) (xs.length + 3) (xs.length + 3)) ∧ Blk w' w.heap.size (lentI xs) 3 ∧ Below w.heap.size w w'
set_option maxRecDepth 100000 in
theorem lentInts_any (A : Option Addr) (c : Nat) (xs : List Int) (w : World) (hR : IntsIn w A xs) : Calls Try.prog 46 #[.slice A xs.length c] w (LentPost w xs) := by
  have hlen := hR.1
  obtain ⟨N, hN⟩ : ∃ N, N = xs.length + 3 := ⟨_, rfl⟩
  have hmk := make_ints N (by omega) w
  obtain ⟨W2, hcp, hblk2, hB2⟩ := lend_ints (c := c) hR
  rw [← hN] at hcp
  obtain ⟨cs, hcs⟩ : ∃ cs : Array Value, cs = (List.replicate N (Value.int .i64 0)).toArray := ⟨_, rfl⟩
  rw [← hcs] at hmk hcp
  clear hcs
  have hw1 : IntKind.i64.wrap ((xs.length : Int) + 3) = N := by rw [IntKind.wrap_i64]; omega
  have hw2 : wrap64 ((xs.length : Int) + 3) = N := by unfold wrap64; omega
  have HN := Hid.mk_ hN
  have HB := Hid.mk_ hblk2
  have HB2 := Hid.mk_ hB2
  clear hN hR hblk2 hB2
  go_enter Try.func46, Try.ntmps46
  go_wp2_with fail
  go_ret
  exact ⟨by rw [← HN.out]; rfl, HB.out, HB2.out⟩
def WholeI (w : World) (g : Nat) (xs : List Int) (x5 x6 : Value) (wr : World) : Prop :=
  ∃ (k : Nat) (cur : List Value), k ≤ xs.length + 3 ∧ x5 = .bool true ∧ x6 = .int .i64 (k : Int) ∧ Blk wr g cur 3 ∧ cur.length = xs.length + 3 ∧ cur.drop k = (lentI xs).drop k ∧ Mods (· = g) w wr
set_option maxHeartbeats 8000000 in
set_option maxRecDepth 100000 in
theorem wholeInts_any (A : Option Addr) (c : Nat) (xs : List Int) (w : World) (g : Nat) (hR : IntsIn w A xs) (hG : Blk w g (lentI xs) 3) (hA : ∀ g' o, A = some ⟨g', o, none⟩ → 0 < xs.length → g' ≠ g) :
    Calls Try.prog 47 #[.slice (some ⟨g, 0, none⟩) (xs.length + 3) (xs.length + 3), .slice A xs.length c] w fun e w' => e = .returned (.bool true) ∧ Mods (· = g) w w' := by
  have hlen := hR.1
  have HR := Hid.mk_ hR
  have HG := Hid.mk_ hG
  have HA := Hid.mk_ hA
  obtain ⟨N, hN⟩ : ∃ N, N = xs.length + 3 := ⟨_, rfl⟩
  have hle : (xs.length : Int) ≤ N := by omega
  have hN1 : N ≤ 4294967296 := by omega
  have hNs : ∀ k, k ≤ xs.length + 3 ↔ k ≤ N := fun k => by omega
  rw [← hN]
  have HN := Hid.mk_ hN
  clear hR hG hA hN
  go_enter Try.func47, Try.ntmps47
  go_wp2_with fail
  go_loopw [5, 6] (fun x5 x6 wr => WholeI w g xs x5 x6 wr) (fun _ x _ => N - (intOf x).toNat)
  case atStart => exact ⟨0, _, Nat.zero_le _, rfl, rfl, HG.out, by simp [lentI], rfl, Mods.refl _ _⟩
  case round =>
    obtain ⟨k, cur, hk, rfl, rfl, hblk, hcl, hcd, hm⟩ := hrel
    have hkN : k ≤ N := (hNs k).1 hk
    have HBK := Hid.mk_ hblk
    have HCD := Hid.mk_ hcd
    have HM := Hid.mk_ hm
    have hgr : g < wr.heap.size := hblk.lt
    by_cases hlt : k < N
    · have hlt1 : (k : Int) < N := by omega
      have hll : k < (lentI xs).length := by simp [lentI]; have := HN.out; omega
      have hcell : wr.cell? ⟨g, k, none⟩ = some ((lentI xs)[k]'hll) := by
        rw [hblk.cell]
        have h1 : cur[k]? = (cur.drop k)[0]? := by rw [List.getElem?_drop]; rfl
        rw [h1, hcd, List.getElem?_drop, Nat.add_zero, List.getElem?_eq_getElem hll]
      have f0 := hblk.free k
      have hstep : ∀ m : Nat, (Blk (wr.setCell ⟨g, k, none⟩ (.int .i64 7)) g (cur.set k (.int .i64 7)) 3) := fun m => hblk.set k _
      have HNEXT : Hid (WholeI w g xs (.bool true) (.int .i64 ((k : Int) + 1)) (wr.setCell ⟨g, k, none⟩ (.int .i64 7))) := by
        refine ⟨k + 1, _, by have := HN.out; omega, rfl, by go_num, hblk.set k _, by simpa using hcl, ?_, hm.setCell (p := ⟨g, k, none⟩) (fun _ => rfl) _⟩
        rw [List.drop_set_of_lt (by omega), ← List.drop_drop, hcd, List.drop_drop]
      by_cases hkl : k < xs.length
      · have hkl1 : (k : Int) < xs.length := by omega
        obtain ⟨gA, o, rfl, hgA, hc⟩ := HR.out.2 (by omega)
        have hne := HA.out gA o rfl (by omega)
        have d0 := (World.cell?_of_block (w := w) (w' := wr) (a := ⟨gA, o + k, none⟩) (HM.out.block gA hgA hne)).trans (hc k hkl)
        have hx : (lentI xs)[k]'hll = .int .i64 (xs[k]'hkl) := by simp [lentI, hkl]
        rw [hx] at hcell
        obtain ⟨x, hx2⟩ : ∃ x, x = xs[k]'hkl := ⟨_, rfl⟩
        rw [← hx2] at d0 hcell
        clear hx hx2 hblk hcd hm hc hstep
        go_wp2_with fail
        exact ⟨HNEXT.out, by simp [intOf]; omega⟩
      · have hkl1 : ¬ ((k : Int) < xs.length) := by omega
        have hx : (lentI xs)[k]'hll = .int .i64 0 := by
          have h1 : (lentI xs)[k]? = some (.int .i64 0) := by
            unfold lentI at hll ⊢
            rw [List.getElem?_append_right (by simp; omega), List.getElem?_replicate, if_pos (by simp at hll ⊢; omega)]
          rw [List.getElem?_eq_getElem hll] at h1
          exact Option.some.inj h1
        rw [hx] at hcell
        clear hx hblk hcd hm hstep
        go_wp2_with fail
        exact ⟨HNEXT.out, by simp [intOf]; omega⟩
    · have hge : ¬ ((k : Int) < N) := by omega
      go_wp2_with fail
      go_ret
      exact ⟨rfl, HM.out⟩
end Go.Proofs.Ytphmmpdeehfhjaa
namespace Go.Proofs.Ytphmmpdeehfhjaa
open Go.RowKit
set_option linter.unusedVariables false
set_option linter.unusedSimpArgs false
def SidePost (w : World) (sb a b : Nat) (fp fr : List Nat) (e : Ending) (w' : World) : Prop :=
  e = .returned (.bool true) ∧ ∃ t' fp' fr' l', Side w' sb t' a fp' b fr' l' ∧ (∀ k ∈ sz sb fp' fr', k ∈ sz sb fp fr ∨ w.heap.size ≤ k) ∧ Mods (· ∈ sz sb fp fr) w w'
section
variable {w : World} {sb a b : Nat} {t : Tr} {fp fr : List Nat} {l : List Cut} {A : Option Addr} {c : Nat} {xs : List Int}
theorem lent_labs {w1 : World} {g : Nat} (h : Blk w1 g (lentI xs) 3) (hx : xs.length ≤ 4294967292) : LabsAt w1.heap.size w1 (some ⟨g, 0, none⟩) xs.length xs := by
  refine ⟨rfl, by omega, fun h0 => ⟨g, 0, rfl, h.lt, fun j hj => ?_⟩⟩
  rw [Nat.zero_add, h.cell]
  unfold lentI
  rw [List.getElem?_append_left (by simpa using hj)]
  simp [hj, List.getD]
set_option maxHeartbeats 8000000 in
set_option maxRecDepth 100000 in
theorem maps_no (h : Side w sb t a fp b fr l) (hX : IntsIn w A xs) (hA : ∀ g o, A = some ⟨g, o, none⟩ → 0 < xs.length → g ∉ sz sb fp fr) (hbad : (t.labels.all fun v => good xs.length xs v.toNat) = false) :
    Calls Try.prog 30 #[.pointer (some ⟨sb, 0, none⟩), .slice A xs.length c] w (SidePost w sb a b fp fr) := by
  have H := Hid.mk_ h
  have HX := Hid.mk_ hX
  have HA := Hid.mk_ hA
  have HB := Hid.mk_ hbad
  have hx := hX.1
  have s0 : w.cell? ⟨sb, 0, none⟩ = some (.pointer (some ⟨a, 0, none⟩)) := h.blk.cell 0
  obtain ⟨g, hg⟩ : ∃ g, g = w.heap.size := ⟨_, rfl⟩
  have HL := Hid.mk_ (lentInts_any A c xs w hX)
  unfold LentPost at HL
  rw [← hg] at HL
  have hsb := h.blk.lt
  have HG := Hid.mk_ hg
  clear h hX hA hbad hg
  go_enter Try.func30, Try.ntmps30
  go_wp2_with (first | (go_at_call 46; (with_reducible refine HL.out.mono ?_); rintro e w1 ⟨rfl, hblk1, hb1⟩))
  have H1 := Hid.mk_ (H.out.new (hb1.mono (by have := HG.out; omega)))
  have HB1 := Hid.mk_ hb1
  have HBK := Hid.mk_ hblk1
  have HBW1 := Hid.mk_ (show Below w.heap.size w w1 by have := HG.out; exact hb1.mono (by omega))
  have c0 : w1.cell? ⟨sb, 0, none⟩ = some (.pointer (some ⟨a, 0, none⟩)) := H1.out.blk.cell 0
  have HMAP := Hid.mk_ (fun (W : World) (hb : Below w1.heap.size w1 W) => tmap_no t a fp (some ⟨g, 0, none⟩) xs.length (xs.length + 3) xs W (H1.out.trie.new hb) H1.out.ht (fun v hv => (H1.out.lab v hv).1) (lent_labs (HBK.out.below hb HBK.out.lt) hx) HB.out)
  have HXW := Hid.mk_ (fun (W : World) (hb : Below w.heap.size w W) => show IntsIn W A xs from HX.out.move hb.size (fun g o _ hg => hb.block g hg))
  have hAg : ∀ g' o, A = some ⟨g', o, none⟩ → 0 < xs.length → g' ≠ g := fun g' o e h0 e2 => by
    obtain ⟨g2, o2, e3, h3, _⟩ := HX.out.2 h0
    rw [e] at e3; cases e3
    have := HG.out
    omega
  have HWH := Hid.mk_ (fun (W : World) (hb : Below w1.heap.size w1 W) => wholeInts_any A c xs W g (HXW.out W (HBW1.out.trans (hb.mono HBW1.out.size))) (HBK.out.below hb HBK.out.lt) hAg)
  have hlabs : (l.all fun q => good xs.length xs q.l.toNat) = false := by rw [labels_all H.out.norm H.out.ht (fun v => good xs.length xs v.toNat)]; exact HB.out
  have HRM := Hid.mk_ (fun (W : World) (hb : Below w.heap.size w W) => rmap_no (A := A) (n := xs.length) (c := c) (xs := xs) H.out.norm (H.out.new hb).ref (norm_pos H.out.norm H.out.lab) (HXW.out W hb).labs hlabs)
  have HSB := Hid.mk_ (fun (W : World) (hb : Below w.heap.size w W) => show W.cell? ⟨sb, 1, none⟩ = some (.pointer (some ⟨b, 0, none⟩)) from (H.out.new hb).blk.cell 1)
  have hg1 : xs.length ≤ xs.length + 3 := by omega
  have hg2 : (xs.length : Int) ≤ (xs.length : Int) + 3 := by omega
  have hg3 : (0 : Int) ≤ xs.length := by omega
  have hg4 : (xs.length : Int) ≤ ((xs.length + 3 : Nat) : Int) := by omega
  clear hb1 hblk1 hAg hlabs
  go_region_held3 (fun w' => w'.cell? ⟨sb, 0, none⟩ = some (.pointer (some ⟨a, 0, none⟩))) (first | exact c0 | assumption)
    (first | (go_at_call 23; (with_reducible refine (HMAP.out w1.drew (Drawn_below w1 1)).mono ?_); rintro e w2 ⟨rfl, hb2⟩; have hb12 : Below w1.heap.size w1 w2 := (Drawn_below w1 1).trans hb2; have hK : w2.cell? ⟨sb, 0, none⟩ = some (.pointer (some ⟨a, 0, none⟩)) := (H1.out.new hb12).blk.cell 0))
  have HB12 := Hid.mk_ hb12
  clear hb12 hb2 hK
  go_wp2_with (first
    | (go_at_call 47; (with_reducible refine (HWH.out _ HB12.out).mono ?_); rintro e w3 ⟨rfl, hm3⟩; have HB3 := Hid.mk_ (show Below w.heap.size w w3 from (HBW1.out.trans (HB12.out.mono HBW1.out.size)).trans (hm3.below (by have h1 := HBW1.out.size; have h2 := HB12.out.size; omega) (fun q _ e => by have := HG.out; omega))); have c3 := HSB.out w3 HB3.out; have hsb3 : sb < w3.heap.size := (by have := HB3.out.size; omega))
    | (go_at_call 48; (with_reducible refine (HRM.out _ HB3.out).mono ?_); rintro e w4 ⟨rfl, rfl⟩))
  go_ret
  exact ⟨rfl, t, fp, fr, l, H.out.new HB3.out, fun k hk => .inl hk, Mods.of_new HB3.out⟩
set_option maxHeartbeats 8000000 in
set_option maxRecDepth 100000 in
theorem maps_yes (h : Side w sb t a fp b fr l) (hX : IntsIn w A xs) (hA : ∀ g o, A = some ⟨g, o, none⟩ → 0 < xs.length → g ∉ sz sb fp fr) (hgood : (t.labels.all fun v => good xs.length xs v.toNat) = true) :
    Calls Try.prog 30 #[.pointer (some ⟨sb, 0, none⟩), .slice A xs.length c] w (SidePost w sb a b fp fr) := by
  have H := Hid.mk_ h
  have HX := Hid.mk_ hX
  have HA := Hid.mk_ hA
  have HB := Hid.mk_ hgood
  have hx := hX.1
  have s0 : w.cell? ⟨sb, 0, none⟩ = some (.pointer (some ⟨a, 0, none⟩)) := h.blk.cell 0
  obtain ⟨g, hg⟩ : ∃ g, g = w.heap.size := ⟨_, rfl⟩
  have HL := Hid.mk_ (lentInts_any A c xs w hX)
  unfold LentPost at HL
  rw [← hg] at HL
  have hsb := h.blk.lt
  have hx0 : 0 < xs.length := by
    have h1 : ∃ v, v ∈ t.labels := ⟨_, find_mem 0 t 0⟩
    obtain ⟨v, hv⟩ := h1
    have h2 := List.all_eq_true.1 hgood v hv
    have h3 := (good_iff (h.lab v hv).1).1 h2
    have := (h.lab v hv).1
    omega
  have hgfp : g ∉ fp := fun e => by have := h.trie.lt g e; omega
  have HG := Hid.mk_ hg
  clear h hX hA hgood hg
  go_enter Try.func30, Try.ntmps30
  go_wp2_with (first | (go_at_call 46; (with_reducible refine HL.out.mono ?_); rintro e w1 ⟨rfl, hblk1, hb1⟩))
  have H1 := Hid.mk_ (H.out.new (hb1.mono (by have := HG.out; omega)))
  have HBK := Hid.mk_ hblk1
  have HBW1 := Hid.mk_ (show Below w.heap.size w w1 by have := HG.out; exact hb1.mono (by omega))
  have c0 : w1.cell? ⟨sb, 0, none⟩ = some (.pointer (some ⟨a, 0, none⟩)) := H1.out.blk.cell 0
  have HMAP := Hid.mk_ (fun (W : World) (hb : Below w1.heap.size w1 W) => tmap_yes t a fp (some ⟨g, 0, none⟩) xs.length (xs.length + 3) xs W (H1.out.trie.new hb) H1.out.ht (fun v hv => (H1.out.lab v hv).1) (lent_labs (HBK.out.below hb HBK.out.lt) hx) (fun g' o e => by cases e; exact hgfp) HB.out)
  have hAg : ∀ g' o, A = some ⟨g', o, none⟩ → 0 < xs.length → g' ≠ g := fun g' o e h0 e2 => by
    obtain ⟨g2, o2, e3, h3, _⟩ := HX.out.2 h0
    rw [e] at e3; cases e3
    have := HG.out
    omega
  have HXW := Hid.mk_ (fun (W : World) (hm : Mods (· ∈ fp) w W) => show IntsIn W A xs from HX.out.move hm.size (fun g o e hg => hm.block g hg (fun h2 => HA.out g o e hx0 (by simp [sz, h2]))))
  have hlabs : (l.all fun q => good xs.length xs q.l.toNat) = true := by rw [labels_all H.out.norm H.out.ht (fun v => good xs.length xs v.toNat)]; exact HB.out
  have HMW1 := Hid.mk_ (show Mods (· ∈ fp) w w1 from Mods.of_new HBW1.out)
  have HRM := Hid.mk_ (fun (W : World) (hm : Mods (· ∈ fp) w W) => rmap_yes (A := A) (n := xs.length) (c := c) (xs := xs) H.out.norm (H.out.ref.mods hm (fun k hk => H.out.ap k hk)) (norm_pos H.out.norm H.out.lab) (HXW.out W hm).labs hlabs)
  have HSB := Hid.mk_ (fun (W : World) (hm : Mods (· ∈ fp) w W) => show Blk W sb [.pointer (some ⟨a, 0, none⟩), .pointer (some ⟨b, 0, none⟩)] 39 from H.out.blk.mods hm H.out.sfp)
  have hg1 : xs.length ≤ xs.length + 3 := by omega
  have hg2 : (xs.length : Int) ≤ (xs.length : Int) + 3 := by omega
  have hg3 : (0 : Int) ≤ xs.length := by omega
  have hg4 : (xs.length : Int) ≤ ((xs.length + 3 : Nat) : Int) := by omega
  have hw1 := HBW1.out.size
  have hgw1 : g < w1.heap.size := hblk1.lt
  clear hb1 hblk1 hlabs
  go_region_held3 (fun w' => w'.cell? ⟨sb, 0, none⟩ = some (.pointer (some ⟨a, 0, none⟩))) (first | exact c0 | assumption)
    (first | (go_at_call 23; (with_reducible refine (HMAP.out w1.drew (Drawn_below w1 1)).mono ?_); rintro e w2 ⟨fp2, rfl, ht2, hf2, hm2d⟩; have hm2 : Mods (· ∈ fp) w1 w2 := ((Mods.refl (· ∈ fp) w1).drew).trans hm2d (fun _ _ h => h); have hm12 : Mods (· ∈ fp) w w2 := HMW1.out.trans hm2 (fun _ _ h => h); have hK : w2.cell? ⟨sb, 0, none⟩ = some (.pointer (some ⟨a, 0, none⟩)) := (HSB.out w2 hm12).cell 0))
  have HM2 := Hid.mk_ hm12
  have HT2 := Hid.mk_ ht2
  have HF2 := Hid.mk_ hf2
  have hblk2 : Blk w2 g (lentI xs) 3 := HBK.out.mods (S := (· ∈ fp)) hm2 hgfp
  have HWH := Hid.mk_ (wholeInts_any A c xs w2 g (HXW.out w2 HM2.out) hblk2 hAg)
  have hw2 : w1.heap.size ≤ w2.heap.size := hm2.size
  clear hm12 ht2 hf2 hm2 hm2d hK hblk2 hAg
  go_wp2_with (first
    | (go_at_call 47; (with_reducible refine HWH.out.mono ?_); rintro e w3 ⟨rfl, hm3⟩; have HM3 := Hid.mk_ (show Mods (· ∈ fp) w w3 from HM2.out.trans hm3 (fun k hk e => by have := HG.out; omega)); have HT3 := Hid.mk_ (HT2.out.mods hm3 (fun q hq e => hgfp (e ▸ HF2.out q hq))); have c3 : w3.cell? ⟨sb, 1, none⟩ = some (.pointer (some ⟨b, 0, none⟩)) := (HSB.out w3 HM3.out).cell 1; have hsb3 : sb < w3.heap.size := (HSB.out w3 HM3.out).lt; clear hm3)
    | (go_at_call 48; (with_reducible refine (HRM.out _ HM3.out).mono ?_); rintro e w4 ⟨rfl, l4, fr4, hr4, hn4, hf4, hm4⟩))
  go_ret
  have hn5 : Norm (fun n => Tr.find n (t.map (remap xs)).tidy 0) l4 := hn4.congr (fun n n0 n1 => by rw [find_tidy, find_map])
  have hlab5 : ∀ v ∈ ((t.map (remap xs)).tidy).labels, 0 ≤ v ∧ v ≤ 65535 := by
    intro v hv
    have hv := Tr.labels_tidy _ v hv
    rw [Tr.labels_map] at hv
    obtain ⟨x, hx, rfl⟩ := List.mem_map.1 hv
    have h2 := List.all_eq_true.1 HB.out x hx
    exact of_decide_eq_true ((good_iff (H.out.lab x hx).1).1 h2).2
  obtain ⟨r1, r2, r3⟩ := H.out.both HT3.out (fun k hk => .inl (HF2.out k hk)) HM3.out hr4 hn5 hf4 hm4 (canon_tidy _) (Nat.le_trans (Tr.ht_tidy _) (by rw [Tr.ht_map]; exact H.out.ht)) hlab5
  exact ⟨rfl, _, _, _, _, r1, r2, r3⟩
theorem maps_any (h : Side w sb t a fp b fr l) (hX : IntsIn w A xs) (hA : ∀ g o, A = some ⟨g, o, none⟩ → 0 < xs.length → g ∉ sz sb fp fr) :
    Calls Try.prog 30 #[.pointer (some ⟨sb, 0, none⟩), .slice A xs.length c] w (SidePost w sb a b fp fr) := by
  cases hg : t.labels.all fun v => good xs.length xs v.toNat with
  | true => exact maps_yes h hX hA hg
  | false => exact maps_no h hX hA hg
end
end Go.Proofs.Ytphmmpdeehfhjaa
