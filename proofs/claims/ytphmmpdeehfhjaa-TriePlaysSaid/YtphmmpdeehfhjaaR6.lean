/- side.step: Put, Find, Map. -/
import Derived.Test.YtphmmpdeehfhjaaR3
import Derived.Deep.CutBlock
import Derived.Test.YtphmmpdeehfhjaaA4
import Derived.Test.YtphmmpdeehfhjaaK9
namespace Go.Proofs.Ytphmmpdeehfhjaa
open Go.RowKit
set_option linter.unusedVariables false
set_option linter.unusedSimpArgs false
/-- one step's op -/
structure OpV where
  kind : Int
  on : Int
  n : Int
  a : Int
  b : Int
  LA : Option Addr
  lc : Nat
  xs : List Int
  RA : Option Addr
  rc : Nat
  rows : List Row
def OpV.cells (o : OpV) : List Value := [.int .i64 o.kind, .int .i64 o.on, .int .i64 o.n, .int .i64 o.a, .int .i64 o.b, .slice o.LA o.xs.length o.lc, .slice o.RA o.rows.length o.rc]
def OpV.val (o : OpV) : Value := .agg #[.int .i64 o.kind, .int .i64 o.on, .int .i64 o.n, .int .i64 o.a, .int .i64 o.b, .slice o.LA o.xs.length o.lc, .slice o.RA o.rows.length o.rc]
def SideEnd (w : World) (sb : Nat) (fp fr : List Nat) (e : Ending) (w' : World) : Prop :=
  e = .returned (.bool true) ∧ ∃ t' a' fp' b' fr' l', Side w' sb t' a' fp' b' fr' l' ∧ (∀ k ∈ sz sb fp' fr', k ∈ sz sb fp fr ∨ w.heap.size ≤ k) ∧ Mods (· ∈ sz sb fp fr) w w'
section
variable {w : World} {sb a b : Nat} {t : Tr} {fp fr : List Nat} {l : List Cut}
theorem rput_any (r : Row) (h : Norm (fun n => Tr.find n t 0) l) (hR : RefAt w l b fr) :
    Calls Try.prog 28 #[.pointer (some ⟨b, 0, none⟩), .agg #[.int .i64 r.a, .int .i64 r.b], .int .i64 r.l] w fun e w' => e = .returned (.int .i64 (if rowOk r = true then 0 else 1)) ∧
      ∃ l' fr', RefAt w' l' b fr' ∧ Norm (fun n => Tr.find n (if rowOk r = true then putRow t r else t) 0) l' ∧ (∀ k ∈ fr', k ∈ fr ∨ w.heap.size ≤ k) ∧ Mods (· ∈ fr) w w' := by
  by_cases hk : rowOk r = true
  · simp only [if_pos hk]
    have hk2 := hk
    unfold rowOk at hk2
    rw [Bool.and_eq_true] at hk2
    refine (rput_yes h hR hk2.1 hk2.2).mono ?_
    rintro e w' ⟨he, l', fr', h1, h2, h3, h4⟩
    exact ⟨he, l', fr', h1, put_norm h2 hk2.1, h3, h4⟩
  · simp only [if_neg hk]
    have hno : rightB r.a r.b = false ∨ decide (0 ≤ r.l ∧ r.l ≤ 65535) = false := by
      unfold rowOk at hk
      cases h1 : rightB r.a r.b with
      | false => exact .inl rfl
      | true =>
        rw [h1, Bool.true_and] at hk
        exact .inr (by simpa using hk)
    refine (rput_no w hno).mono ?_
    rintro e w' ⟨he, hb⟩
    exact ⟨he, l, fr, hR.new hb, h, fun k hk => .inl hk, Mods.of_new hb⟩
theorem put_keeps {t : Tr} {r : Row} (c : t.canon) (hh : t.ht ≤ 32) (hl : ∀ v ∈ t.labels, 0 ≤ v ∧ v ≤ 65535) : (if rowOk r = true then putRow t r else t).canon ∧ (if rowOk r = true then putRow t r else t).ht ≤ 32 ∧ ∀ v ∈ (if rowOk r = true then putRow t r else t).labels, 0 ≤ v ∧ v ≤ 65535 := by
  split
  · rename_i hk
    have h1 := canon_puts [r] t c
    have h2 := ht_puts [r] t (by intro q hq; simp at hq; subst hq; exact (ok_right hk).1) hh
    have h3 := labels_puts [r] t (by intro q hq; simp at hq; subst hq; exact hk) hl
    exact ⟨h1, h2, h3⟩
  · exact ⟨c, hh, hl⟩
/-- the op's box, and what lay there -/
theorem op_box {w0 w1 : World} (o : OpV) (hb : Below (w0.alloc (.cells o.cells.toArray 46)).heap.size (w0.alloc (.cells o.cells.toArray 46)) w1) : Blk w1 w0.heap.size o.cells 46 ∧ Below w0.heap.size w0 w1 :=
  ⟨(Blk.new w0 o.cells 46).below hb (by simp), ((Below.refl _ _).alloc (Nat.le_refl _) _).trans (hb.mono (by simp))⟩
set_option maxHeartbeats 8000000 in
set_option maxRecDepth 100000 in
theorem step_put (h : Side w sb t a fp b fr l) (o : OpV) (ho : o.kind = 1) (bv : Value) :
    Calls Try.prog 12 #[.pointer (some ⟨sb, 0, none⟩), o.val, bv] w (SideEnd w sb fp fr) := by
  obtain ⟨kind, on, n, pa, pb, LA, lc, xs, RA, rc, rows⟩ := o
  simp only at ho
  subst ho
  unfold OpV.val
  simp only
  obtain ⟨bx, hbx⟩ : ∃ bx, bx = w.heap.size := ⟨_, rfl⟩
  obtain ⟨W, hW⟩ : ∃ W, W = w.alloc (.cells #[.int .i64 1, .int .i64 on, .int .i64 n, .int .i64 pa, .int .i64 pb, .slice LA xs.length lc, .slice RA rows.length rc] 46) := ⟨_, rfl⟩
  have hB : Below w.heap.size w W := by rw [hW]; exact (Below.refl _ _).alloc (Nat.le_refl _) _
  have hbl : Blk W bx [.int .i64 1, .int .i64 on, .int .i64 n, .int .i64 pa, .int .i64 pb, .slice LA xs.length lc, .slice RA rows.length rc] 46 := by rw [hW, hbx]; exact Blk.new w _ 46
  have hS := h.new hB
  have hbf : bx ∉ fp ∧ bx ∉ fr ∧ sb < W.heap.size := ⟨fun e => by have := h.trie.lt bx e; omega, fun e => by have := h.ref.lt bx e; omega, hS.blk.lt⟩
  have hput := tput_any t a fp ⟨pa, pb, n⟩ W.drew (hS.trie.move fun _ _ => rfl)
  simp only at hput
  have hk := put_keeps (r := ⟨pa, pb, n⟩) h.can h.ht h.lab
  have href := fun (W2 : World) (hm : Mods (· ∈ fp) W W2) => rput_any (t := t) (l := l) (b := b) (fr := fr) (w := W2.drew) ⟨pa, pb, n⟩ h.norm ((hS.ref.mods hm (fun k hk => h.ap k hk)).move fun _ _ => rfl)
  simp only at href
  obtain ⟨t', ht'⟩ : ∃ t', t' = if rowOk ⟨pa, pb, n⟩ = true then putRow t ⟨pa, pb, n⟩ else t := ⟨_, rfl⟩
  obtain ⟨v, hv⟩ : ∃ v : Int, v = if rowOk ⟨pa, pb, n⟩ = true then 0 else 1 := ⟨_, rfl⟩
  have ht2 : (if rowOk ⟨pa, pb, n⟩ = true then Tr.put pa n pb.toNat 0 t else t) = t' := ht'.symm
  rw [← hv, ht2] at hput
  rw [← hv, ← ht'] at href
  rw [← ht'] at hk
  have hcells : ∀ (S : Nat → Prop) (W2 : World), Mods S W W2 → ¬ S bx → ¬ S sb → W2.cell? ⟨sb, 0, none⟩ = some (.pointer (some ⟨a, 0, none⟩)) ∧ W2.cell? ⟨sb, 1, none⟩ = some (.pointer (some ⟨b, 0, none⟩)) ∧ W2.cell? ⟨bx, 3, none⟩ = some (.int .i64 pa) ∧ W2.cell? ⟨bx, 4, none⟩ = some (.int .i64 pb) ∧ W2.cell? ⟨bx, 2, none⟩ = some (.int .i64 n) := fun S W2 hm h1 h2 => by
    have hs := hS.blk.mods hm h2
    have hb := hbl.mods hm h1
    exact ⟨hs.cell 0, hs.cell 1, hb.cell 3, hb.cell 4, hb.cell 2⟩
  obtain ⟨c0, c1, c3, c4, c2⟩ := hcells (fun _ => False) W (Mods.refl _ _) (fun h => h) (fun h => h)
  have cb0 : W.cell? ⟨bx, 0, none⟩ = some (.int .i64 1) := hbl.cell 0
  have HS := Hid.mk_ hS
  have HC := Hid.mk_ hcells
  have HP := Hid.mk_ hput
  have HR := Hid.mk_ href
  have HK := Hid.mk_ hk
  have HW := Hid.mk_ hW
  have HB := Hid.mk_ hB
  have HF := Hid.mk_ hbf
  have HX := Hid.mk_ hbx
  have hbxl : bx < W.heap.size := hbl.lt
  have hsbl := hbf.2.2
  have H := Hid.mk_ h
  clear hS hcells hput href hk hW hB hbf hbx ht' hv ht2 hbl h
  go_enter Try.func12, Try.ntmps12
  go_upto_region 1 with fail
  rw [← HW.out, ← HX.out]
  go_wp2_with fail
  go_region_held3 (fun w' => w'.cell? ⟨sb, 0, none⟩ = some (.pointer (some ⟨a, 0, none⟩)) ∧ w'.cell? ⟨bx, 3, none⟩ = some (.int .i64 pa) ∧ w'.cell? ⟨bx, 4, none⟩ = some (.int .i64 pb) ∧ w'.cell? ⟨bx, 2, none⟩ = some (.int .i64 n)) (first | exact ⟨c0, c3, c4, c2⟩ | assumption)
    (first | (go_at_call 18; (with_reducible refine HP.out.mono ?_); rintro e w2 ⟨fp2, rfl, ht2, hf2, hm2d⟩; have hm2 : Mods (· ∈ fp) W w2 := ((Mods.refl (· ∈ fp) W).drew).trans hm2d (fun _ _ h => h); have hK := HC.out (· ∈ fp) w2 hm2 HF.out.1 HS.out.sfp; have hK2 := And.intro hK.1 hK.2.2))
  have HT2 := Hid.mk_ ht2
  have HF2 := Hid.mk_ hf2
  have HM2 := Hid.mk_ hm2
  obtain ⟨d0, d1, d3, d4, d2⟩ := hK
  have HR2 := Hid.mk_ (HR.out w2 hm2)
  have hsz2 := hm2.size
  clear ht2 hf2 hm2d hm2 hK2 c0 c1 c3 c4 c2
  go_wp2_with fail
  go_region_held3 (fun w' => w'.cell? ⟨sb, 1, none⟩ = some (.pointer (some ⟨b, 0, none⟩)) ∧ w'.cell? ⟨bx, 3, none⟩ = some (.int .i64 pa) ∧ w'.cell? ⟨bx, 4, none⟩ = some (.int .i64 pb) ∧ w'.cell? ⟨bx, 2, none⟩ = some (.int .i64 n)) (first | exact ⟨d1, d3, d4, d2⟩ | assumption)
    (first | (go_at_call 28; (with_reducible refine HR2.out.mono ?_); rintro e w3 ⟨rfl, l3, fr3, hr3, hn3, hs3, hm3d⟩; have hm3 : Mods (· ∈ fr) w2 w3 := ((Mods.refl (· ∈ fr) w2).drew).trans hm3d (fun _ _ h => h); have hK3 := HC.out (fun k => k ∈ fp ∨ k ∈ fr) w3 ((HM2.out.mono (fun _ _ h => .inl h)).trans hm3 (fun _ _ h => .inr h)) (fun e => e.elim HF.out.1 HF.out.2.1) (fun e => e.elim HS.out.sfp HS.out.sfr); have hK4 := hK3.2))
  go_wp2_with fail
  go_ret
  obtain ⟨r1, r2, r3⟩ := H.out.both HT2.out (fun k hk => (HF2.out k hk).imp_right (fun h => Nat.le_trans HB.out.size h)) ((Mods.of_new (S := fun k => k ∈ fp) HB.out).trans HM2.out (fun _ _ h => h)) hr3 hn3 hs3 hm3 HK.out.1 HK.out.2.1 HK.out.2.2
  exact ⟨rfl, _, _, _, _, _, _, r1, r2, r3⟩
end
end Go.Proofs.Ytphmmpdeehfhjaa
namespace Go.Proofs.Ytphmmpdeehfhjaa
open Go.RowKit
set_option linter.unusedVariables false
set_option linter.unusedSimpArgs false
section
variable {w : World} {sb a b : Nat} {t : Tr} {fp fr : List Nat} {l : List Cut}
def findX (t : Tr) (n : Int) : Int := if 0 ≤ n ∧ n ≤ 4294967295 then Tr.find n t 0 else 0
def findE (n : Int) : Int := if 0 ≤ n ∧ n ≤ 4294967295 then 0 else 1
theorem tfind_any (n : Int) (h : TrieAt w t a fp) (hh : t.ht ≤ 32) : Calls Try.prog 20 #[.pointer (some ⟨a, 0, none⟩), .int .i64 n] w fun e w' => e = .returned (.tuple #[.int .i64 (findX t n), .int .i64 (findE n)]) ∧ Below w.heap.size w w' := by
  unfold findX findE
  by_cases h1 : 0 ≤ n ∧ n ≤ 4294967295
  · rw [if_pos h1, if_pos h1]
    refine (tfind_yes t a fp n w h hh h1.1 h1.2).mono ?_
    rintro e w' ⟨he, m, rfl⟩
    exact ⟨he, Drawn_below _ _⟩
  · rw [if_neg h1, if_neg h1]
    refine (tfind_no _ n w (by omega)).mono ?_
    rintro e w' ⟨he, rfl⟩
    exact ⟨he, Below.refl _ _⟩
theorem rfind_any (n : Int) (h : Norm (fun n => Tr.find n t 0) l) (hR : RefAt w l b fr) : Calls Try.prog 29 #[.pointer (some ⟨b, 0, none⟩), .int .i64 n] w fun e w' => e = .returned (.tuple #[.int .i64 (findX t n), .int .i64 (findE n)]) ∧ Below w.heap.size w w' := by
  unfold findX findE
  by_cases h1 : 0 ≤ n ∧ n ≤ 4294967295
  · rw [if_pos h1, if_pos h1]
    refine (rfind_yes h h1.1 h1.2 hR).mono ?_
    rintro e w' ⟨he, m, rfl⟩
    exact ⟨he, Drawn_below _ _⟩
  · rw [if_neg h1, if_neg h1]
    refine (rfind_no _ n w (by omega)).mono ?_
    rintro e w' ⟨he, rfl⟩
    exact ⟨he, Below.refl _ _⟩
set_option maxHeartbeats 8000000 in
set_option maxRecDepth 100000 in
theorem step_find (h : Side w sb t a fp b fr l) (o : OpV) (ho : o.kind = 2) (bv : Value) :
    Calls Try.prog 12 #[.pointer (some ⟨sb, 0, none⟩), o.val, bv] w (SideEnd w sb fp fr) := by
  obtain ⟨kind, on, n, pa, pb, LA, lc, xs, RA, rc, rows⟩ := o
  simp only at ho
  subst ho
  unfold OpV.val
  simp only
  obtain ⟨bx, hbx⟩ : ∃ bx, bx = w.heap.size := ⟨_, rfl⟩
  obtain ⟨W, hW⟩ : ∃ W, W = w.alloc (.cells #[.int .i64 2, .int .i64 on, .int .i64 n, .int .i64 pa, .int .i64 pb, .slice LA xs.length lc, .slice RA rows.length rc] 46) := ⟨_, rfl⟩
  have hB : Below w.heap.size w W := by rw [hW]; exact (Below.refl _ _).alloc (Nat.le_refl _) _
  have hbl : Blk W bx [.int .i64 2, .int .i64 on, .int .i64 n, .int .i64 pa, .int .i64 pb, .slice LA xs.length lc, .slice RA rows.length rc] 46 := by rw [hW, hbx]; exact Blk.new w _ 46
  have hS := h.new hB
  have hcells : ∀ W2, Below W.heap.size W W2 → W2.cell? ⟨sb, 0, none⟩ = some (.pointer (some ⟨a, 0, none⟩)) ∧ W2.cell? ⟨sb, 1, none⟩ = some (.pointer (some ⟨b, 0, none⟩)) ∧ W2.cell? ⟨bx, 2, none⟩ = some (.int .i64 n) := fun W2 hb => by
    have hs := (hS.new hb).blk
    have hb := hbl.below hb hbl.lt
    exact ⟨hs.cell 0, hs.cell 1, hb.cell 2⟩
  obtain ⟨c0, c1, c2⟩ := hcells W (Below.refl _ _)
  have cb0 : W.cell? ⟨bx, 0, none⟩ = some (.int .i64 2) := hbl.cell 0
  have hsbl : sb < W.heap.size := hS.blk.lt
  have hbxl : bx < W.heap.size := hbl.lt
  have HT := Hid.mk_ (fun (W2 : World) (hb : Below W.heap.size W W2) => tfind_any n ((hS.new hb).trie) h.ht)
  have HR := Hid.mk_ (fun (W2 : World) (hb : Below W.heap.size W W2) => rfind_any n h.norm ((hS.new hb).ref))
  have HC := Hid.mk_ hcells
  have HW := Hid.mk_ hW
  have HB := Hid.mk_ hB
  have HX := Hid.mk_ hbx
  have H := Hid.mk_ h
  obtain ⟨x, hx⟩ : ∃ x, x = findX t n := ⟨_, rfl⟩
  obtain ⟨y, hy⟩ : ∃ y, y = findE n := ⟨_, rfl⟩
  rw [← hx, ← hy] at HT HR
  clear hS hcells hW hB hbx hbl h hx hy
  go_enter Try.func12, Try.ntmps12
  go_upto_region 1 with fail
  rw [← HW.out, ← HX.out]
  go_wp2_with fail
  go_region_held3 (fun w' => w'.cell? ⟨sb, 0, none⟩ = some (.pointer (some ⟨a, 0, none⟩)) ∧ w'.cell? ⟨bx, 2, none⟩ = some (.int .i64 n)) (first | exact ⟨c0, c2⟩ | assumption)
    (first | (go_at_call 20; (with_reducible refine (HT.out W.drew (Drawn_below W 1)).mono ?_); rintro e w2 ⟨rfl, hb2d⟩; have hb2 : Below W.heap.size W w2 := (Drawn_below W 1).trans hb2d; have hK := And.intro (HC.out w2 hb2).1 (HC.out w2 hb2).2.2))
  obtain ⟨_, d1, d2⟩ := HC.out w2 hb2
  have HB2 := Hid.mk_ hb2
  have hsz2 := hb2.size
  clear hb2 hb2d hK c0 c1 c2
  go_wp2_with fail
  go_region_held3 (fun w' => w'.cell? ⟨sb, 1, none⟩ = some (.pointer (some ⟨b, 0, none⟩)) ∧ w'.cell? ⟨bx, 2, none⟩ = some (.int .i64 n)) (first | exact ⟨d1, d2⟩ | assumption)
    (first | (go_at_call 29; (with_reducible refine (HR.out w2.drew (HB2.out.trans (Drawn_below w2 1))).mono ?_); rintro e w3 ⟨rfl, hb3d⟩; have hb3 : Below W.heap.size W w3 := HB2.out.trans (((Drawn_below w2 1).trans hb3d).mono hsz2); have hK3 := And.intro (HC.out w3 hb3).2.1 (HC.out w3 hb3).2.2))
  go_wp2_with fail
  go_ret
  have hfin := HB.out.trans (hb3.mono HB.out.size)
  exact ⟨rfl, _, _, _, _, _, _, H.out.new hfin, fun k hk => .inl hk, Mods.of_new hfin⟩
set_option maxHeartbeats 8000000 in
set_option maxRecDepth 100000 in
theorem step_map (h : Side w sb t a fp b fr l) (o : OpV) (ho : o.kind = 3) (bv : Value) (hX : IntsIn w o.LA o.xs) (hA : ∀ g q, o.LA = some ⟨g, q, none⟩ → 0 < o.xs.length → g ∉ sz sb fp fr) :
    Calls Try.prog 12 #[.pointer (some ⟨sb, 0, none⟩), o.val, bv] w (SideEnd w sb fp fr) := by
  obtain ⟨kind, on, n, pa, pb, LA, lc, xs, RA, rc, rows⟩ := o
  simp only at ho hX hA
  subst ho
  unfold OpV.val
  simp only
  obtain ⟨bx, hbx⟩ : ∃ bx, bx = w.heap.size := ⟨_, rfl⟩
  obtain ⟨W, hW⟩ : ∃ W, W = w.alloc (.cells #[.int .i64 3, .int .i64 on, .int .i64 n, .int .i64 pa, .int .i64 pb, .slice LA xs.length lc, .slice RA rows.length rc] 46) := ⟨_, rfl⟩
  have hB : Below w.heap.size w W := by rw [hW]; exact (Below.refl _ _).alloc (Nat.le_refl _) _
  have hbl : Blk W bx [.int .i64 3, .int .i64 on, .int .i64 n, .int .i64 pa, .int .i64 pb, .slice LA xs.length lc, .slice RA rows.length rc] 46 := by rw [hW, hbx]; exact Blk.new w _ 46
  have hS := h.new hB
  have cb0 : W.cell? ⟨bx, 0, none⟩ = some (.int .i64 3) := hbl.cell 0
  have cb5 : W.cell? ⟨bx, 5, none⟩ = some (.slice LA xs.length lc) := hbl.cell 5
  have hbxl : bx < W.heap.size := hbl.lt
  have HM := Hid.mk_ (maps_any (c := lc) hS (hX.move hB.size (fun g o _ hg => hB.block g hg)) hA)
  have HW := Hid.mk_ hW
  have HB := Hid.mk_ hB
  have HX := Hid.mk_ hbx
  clear hS hW hB hbx hbl h hX hA
  go_enter Try.func12, Try.ntmps12
  go_upto_region 1 with fail
  rw [← HW.out, ← HX.out]
  go_wp2_with (first | (go_at_call 30; (with_reducible refine HM.out.mono ?_); rintro e w2 ⟨rfl, t2, fp2, fr2, l2, r1, r2, r3⟩))
  go_ret
  exact ⟨rfl, _, _, _, _, _, _, r1, fun k hk => (r2 k hk).imp_right (fun h => Nat.le_trans HB.out.size h), (Mods.of_new (S := fun k => k ∈ sz sb fp fr) HB.out).trans r3 (fun _ _ h => h)⟩
set_option maxHeartbeats 8000000 in
set_option maxRecDepth 100000 in
theorem step_none (h : Side w sb t a fp b fr l) (o : OpV) (ho : o.kind < 1 ∨ 7 < o.kind) (bv : Value) :
    Calls Try.prog 12 #[.pointer (some ⟨sb, 0, none⟩), o.val, bv] w (SideEnd w sb fp fr) := by
  obtain ⟨kind, on, n, pa, pb, LA, lc, xs, RA, rc, rows⟩ := o
  simp only at ho
  unfold OpV.val
  simp only
  have e1 : ¬ kind = 1 := by omega
  have e2 : ¬ kind = 2 := by omega
  have e3 : ¬ kind = 3 := by omega
  have e4 : ¬ kind = 4 := by omega
  have e5 : ¬ kind = 5 := by omega
  have e6 : ¬ kind = 6 := by omega
  have e7 : ¬ kind = 7 := by omega
  have f1 : (kind == 1) = false := by simpa using e1
  have f2 : (kind == 2) = false := by simpa using e2
  have f3 : (kind == 3) = false := by simpa using e3
  have f4 : (kind == 4) = false := by simpa using e4
  have f5 : (kind == 5) = false := by simpa using e5
  have f6 : (kind == 6) = false := by simpa using e6
  have f7 : (kind == 7) = false := by simpa using e7
  have H := Hid.mk_ h
  clear h ho
  go_enter Try.func12, Try.ntmps12
  go_wp2_with fail
  go_ret
  have hfin : Below w.heap.size w (w.alloc (.cells #[.int .i64 kind, .int .i64 on, .int .i64 n, .int .i64 pa, .int .i64 pb, .slice LA xs.length lc, .slice RA rows.length rc] 46)) := (Below.refl _ _).alloc (Nat.le_refl _) _
  exact ⟨rfl, _, _, _, _, _, _, H.out.new hfin, fun k hk => .inl hk, Mods.of_new hfin⟩
end
end Go.Proofs.Ytphmmpdeehfhjaa
namespace Go.Proofs.Ytphmmpdeehfhjaa
open Go.RowKit
set_option linter.unusedVariables false
set_option linter.unusedSimpArgs false
theorem make_more {L : List Row} {t : Tr} (h : MakeOf L = some t) : t.canon ∧ ∀ v ∈ t.labels, 0 ≤ v ∧ v ≤ 65535 := by
  obtain ⟨h1, h2⟩ := make_facts h
  have hr := (make_iff L).1 ⟨t, h⟩
  obtain ⟨u, ha, hc, hh, hl⟩ := build_rows 32 0 0 L rfl Spot.root hr.1 hr.2.1 hr.2.2
  have h3 : MakeOf L = some u := by
    conv => lhs; rw [← ha]
    exact make_all hh hc hl
  rw [h] at h3
  cases h3
  exact ⟨hc, hl⟩
section
variable {w : World} {sb a b : Nat} {t : Tr} {fp fr : List Nat} {l : List Cut}
theorem Side.anew {w' : World} {a2 b2 : Nat} {t2 : Tr} {fp2 fr2 : List Nat} {l2 : List Cut} (hsb : sb < w.heap.size) (h1 : Blk w' sb [.pointer (some ⟨a2, 0, none⟩), .pointer (some ⟨b2, 0, none⟩)] 39) (h2 : TrieAt w' t2 a2 fp2) (h3 : RefAt w' l2 b2 fr2) (hn : Norm (fun n => Tr.find n t2 0) l2) (hc : t2.canon) (hh : t2.ht ≤ 32) (hl : ∀ v ∈ t2.labels, 0 ≤ v ∧ v ≤ 65535)
    (f1 : ∀ k ∈ fp2, w.heap.size ≤ k) (f2 : ∀ k ∈ fr2, w.heap.size ≤ k ∧ k ∉ fp2) : Side w' sb t2 a2 fp2 b2 fr2 l2 ∧ ∀ k ∈ sz sb fp2 fr2, k ∈ sz sb fp fr ∨ w.heap.size ≤ k := by
  refine ⟨⟨h1, h2, h3, hn, hc, hh, hl, fun e => by have := f1 sb e; omega, fun e => by have := (f2 sb e).1; omega, fun k hk => (f2 k hk).2⟩, fun k hk => ?_⟩
  rcases List.mem_cons.1 hk with rfl | hk
  · exact .inl (by simp [sz])
  · rcases List.mem_append.1 hk with hk | hk
    · exact .inr (f1 k hk)
    · exact .inr (f2 k hk).1
theorem norm_leaf (n : Int) : Norm (fun z => Tr.find z (.leaf n) 0) [⟨0, n⟩] :=
  ⟨(Part.nil (fun z => Tr.find z (.leaf n) 0)).with_ (Int.le_refl _) (by decide) (fun z _ _ => rfl), by simp⟩
set_option maxHeartbeats 8000000 in
set_option maxRecDepth 100000 in
theorem step_new (h : Side w sb t a fp b fr l) (o : OpV) (ho : o.kind = 5) (bv : Value) :
    Calls Try.prog 12 #[.pointer (some ⟨sb, 0, none⟩), o.val, bv] w (SideEnd w sb fp fr) := by
  obtain ⟨kind, on, n, pa, pb, LA, lc, xs, RA, rc, rows⟩ := o
  simp only at ho
  subst ho
  unfold OpV.val
  simp only
  obtain ⟨bx, hbx⟩ : ∃ bx, bx = w.heap.size := ⟨_, rfl⟩
  obtain ⟨W, hW⟩ : ∃ W, W = w.alloc (.cells #[.int .i64 5, .int .i64 on, .int .i64 n, .int .i64 pa, .int .i64 pb, .slice LA xs.length lc, .slice RA rows.length rc] 46) := ⟨_, rfl⟩
  have hB : Below w.heap.size w W := by rw [hW]; exact (Below.refl _ _).alloc (Nat.le_refl _) _
  have hbl : Blk W bx [.int .i64 5, .int .i64 on, .int .i64 n, .int .i64 pa, .int .i64 pb, .slice LA xs.length lc, .slice RA rows.length rc] 46 := by rw [hW, hbx]; exact Blk.new w _ 46
  have hS := h.new hB
  have cb0 : W.cell? ⟨bx, 0, none⟩ = some (.int .i64 5) := hbl.cell 0
  have cb2 : W.cell? ⟨bx, 2, none⟩ = some (.int .i64 n) := hbl.cell 2
  have hbxl : bx < W.heap.size := hbl.lt
  have HW := Hid.mk_ hW
  have HB := Hid.mk_ hB
  have HX := Hid.mk_ hbx
  have HS := Hid.mk_ hS
  have H := Hid.mk_ h
  have HL := Hid.mk_ hbl
  clear hS hW hB hbx hbl h
  by_cases hn : 0 ≤ n ∧ n ≤ 65535
  · obtain ⟨n0, n1⟩ := hn
    have HC := Hid.mk_ (fun (W2 : World) (hb : Below W.heap.size W W2) => And.intro ((HL.out.below hb HL.out.lt).cell 2) (And.intro (HS.out.new hb).blk ((HL.out.below hb HL.out.lt).lt)))
    go_enter Try.func12, Try.ntmps12
    go_upto_region 1 with fail
    rw [← HW.out, ← HX.out]
    go_wp2_with (first
      | (go_at_call 9; (with_reducible refine (new_yes n0 n1 W).mono ?_); rintro e w2 ⟨a2, fp2, rfl, ht2, hf2, hb2⟩; have c2 : w2.cell? ⟨bx, 2, none⟩ = some (.int .i64 n) := (HC.out w2 hb2).1; have hbx2 : bx < w2.heap.size := (HC.out w2 hb2).2.2; have HT2 := Hid.mk_ ht2; have HF2 := Hid.mk_ hf2; have HB2 := Hid.mk_ hb2; clear ht2 hf2 hb2)
      | (go_at_call 10; (with_reducible refine (rnew_yes n0 n1 w2).mono ?_); rintro e w3 ⟨b2, fr2, rfl, hr3, hf3, hb3⟩; have HB3 := Hid.mk_ (HB2.out.trans (hb3.mono HB2.out.size)); have hs3 := (HC.out w3 HB3.out).2.1; have s0 := hs3.cell 0; have s1 := hs3.cell 1; have t0 := hs3.free 0; have t1 := hs3.free 1; simp at s0 s1; have hsl := hs3.lt; have HT3 := Hid.mk_ (HT2.out.new hb3); have HR3 := Hid.mk_ hr3; have HF3 := Hid.mk_ hf3; have HS3 := Hid.mk_ hs3; clear hr3 hf3 hb3 hs3))
    go_ret
    have hsz2 := HB2.out.size
    have hszW := HB.out.size
    have hmm : Mods (· = sb) w3 ((w3.setCell ⟨sb, 0, none⟩ (.pointer (some ⟨a2, 0, none⟩))).setCell ⟨sb, 1, none⟩ (.pointer (some ⟨b2, 0, none⟩))) := ((Mods.refl (· = sb) w3).setCell (p := ⟨sb, 0, none⟩) (fun _ => rfl) _).setCell (p := ⟨sb, 1, none⟩) (fun _ => rfl) _
    have hsbw := H.out.blk.lt
    obtain ⟨r1, r2⟩ := Side.anew (w := w) (fp := fp) (fr := fr) hsbw ((HS3.out.set 0 _).set 1 _) (HT3.out.mods hmm (fun q hq e => by have := HF2.out q hq; omega)) (HR3.out.mods hmm (fun q hq e => by have := HF3.out q hq; omega)) (norm_leaf n) trivial (by simp [Tr.ht]) (by simp [Tr.labels]; omega) (fun q hq => by have := HF2.out q hq; omega) (fun q hq => ⟨by have := HF3.out q hq; omega, fun h => by have := HF3.out q hq; have := HT2.out.lt q h; omega⟩)
    exact ⟨rfl, _, _, _, _, _, _, r1, r2, ((Mods.of_new (S := fun k => k ∈ sz sb fp fr) (HB.out.trans (HB3.out.mono HB.out.size)))).trans hmm (fun k _ e => by simp [sz, e])⟩
  · go_enter Try.func12, Try.ntmps12
    go_upto_region 1 with fail
    rw [← HW.out, ← HX.out]
    go_wp2_with (first
      | (go_at_call 9; (with_reducible refine (new_no hn W).mono ?_); rintro e w2 ⟨rfl, rfl⟩)
      | (go_at_call 10; (with_reducible refine (rnew_no hn W).mono ?_); rintro e w2 ⟨rfl, rfl⟩))
    go_ret
    exact ⟨rfl, _, _, _, _, _, _, HS.out, fun k hk => .inl hk, Mods.of_new HB.out⟩
set_option maxHeartbeats 8000000 in
set_option maxRecDepth 100000 in
theorem step_make (h : Side w sb t a fp b fr l) (o : OpV) (ho : o.kind = 6) (bv : Value) (hR : RowsIn w o.RA o.rows) (hlen : o.rows.length ≤ 2147483647) :
    Calls Try.prog 12 #[.pointer (some ⟨sb, 0, none⟩), o.val, bv] w (SideEnd w sb fp fr) := by
  obtain ⟨kind, on, n, pa, pb, LA, lc, xs, RA, rc, rows⟩ := o
  simp only at ho hR hlen
  subst ho
  unfold OpV.val
  simp only
  obtain ⟨bx, hbx⟩ : ∃ bx, bx = w.heap.size := ⟨_, rfl⟩
  obtain ⟨W, hW⟩ : ∃ W, W = w.alloc (.cells #[.int .i64 6, .int .i64 on, .int .i64 n, .int .i64 pa, .int .i64 pb, .slice LA xs.length lc, .slice RA rows.length rc] 46) := ⟨_, rfl⟩
  have hB : Below w.heap.size w W := by rw [hW]; exact (Below.refl _ _).alloc (Nat.le_refl _) _
  have hbl : Blk W bx [.int .i64 6, .int .i64 on, .int .i64 n, .int .i64 pa, .int .i64 pb, .slice LA xs.length lc, .slice RA rows.length rc] 46 := by rw [hW, hbx]; exact Blk.new w _ 46
  have hS := h.new hB
  have cb0 : W.cell? ⟨bx, 0, none⟩ = some (.int .i64 6) := hbl.cell 0
  have cb6 : W.cell? ⟨bx, 6, none⟩ = some (.slice RA rows.length rc) := hbl.cell 6
  have hbxl : bx < W.heap.size := hbl.lt
  have HM := Hid.mk_ (made_any RA rc rows W sb _ _ (hR.new hB) hlen hS.blk)
  have HW := Hid.mk_ hW
  have HB := Hid.mk_ hB
  have HX := Hid.mk_ hbx
  have HS := Hid.mk_ hS
  have H := Hid.mk_ h
  clear hS hW hB hbx hbl h hR
  go_enter Try.func12, Try.ntmps12
  go_upto_region 1 with fail
  rw [← HW.out, ← HX.out]
  go_wp2_with (first | (go_at_call 14; (with_reducible refine HM.out.mono ?_); rintro e w2 ⟨rfl, hm2⟩; have HM2 := Hid.mk_ hm2; clear hm2))
  go_ret
  rcases HM2.out with ⟨_, hb⟩ | ⟨t2, a2, fp2, b2, fr2, hm, h1, h2, h3, f1, f2, hmm⟩
  · have hfin := HB.out.trans (hb.mono HB.out.size)
    exact ⟨rfl, _, _, _, _, _, _, H.out.new hfin, fun k hk => .inl hk, Mods.of_new hfin⟩
  · obtain ⟨e1, e2⟩ := make_facts hm
    obtain ⟨e3, e4⟩ := make_more hm
    have hn := cutsOf_norm e2
    rw [e1] at hn
    have hsz := HB.out.size
    obtain ⟨r1, r2⟩ := Side.anew (w := w) (fp := fp) (fr := fr) H.out.blk.lt h1 h2 h3 hn e3 e2 e4 (fun q hq => by have := f1 q hq; omega) (fun q hq => ⟨by have := (f2 q hq).1; omega, (f2 q hq).2⟩)
    exact ⟨rfl, _, _, _, _, _, _, r1, r2, (Mods.of_new (S := fun k => k ∈ sz sb fp fr) HB.out).trans hmm (fun k _ e => by simp [sz, e])⟩
end
end Go.Proofs.Ytphmmpdeehfhjaa
