import Derived.Test.YtphmmpdeehfhjaaA3
import Derived.Maps.AppendAt
import Derived.Deep.AppendLies
import Derived.Deep.RegionLaw
namespace Go.Proofs.Ytphmmpdeehfhjaa
open Go.RowKit
set_option linter.unusedVariables false
set_option linter.unusedSimpArgs false
theorem Try.info65 : (Try.prog.info? 65).map (fun i => (i.zero, i.size, i.bytes)) = some (some (.agg #[.int .i64 0, .int .i64 0, .int .i64 0]), 3, 24) := by kernel_rfl
/-- three cells laid behind one block -/
def ThreeAt (w : World) (g : Nat) (x y z : Value) : Prop := ∀ j u, [x, y, z][j]? = some u → w.cell? ((⟨g, 0, none⟩ : Addr).add j) = some u
theorem ThreeAt.drew {w : World} {g : Nat} {x y z : Value} (h : ThreeAt w g x y z) : ThreeAt w.drew g x y z := h
theorem three_new (w : World) (o : Obj) {t : TypeId} (x y z : Value) : ThreeAt ((w.alloc o).alloc (.cells #[x, y, z] t)) (w.heap.size + 1) x y z := by
  have h := World.news_of_block (w := (w.alloc o).alloc (.cells #[x, y, z] t)) (cs := #[x, y, z]) (t := t) (fr := (0, 0)) (heap_alloc_new (w.alloc o) _)
  rw [World.size_alloc] at h
  exact h
theorem ownsRow_setCell_other' {w : World} {base : Nat} {e : TypeId} {size n : Nat} {v : Value} {xs : List Value} (h : w.ownsRow base e size v n xs) {p : Addr} (hp : some p.block ≠ v.ownBlock) (u : Value) : (w.setCell p u).ownsRow base e size v n xs := by
  obtain ⟨h1, h2⟩ := h
  refine ⟨h1, ?_⟩
  rcases h2 with h2 | ⟨g, cap, cur, rfl, hg, hh, r⟩
  · exact Or.inl h2
  · exact Or.inr ⟨g, cap, cur, rfl, hg, by rw [Below.heap_setCell _ _ _ _ (fun e => hp (by simp [Value.ownBlock, e]))]; exact hh, r⟩
theorem see_end {base bo gg cap : Nat} {a d l : Int} {v : Value} {rows : List Row} {w w0 w1 : World} (hw0 : w.heap.size ≤ w0.heap.size) (hB0 : Below base w w0) (hbo : base ≤ bo) (hbs : base ≤ w.heap.size) (hbw : bo < w.heap.size) (hv1 : Blk w1 bo [v] 44)
    (hown1 : w1.ownsRow base 65 3 (.slice (some ⟨gg, 0, none⟩) (rows.length + 1) cap) (rows.length + 1) (rowsCells rows ++ [.int .i64 a, .int .i64 d, .int .i64 l])) (hgrow : w0.grownBy w1 v.ownBlock) (hr : ∀ k, v.ownBlock = some k → base ≤ k) (hne : v.ownBlock ≠ some bo) (hat : v.ownBlock = some gg ∨ gg = w.heap.size + 2) :
    OutAt base (w1.setCell ⟨bo, 0, none⟩ (.slice (some ⟨gg, 0, none⟩) (rows.length + 1) cap)) bo (rows ++ [⟨a, d, l⟩]) ∧ Below base w (w1.setCell ⟨bo, 0, none⟩ (.slice (some ⟨gg, 0, none⟩) (rows.length + 1) cap)) := by
  have hgb : gg ≠ bo := by
    rcases hat with h | h
    · exact fun e => hne (by rw [h, e])
    · omega
  refine ⟨⟨_, hv1.set 0 _, ?_, by simp [Value.ownBlock, hgb], hbo⟩, (hB0.grown hgrow (by omega) hr).setCell hbo _⟩
  rw [rowsCells_append, List.length_append]
  exact ownsRow_setCell_other' hown1 (by simp [Value.ownBlock]; exact fun e => hgb e.symm) _
set_option maxRecDepth 10000 in
theorem see_any (base b bo : Nat) (a d l : Int) (p q : Option Addr) (rows : List Row) (w : World) (hO : OutAt base w bo rows) (hb : Blk w b (nodeCells l p q) 85) (hlt : b < base) (hn : rows.length < 4294967296) :
    Calls Try.prog 35 #[.agg #[.int .i64 a, .int .i64 d], .pointer (some ⟨b, 0, none⟩), .pointer (some ⟨bo, 0, none⟩)] w fun e w' => e = .returned (.tuple #[]) ∧ OutAt base w' bo (rows ++ [⟨a, d, l⟩]) ∧ Below base w w' := by
  obtain ⟨v, hv, hown, hne, hbo⟩ := hO
  have cb : w.cell? ⟨b, 0, none⟩ = some (.int .i64 l) := hb.cell 0
  have cv : w.cell? ⟨bo, 0, none⟩ = some v := hv.cell 0
  have fv : w.frozen? ⟨bo, 0, none⟩ = false := hv.free 0
  have hvl := hv.lt
  have n1 : ¬ bo = w.heap.size := by omega
  obtain ⟨i0, hi, hz0, hz1, hz2⟩ := info_parts Try.info65
  have hbw := hb.lt
  have n2 : ¬ b = w.heap.size := by omega
  have n3 : ¬ b = bo := by omega
  have n4 : ¬ w.heap.size = bo := by omega
  have hx := Blk.new w [.int .i64 a, .int .i64 d] 42
  have hbne : some b ≠ v.ownBlock := fun e => by have := (hown.lt b e.symm).1; omega
  have hxne : some w.heap.size ≠ v.ownBlock := fun e => by have := (hown.lt _ e.symm).2; omega
  go_enter Try.func35, Try.ntmps35
  go_wp2_with fail
  go_region_law ((refine step_append_lies _ (by rfl) _ _ _ (by rfl) base 65 i0 _ 3 24 Try.underlying44 hi hz0 hz1 hz2 rfl (by omega) v rows.length (rowsCells rows) (by rfl) (((hown.alloc _).alloc _).drew) ⟨w.heap.size + 1, 0, none⟩ 1 1 [.int .i64 a, .int .i64 d, .int .i64 l] (by rfl) (by rfl) ((three_new w _ _ _ _).drew) (by simp [Value.oneCell']) (by omega) (by unfold maxLen; omega) (by omega) (by simp; omega) (w.heap.size + 2) (by simp) ?_; intro gg cap w1 hown1 hgrow hat hlt1; have hv1 := (((hv.alloc _).alloc _).drew).grown hgrow (fun e => hne e.symm); have hb1 := (((hb.alloc _).alloc _).drew).grown hgrow hbne; have hx1 := ((hx.alloc _).drew).grown hgrow hxne; have cv1 : w1.cell? ⟨bo, 0, none⟩ = some v := hv1.cell 0; have fv1 : w1.frozen? ⟨bo, 0, none⟩ = false := hv1.free 0))
  all_goals (try go_wp2_with fail)
  all_goals go_end0
  all_goals exact ⟨rfl, see_end (w0 := ((w.alloc (.cells #[.int .i64 a, .int .i64 d] 42)).alloc (.cells #[.int .i64 a, .int .i64 d, .int .i64 l] 65)).drew) (by simp; omega) (((Below.refl base w).alloc (by omega) _).alloc (by simp; omega) _).drew hbo (by omega) hvl hv1 hown1 hgrow (fun k hk => (hown.lt k hk).1) hne hat⟩
theorem OutAt.lt {base : Nat} {w : World} {bo : Nat} {rows : List Row} (h : OutAt base w bo rows) : bo < w.heap.size := by
  obtain ⟨v, hv, _⟩ := h
  exact hv.lt
theorem or_pow (a : Int) (d : Nat) (hd : d ≤ 31) (h0 : 0 ≤ a) (h1 : a + 2 ^ (32 - d) ≤ 4294967296) (hm : a % 2 ^ (32 - d) = 0) : bits .or .i64 a (2 ^ (31 - d)) = a + 2 ^ (31 - d) := by
  obtain ⟨m, rfl⟩ := Int.eq_ofNat_of_zero_le h0
  have hp : (2 : Int) ^ (31 - d) = ((2 ^ (31 - d) : Nat) : Int) := by simp
  have hp2 : (2 : Int) ^ (32 - d) = ((2 ^ (32 - d) : Nat) : Int) := by simp
  rw [hp2] at h1 hm
  have e32 : 2 ^ (32 - d) = 2 * 2 ^ (31 - d) := by rw [show 32 - d = (31 - d) + 1 from by omega, Nat.pow_succ]; omega
  have hpos : 0 < 2 ^ (31 - d) := Nat.pow_pos (by omega)
  have hm' : m % 2 ^ (32 - d) = 0 := by omega
  have h := (bits_nat .i64 63 (by decide) (fun n h0 h1 => by rw [IntKind.wrap_i64]; omega) m (2 ^ (31 - d)) (by omega) (by omega)).2
  rw [hp, h]
  have e : m ||| 2 ^ (31 - d) = m + 2 ^ (31 - d) := by
    have h2 := Nat.two_pow_add_eq_or_of_lt (i := 32 - d) (b := 2 ^ (31 - d)) (by omega) (m / 2 ^ (32 - d))
    have h3 : 2 ^ (32 - d) * (m / 2 ^ (32 - d)) = m := by have := Nat.div_add_mod m (2 ^ (32 - d)); omega
    rw [h3] at h2
    exact h2.symm
  omega
def AllPost (base bo : Nat) (w : World) (rows : List Row) (e : Ending) (w' : World) : Prop := e = .returned (.tuple #[]) ∧ OutAt base w' bo rows ∧ Below base w w'
theorem all_any (base bo : Nat) : ∀ (t : Tr) (a : Int) (d : Nat) (b : Nat) (f : List Nat) (w : World) (rows : List Row) (D : Int), D = d → At w t b f → (∀ k ∈ f, k < base) → OutAt base w bo rows → t.ht + d ≤ 32 → 0 ≤ a → a + 2 ^ (32 - d) ≤ 4294967296 → a % 2 ^ (32 - d) = 0 →
    rows.length + (t.all a d).length ≤ 4294967296 →
    Calls Try.prog 34 #[.pointer (some ⟨b, 0, none⟩), .int .i64 a, .int .i64 D, .func (.func 35) #[] #[.pointer (some ⟨bo, 0, none⟩)]] w (AllPost base bo w (rows ++ t.all a d))
  | .leaf l, a, d, b, f, w, rows, D, hD, ht, hlt, hO, hh, a0, a1, am, hn => by
    obtain ⟨rfl, hb⟩ := ht
    subst hD
    have hc := Hid.mk_ (see_any base b bo a d l none none rows w hO hb (hlt b (by simp)) (by simp [Tr.all] at hn; omega))
    have c1 : w.cell? ⟨b, 1, none⟩ = some (.pointer none) := hb.cell 1
    go_enter Try.func34, Try.ntmps34
    go_wp2_with (go_at_call 35; refine hc.out.mono ?_; rintro e w' ⟨rfl, h1, h2⟩)
    refine bodyPost_ret (results_none rfl _ _ _) rfl ⟨rfl, h1, h2⟩
  | .node l r, a, d, b, f, w, rows, D, hD, ht, hlt, hO, hh, a0, a1, am, hn => by
    obtain ⟨x, bl, br, fl, fr, rfl, hb, hl, hr, hnn⟩ := ht
    simp only [Tr.ht] at hh
    simp only [Tr.all, List.length_append] at hn
    have hd : d ≤ 31 := by omega
    obtain ⟨s, hs⟩ : ∃ s : Int, s = 2 ^ (31 - d) := ⟨_, rfl⟩
    have hs2 : (2 : Int) ^ (32 - d) = s * 2 := by rw [hs, show 32 - d = (31 - d) + 1 from by omega, Int.pow_succ]
    have s1 : 1 ≤ s := by rw [hs]; exact by have := Int.pow_pos (n := 2) (m := 31 - d) (by decide); omega
    have ihl := Hid.mk_ (all_any base bo l a (d + 1) bl fl w rows (D + 1) (by omega) hl (fun k hk => hlt k (by simp [hk])) hO (by omega) a0 (by rw [show 32 - (d + 1) = 31 - d from by omega, ← hs]; omega) (by rw [show 32 - (d + 1) = 31 - d from by omega, ← hs]; rw [hs2] at am; exact Int.emod_eq_zero_of_dvd (Int.dvd_trans ⟨2, rfl⟩ (Int.dvd_of_emod_eq_zero am))) (by omega))
    have ihr := Hid.mk_ (fun w1 d' => all_any base bo r (a + s) d' br fr w1 (rows ++ l.all a (d + 1)) (D + 1))
    have eor : bits .or .i64 a s = a + s := by rw [hs]; exact or_pow a d hd a0 a1 am
    have e1 : IntKind.i64.wrap (31 - D) = ((31 - d : Nat) : Int) := by rw [IntKind.wrap_i64]; omega
    have e2 : IntKind.i64.wrap (D + 1) = D + 1 := by rw [IntKind.wrap_i64]; omega
    have e3 : IntKind.i64.wrap (2 ^ (31 - d)) = s := by rw [← hs, IntKind.wrap_i64]; omega
    have HS := Hid.mk_ hs
    have c1 : w.cell? ⟨b, 1, none⟩ = some (.pointer (some ⟨bl, 0, none⟩)) := hb.cell 1
    have hd1 : d ≤ 32 := by omega
    have HA1 : Hid (a + s + s ≤ 4294967296) := by rw [hs2] at a1; show _ ≤ _; omega
    have HAM : Hid ((a + s) % s = 0) := by rw [hs2] at am; show _ % _ = _; rw [Int.add_emod_right]; exact Int.emod_eq_zero_of_dvd (Int.dvd_trans ⟨2, rfl⟩ (Int.dvd_of_emod_eq_zero am))
    have hD1 : D ≤ d := by omega
    have hD2 : d ≤ D := by omega
    clear hs hs2 am hD
    go_enter Try.func34, Try.ntmps34
    go_wp2_with (go_at_call 34; refine ihl.out.mono ?_; rintro e w1 ⟨rfl, h1, h2⟩; have hb1 := hb.below h2 (hlt b (by simp)); have c1' : w1.cell? ⟨b, 1, none⟩ = some (.pointer (some ⟨bl, 0, none⟩)) := hb1.cell 1; have c2' : w1.cell? ⟨b, 2, none⟩ = some (.pointer (some ⟨br, 0, none⟩)) := hb1.cell 2)
    go_region_held3 (fun w' => w'.cell? ⟨b, 1, none⟩ = some (.pointer (some ⟨bl, 0, none⟩)) ∧ w'.cell? ⟨b, 2, none⟩ = some (.pointer (some ⟨br, 0, none⟩))) (first | assumption | go_keep)
      (first | (go_at_call 34; refine (ihr.out w1.drew (d + 1) (by omega) (hr.move (fun k hk => h2.block k (hlt k (by simp [hk])))) (fun k hk => hlt k (by simp [hk])) h1 (by omega) (by omega) (by rw [show 32 - (d + 1) = 31 - d from by omega, ← HS.out]; exact HA1.out) (by rw [show 32 - (d + 1) = 31 - d from by omega, ← HS.out]; exact HAM.out) (by rw [List.length_append]; rw [HS.out]; omega)).mono ?_; rintro e w2 ⟨rfl, h3, h4⟩; have hb2 := hb1.drew.below h4 (hlt b (by simp)); have hK := And.intro (hb2.cell 1) (hb2.cell 2)))
    go_wp2_with fail
    refine bodyPost_end (results_none rfl _ _ _) rfl ⟨rfl, ?_, (h2.drew).trans h4⟩
    rw [Tr.all, ← List.append_assoc, ← HS.out]
    exact h3
#print axioms all_any
end Go.Proofs.Ytphmmpdeehfhjaa
