import Derived.Test.YtphmmpdeehfhjaaA7
import Derived.RegionTactic
import Derived.BigRegion
import Derived.Deep.RegionWith
namespace Go.Proofs.Ytphmmpdeehfhjaa
open Go.RowKit
set_option linter.unusedVariables false
set_option linter.unusedSimpArgs false
/-- n numbers that a slice's address leads to, in blocks below base -/
def LabsAt (base : Nat) (w : World) (A : Option Addr) (n : Nat) (xs : List Int) : Prop :=
  xs.length = n ∧ n ≤ 9223372036854775807 ∧ (0 < n → ∃ g o, A = some ⟨g, o, none⟩ ∧ g < base ∧ ∀ j, j < n → w.cell? ⟨g, o + j, none⟩ = some (.int .i64 (xs.getD j 0)))
theorem LabsAt.below {base : Nat} {w w' : World} {A : Option Addr} {n : Nat} {xs : List Int} (h : LabsAt base w A n xs) (hB : Below base w w') : LabsAt base w' A n xs := by
  obtain ⟨h1, h2, h3⟩ := h
  refine ⟨h1, h2, fun hn => ?_⟩
  obtain ⟨g, o, hA, hg, hc⟩ := h3 hn
  exact ⟨g, o, hA, hg, fun j hj => (hB.cell (p := ⟨g, o + j, none⟩) hg).trans (hc j hj)⟩
theorem see2_any (base b bx : Nat) (a d : Int) (j n c : Nat) (A : Option Addr) (xs : List Int) (p q : Option Addr) (w : World) (hX : Blk w bx [.slice A n c] 43) (hL : LabsAt base w A n xs) (hj : j < n) (hb : Blk w b (nodeCells j p q) 85) (hne : b ≠ bx) :
    Calls Try.prog 40 #[.agg #[.int .i64 a, .int .i64 d], .pointer (some ⟨b, 0, none⟩), .pointer (some ⟨bx, 0, none⟩)] w fun e w' => e = .returned (.tuple #[]) ∧ Blk w' b (nodeCells (xs.getD j 0) p q) 85 ∧ Mods (· = b) w w' := by
  obtain ⟨hl, hn, hc⟩ := hL
  obtain ⟨g, o, rfl, hg, hc⟩ := hc (by omega)
  have cj := hc j hj
  clear hc
  have cb : w.cell? ⟨b, 0, none⟩ = some (.int .i64 j) := hb.cell 0
  have fb : w.frozen? ⟨b, 0, none⟩ = false := hb.free 0
  have cx : w.cell? ⟨bx, 0, none⟩ = some (.slice (some ⟨g, o, none⟩) n c) := hX.cell 0
  have hj1 : (j : Int) < n := by omega
  have hbl := hb.lt
  have hxl := hX.lt
  have n1 : ¬ b = w.heap.size := by omega
  have n2 : ¬ bx = w.heap.size := by omega
  have hgl := World.block_lt_of_cell? w _ cj
  have n3 : ¬ g = w.heap.size := by simp at hgl; omega
  obtain ⟨y, hy⟩ : ∃ y, y = xs.getD j 0 := ⟨_, rfl⟩
  rw [← hy] at cj ⊢
  clear hy
  go_enter Try.func40, Try.ntmps40
  go_wp2_with fail
  go_region
  go_wp2_with fail
  go_end0
  refine ⟨rfl, ((hb.set 0 _).alloc _).drew, ?_⟩
  exact (((Mods.refl (· = b) w).setCell (fun _ => rfl) _).alloc _).drew
def good (n : Nat) (xs : List Int) (j : Nat) : Bool := decide (j < n) && decide (0 ≤ xs.getD j 0 ∧ xs.getD j 0 ≤ 65535)
def See1Post (bo : Nat) (r : Bool) (w : World) (e : Ending) (w' : World) : Prop := e = .returned (.tuple #[]) ∧ Blk w' bo [.bool r] 4 ∧ Mods (· = bo) w w'
section
variable {base b bx bo : Nat} {a d : Int} {j n c : Nat} {A : Option Addr} {xs : List Int} {p q : Option Addr} {w : World}
theorem see1_false (hO : Blk w bo [.bool false] 4) :
    Calls Try.prog 39 #[.agg #[.int .i64 a, .int .i64 d], .pointer (some ⟨b, 0, none⟩), .pointer (some ⟨bo, 0, none⟩), .pointer (some ⟨bx, 0, none⟩)] w (See1Post bo false w) := by
  have co : w.cell? ⟨bo, 0, none⟩ = some (.bool false) := hO.cell 0
  have fo : w.frozen? ⟨bo, 0, none⟩ = false := hO.free 0
  have hol := hO.lt
  have n1 : ¬ bo = w.heap.size := by omega
  go_enter Try.func39, Try.ntmps39
  go_wp2_with fail
  go_region
  go_wp2_with fail
  go_end0
  exact ⟨rfl, ((hO.set 0 _).alloc _).drew, (((Mods.refl (· = bo) w).setCell (fun _ => rfl) _).alloc _).drew⟩
theorem see1_far (hO : Blk w bo [.bool true] 4) (hX : Blk w bx [.slice A n c] 43) (hj : ¬ j < n) (hb : Blk w b (nodeCells j p q) 85) :
    Calls Try.prog 39 #[.agg #[.int .i64 a, .int .i64 d], .pointer (some ⟨b, 0, none⟩), .pointer (some ⟨bo, 0, none⟩), .pointer (some ⟨bx, 0, none⟩)] w (See1Post bo false w) := by
  have co : w.cell? ⟨bo, 0, none⟩ = some (.bool true) := hO.cell 0
  have fo : w.frozen? ⟨bo, 0, none⟩ = false := hO.free 0
  have cb : w.cell? ⟨b, 0, none⟩ = some (.int .i64 j) := hb.cell 0
  have cx : w.cell? ⟨bx, 0, none⟩ = some (.slice A n c) := hX.cell 0
  have hol := hO.lt
  have hbl := hb.lt
  have hxl := hX.lt
  have n1 : ¬ bo = w.heap.size := by omega
  have n2 : ¬ b = w.heap.size := by omega
  have n3 : ¬ bx = w.heap.size := by omega
  have hd1 : decide ((j : Int) < (n : Int)) = false := by simp; omega
  have hd2 : ¬ ((j : Int) < (n : Int)) := by omega
  go_enter Try.func39, Try.ntmps39
  go_wp2_with fail
  go_region
  go_wp2_with fail
  go_end0
  exact ⟨rfl, ((hO.set 0 _).alloc _).drew, (((Mods.refl (· = bo) w).setCell (fun _ => rfl) _).alloc _).drew⟩
set_option maxRecDepth 100000 in
theorem see1_near (hO : Blk w bo [.bool true] 4) (hX : Blk w bx [.slice A n c] 43) (hL : LabsAt base w A n xs) (hj : j < n) (hb : Blk w b (nodeCells j p q) 85) :
    Calls Try.prog 39 #[.agg #[.int .i64 a, .int .i64 d], .pointer (some ⟨b, 0, none⟩), .pointer (some ⟨bo, 0, none⟩), .pointer (some ⟨bx, 0, none⟩)] w (See1Post bo (decide (0 ≤ xs.getD j 0 ∧ xs.getD j 0 ≤ 65535)) w) := by
  obtain ⟨hl, hn, hc⟩ := hL
  obtain ⟨g, o, rfl, hg, hc⟩ := hc (by omega)
  have cj := hc j hj
  clear hc
  have co : w.cell? ⟨bo, 0, none⟩ = some (.bool true) := hO.cell 0
  have fo : w.frozen? ⟨bo, 0, none⟩ = false := hO.free 0
  have cb : w.cell? ⟨b, 0, none⟩ = some (.int .i64 j) := hb.cell 0
  have cx : w.cell? ⟨bx, 0, none⟩ = some (.slice (some ⟨g, o, none⟩) n c) := hX.cell 0
  have hol := hO.lt
  have hbl := hb.lt
  have hxl := hX.lt
  have hgl := World.block_lt_of_cell? w _ cj
  have n0 : ¬ g = w.heap.size := by simp at hgl; omega
  have n1 : ¬ bo = w.heap.size := by omega
  have n2 : ¬ b = w.heap.size := by omega
  have n3 : ¬ bx = w.heap.size := by omega
  have hj1 : (j : Int) < n := by omega
  have hd1 : decide ((j : Int) < (n : Int)) = true := by simp; omega
  obtain ⟨y, hy⟩ : ∃ y, y = xs.getD j 0 := ⟨_, rfl⟩
  rw [← hy] at cj ⊢
  clear hy
  have hc := Hid.mk_ (fun w => isLabel_any y w)
  obtain ⟨r, hr⟩ : ∃ r, r = decide (0 ≤ y ∧ y ≤ 65535) := ⟨_, rfl⟩
  rw [← hr] at hc ⊢
  clear hr
  go_enter Try.func39, Try.ntmps39
  go_wp2_with fail
  refine still_tail_drew 20 (by kernel_rfl) (by kernel_rfl) ?_
  simp only [List.take_succ_cons, List.take_zero, List.drop_succ_cons, List.drop_zero]
  repeat still_step
  still_call ((hc.out _).mono fun _ _ h => ⟨h.1, h.2.symm⟩)
  repeat still_step
  refine wpStill_nil ?_
  go_wp2_with fail
  go_end0
  exact ⟨rfl, ((hO.set 0 _).alloc _).drew, (((Mods.refl (· = bo) w).setCell (fun _ => rfl) _).alloc _).drew⟩
theorem see1_any (ok : Bool) (hO : Blk w bo [.bool ok] 4) (hX : Blk w bx [.slice A n c] 43) (hL : LabsAt base w A n xs) (hb : Blk w b (nodeCells j p q) 85) :
    Calls Try.prog 39 #[.agg #[.int .i64 a, .int .i64 d], .pointer (some ⟨b, 0, none⟩), .pointer (some ⟨bo, 0, none⟩), .pointer (some ⟨bx, 0, none⟩)] w (See1Post bo (ok && good n xs j) w) := by
  cases ok with
  | false => exact see1_false hO
  | true =>
    by_cases hj : j < n
    · have h := see1_near (a := a) (d := d) hO hX hL hj hb
      simpa [good, hj] using h
    · have h := see1_far (a := a) (d := d) hO hX hj hb
      simpa [good, hj] using h
end
end Go.Proofs.Ytphmmpdeehfhjaa
