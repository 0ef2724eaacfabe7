import Derived.Test.YtphmmpdeehfhjaaProg
import Derived.Test.YtphmmpdeehfhjaaM
import Derived.WalkKit
import Derived.Deep.QuietTactic
import Derived.BigQuiet
import Derived.Deep.RegionHeld3
import Derived.Outline
import Derived.Deep.DeepFit
import Derived.ChangeKeysEq
namespace Go.Proofs.Ytphmmpdeehfhjaa
open Go.RowKit
set_option linter.unusedVariables false
set_option linter.unusedSimpArgs false
theorem results_cell {P : Program} {fn : Func} {R : Ending → World → Prop} {a : Act} {w : World} {v : Value}
    (hr : (results fn a.tmps).run P w = .ok v w) (hd : a.defers = []) (hR : R (.returned v) w) : bodyPost P fn R .ret a w := bodyPost_ret hr hd hR
abbrev ofV (n : Int) : Value := .agg #[.int .u8 (n / 16777216), .int .u8 (n / 65536 % 256), .int .u8 (n / 256 % 256), .int .u8 (n % 256)]
theorem of_any (n : Int) (h0 : 0 ≤ n) (h1 : n ≤ 4294967295) (w : World) :
    Calls Try.prog 53 #[.int .i64 n] w fun e w' => e = .returned (ofV n) ∧ Below w.heap.size w w' := by
  go_enter Try.func53, Try.ntmps53
  go_wp2
  exact bodyPost_ret (v := ofV n) (by simp [results, Try.results53, go_sem, ofV]) rfl ⟨rfl, (Below.refl _ _).alloc (Nat.le_refl _) _⟩
theorem size_any (b : Int) (h0 : 0 ≤ b) (h1 : b ≤ 32) (w : World) :
    Calls Try.prog 38 #[.int .i64 b] w fun e w' => e = .returned (.int .i64 (2 ^ (32 - b).toNat)) ∧ w = w' := by
  have hp : wrap64 (2 ^ (32 - b).toNat) = 2 ^ (32 - b).toNat := by
    have h := Nat.pow_le_pow_right (n := 2) (by omega) (show (32 - b).toNat ≤ 32 by omega)
    have h2 : ((2 : Int) ^ (32 - b).toNat) = ((2 ^ (32 - b).toNat : Nat) : Int) := by simp
    rw [h2]
    have h3 : 0 < 2 ^ (32 - b).toNat := Nat.pow_pos (by omega)
    unfold wrap64
    omega
  go_enter Try.func38, Try.ntmps38
  go_wp2
  go_ret
  rw [hp]
  exact ⟨rfl, rfl⟩
theorem size_at {b s : Int} (hs : s = 2 ^ (32 - b).toNat) (h0 : 0 ≤ b) (h1 : b ≤ 32) (w : World) :
    Calls Try.prog 38 #[.int .i64 b] w fun e w' => e = .returned (.int .i64 s) ∧ w = w' := hs ▸ size_any b h0 h1 w
def rightB (a b : Int) : Bool := decide (0 ≤ b ∧ b ≤ 32 ∧ 0 ≤ a ∧ a ≤ 4294967295 ∧ a % 2 ^ (32 - b).toNat = 0)
theorem right_no (a b : Int) (w : World) (h : ¬ (0 ≤ b ∧ b ≤ 32 ∧ 0 ≤ a ∧ a ≤ 4294967295)) :
    Calls Try.prog 37 #[.agg #[.int .i64 a, .int .i64 b]] w fun e w' => e = .returned (.bool false) ∧ Below w.heap.size w w' := by
  by_cases c1 : b < 0
  · go_enter Try.func37, Try.ntmps37
    go_wp2
    go_ret
    exact ⟨rfl, (Below.refl _ _).alloc (Nat.le_refl _) _⟩
  · by_cases c2 : 32 < b
    · go_enter Try.func37, Try.ntmps37
      go_wp2
      go_ret
      exact ⟨rfl, (Below.refl _ _).alloc (Nat.le_refl _) _⟩
    · by_cases c3 : a < 0
      · go_enter Try.func37, Try.ntmps37
        go_wp2
        go_ret
        exact ⟨rfl, (Below.refl _ _).alloc (Nat.le_refl _) _⟩
      · have c4 : 4294967295 < a := by omega
        go_enter Try.func37, Try.ntmps37
        go_wp2
        go_ret
        exact ⟨rfl, (Below.refl _ _).alloc (Nat.le_refl _) _⟩
theorem cells5 : Try.prog.cellsOf 5 = 1 := by kernel_rfl
theorem eqA95 (d : Nat) (w : World) (x0 x1 x2 x3 y0 y1 y2 y3 : Int) :
    (Op.equalIn (d + 2) 95 (.agg #[.int .u8 x0, .int .u8 x1, .int .u8 x2, .int .u8 x3]) (.agg #[.int .u8 y0, .int .u8 y1, .int .u8 y2, .int .u8 y3])).run Try.prog w = .ok (decide (x0 = y0 ∧ x1 = y1 ∧ x2 = y2 ∧ x3 = y3)) w := by
  obtain ⟨i, hi⟩ : ∃ i, Try.prog.info? 5 = some i := by
    have h : (Try.prog.info? 5).isSome = true := by kernel_rfl
    exact Option.isSome_iff_exists.1 h
  rw [run_equalIn_array w (d + 1) _ _ Try.underlying95 hi, cells5, show List.range 4 = [0, 1, 2, 3] from rfl]
  simp only [Op.eqItems, Sem.run_bind, Nat.zero_mul, Nat.one_mul]
  go_simp
  by_cases c0 : x0 = y0 <;> by_cases c1 : x1 = y1 <;> by_cases c2 : x2 = y2 <;> by_cases c3 : x3 = y3 <;> simp [c0, c1, c2, c3]
theorem ofV_eq (a q : Int) (a0 : 0 ≤ a) (a1 : a ≤ 4294967295) (q0 : 0 ≤ q) (q1 : q ≤ 4294967295) (w : World) :
    (Op.equalIn 10000 95 (ofV a) (ofV q)).run Try.prog w = .ok (decide (a = q)) w := by
  unfold ofV
  rw [show (10000 : Nat) = 9998 + 2 from rfl, eqA95]
  congr 1
  rw [decide_eq_decide]
  omega
theorem pow_bits (b : Int) (h0 : 0 ≤ b) (h1 : b ≤ 32) : 1 ≤ (2 : Int) ^ (32 - b).toNat ∧ (2 : Int) ^ (32 - b).toNat ≤ 4294967296 := by
  have h := Nat.pow_le_pow_right (n := 2) (by omega) (show (32 - b).toNat ≤ 32 by omega)
  have h2 : ((2 : Int) ^ (32 - b).toNat) = ((2 ^ (32 - b).toNat : Nat) : Int) := by simp
  have h3 : 0 < 2 ^ (32 - b).toNat := Nat.pow_pos (by omega)
  rw [h2]
  omega
/-- what stands in the boxed prefix while the region goes on -/
abbrev RS (w : World) (a b : Int) (w' : World) : Prop := w'.cell? ⟨w.heap.size, 0, none⟩ = some (.int .i64 a) ∧ w'.cell? ⟨w.heap.size, 1, none⟩ = some (.int .i64 b) ∧ w.heap.size < w'.heap.size ∧ Below w.heap.size w w'
theorem RS.of {w : World} {a b : Int} {w1 : World} (n : Int) (h0 : 0 ≤ n) (h1 : n ≤ 4294967295) (h : RS w a b w1) :
    Calls Try.prog 53 #[.int .i64 n] w1 fun e w' => e = .returned (ofV n) ∧ RS w a b w' :=
  (of_any n h0 h1 w1).mono fun e w' ⟨he, hb⟩ => ⟨he, (hb.cell (p := ⟨w.heap.size, 0, none⟩) h.2.2.1).trans h.1, (hb.cell (p := ⟨w.heap.size, 1, none⟩) h.2.2.1).trans h.2.1, Nat.lt_of_lt_of_le h.2.2.1 hb.size, h.2.2.2.trans (hb.mono (Nat.le_of_lt h.2.2.1))⟩
theorem right_yes (a b : Int) (w : World) (h0 : 0 ≤ b) (h1 : b ≤ 32) (h2 : 0 ≤ a) (h3 : a ≤ 4294967295) :
    Calls Try.prog 37 #[.agg #[.int .i64 a, .int .i64 b]] w fun e w' => e = .returned (.bool (decide (a % 2 ^ (32 - b).toNat = 0))) ∧ Below w.heap.size w w' := by
  obtain ⟨s, hs⟩ : ∃ s : Int, s = 2 ^ (32 - b).toNat := ⟨_, rfl⟩
  obtain ⟨d, hd⟩ : ∃ d : Int, d = a / s := ⟨_, rfl⟩
  obtain ⟨q, hq⟩ : ∃ q : Int, q = d * s := ⟨_, rfl⟩
  have sz : ∀ w, Calls Try.prog 38 #[.int .i64 b] w fun e w' => e = .returned (.int .i64 s) ∧ w = w' := fun w => by rw [hs]; exact size_any b h0 h1 w
  obtain ⟨s1, s2⟩ : 1 ≤ s ∧ s ≤ 4294967296 := by rw [hs]; exact pow_bits b h0 h1
  have hm := Int.mul_ediv_add_emod a s
  have hm0 := Int.emod_nonneg a (show s ≠ 0 by omega)
  rw [Int.mul_comm, ← hd, ← hq] at hm
  have s0 : ¬ s = 0 := by omega
  have d0 : 0 ≤ d := by rw [hd]; exact Int.ediv_nonneg h2 (by omega)
  have q1 : 0 ≤ q := by rw [hq]; exact Int.mul_nonneg d0 (by omega)
  have q2 : q ≤ 4294967295 := by omega
  have d1 : d ≤ a := by rw [hd]; exact Int.ediv_le_self _ h2
  have eq1 : IntKind.i64.wrap (a.tdiv s) = d := by
    rw [Int.tdiv_eq_ediv_of_nonneg h2, ← hd, IntKind.wrap_i64]; omega
  have eq2 : IntKind.i64.wrap (d * s) = q := by
    rw [← hq, IntKind.wrap_i64]; omega
  have fin : decide (a = q) = decide (a % s = 0) := by rw [decide_eq_decide]; omega
  have heq : ∀ w', (Op.equalIn 10000 95 (ofV a) (ofV q)).run Try.prog w' = .ok (decide (a % s = 0)) w' := fun w' => by rw [← fin]; exact ofV_eq a q h2 h3 q1 q2 w'
  clear fin hm hm0
  have HS : Hid (s = 2 ^ (32 - b).toNat) := hs
  clear hq hs hd
  go_enter Try.func37, Try.ntmps37
  go_wp2_with fail
  go_region_held3 (fun w' => w'.cell? ⟨w.heap.size, 0, none⟩ = some (.int .i64 a) ∧ w'.cell? ⟨w.heap.size, 1, none⟩ = some (.int .i64 b) ∧ w.heap.size < w'.heap.size ∧ Below w.heap.size w w') (first | exact ⟨by go_simp, by go_simp, by simp, ((Below.refl _ _).alloc (Nat.le_refl _) _).drew⟩ | assumption)
    (first | (go_at_call 38; refine (sz _).mono ?_; rintro e w' ⟨rfl, rfl⟩) | (go_at_call 53; (with_reducible refine (RS.of a h2 h3 (by assumption)).mono ?_); rintro e w' ⟨rfl, hS⟩) | (go_at_call 53; (with_reducible refine (RS.of q q1 q2 (by assumption)).mono ?_); rintro e w' ⟨rfl, hS⟩))
  go_wp2
  go_ret
  exact ⟨by rw [← HS.out]; rfl, hS.2.2.2⟩
theorem right_any (a b : Int) (w : World) :
    Calls Try.prog 37 #[.agg #[.int .i64 a, .int .i64 b]] w fun e w' => e = .returned (.bool (rightB a b)) ∧ Below w.heap.size w w' := by
  by_cases h : 0 ≤ b ∧ b ≤ 32 ∧ 0 ≤ a ∧ a ≤ 4294967295
  · have e : rightB a b = decide (a % 2 ^ (32 - b).toNat = 0) := by
      unfold rightB; rw [decide_eq_decide]; exact ⟨fun x => x.2.2.2.2, fun x => ⟨h.1, h.2.1, h.2.2.1, h.2.2.2, x⟩⟩
    rw [e]
    exact right_yes a b w h.1 h.2.1 h.2.2.1 h.2.2.2
  · have e : rightB a b = false := by
      unfold rightB; rw [decide_eq_false_iff_not]; exact fun x => h ⟨x.1, x.2.1, x.2.2.1, x.2.2.2.1⟩
    rw [e]
    exact right_no a b w h
theorem right_at {a b : Int} {r : Bool} (h : rightB a b = r) (w : World) :
    Calls Try.prog 37 #[.agg #[.int .i64 a, .int .i64 b]] w fun e w' => e = .returned (.bool r) ∧ Below w.heap.size w w' := h ▸ right_any a b w
theorem range_no (a b : Int) (w : World) (h : rightB a b = false) :
    Calls Try.prog 19 #[.agg #[.int .i64 a, .int .i64 b]] w fun e w' => e = .returned (.tuple #[.agg #[.int .i64 0, .int .i64 0], .int .i64 1]) ∧ Below w.heap.size w w' := by
  have H : Hid _ := h
  clear h
  go_enter Try.func19, Try.ntmps19
  go_wp2_with (go_at_call 37; refine (right_at H.out _).mono ?_; rintro e w' ⟨rfl, hb⟩; obtain ⟨hc, hf⟩ := bcell hb; have hz : w.heap.size + 1 < w'.heap.size := by have := hb.size; simp at this; omega)
  refine bodyPost_ret (v := .tuple #[.agg #[.int .i64 0, .int .i64 0], .int .i64 1]) (by simp [results, Try.results19, go_sem, hc, hz]) rfl ⟨rfl, ?_⟩
  exact ((((Below.refl _ _).alloc (Nat.le_refl _) _).alloc (by simp) _).trans (hb.mono (by simp; omega))).setCell (by simp) _ |>.setCell (by simp) _
theorem range_yes (a b : Int) (w : World) (h : rightB a b = true) :
    Calls Try.prog 19 #[.agg #[.int .i64 a, .int .i64 b]] w fun e w' => e = .returned (.tuple #[.agg #[.int .i64 a, .int .i64 (a + 2 ^ (32 - b).toNat - 1)], .int .i64 0]) ∧ Below w.heap.size w w' := by
  have hh : 0 ≤ b ∧ b ≤ 32 ∧ 0 ≤ a ∧ a ≤ 4294967295 ∧ a % 2 ^ (32 - b).toNat = 0 := of_decide_eq_true h
  obtain ⟨b0, b1, a0, a1, _⟩ := hh
  obtain ⟨s1, s2⟩ := pow_bits b b0 b1
  obtain ⟨s, hs⟩ : ∃ s : Int, s = 2 ^ (32 - b).toNat := ⟨_, rfl⟩
  rw [← hs] at s1 s2 ⊢
  have HS : Hid _ := hs
  have H : Hid _ := h
  clear h hs
  have e1 : IntKind.i64.wrap (a + s) = a + s := by rw [IntKind.wrap_i64]; omega
  have e2 : IntKind.i64.wrap (a + s - 1) = a + s - 1 := by rw [IntKind.wrap_i64]; omega
  go_enter Try.func19, Try.ntmps19
  go_wp2_with (go_at_call 37; refine (right_at H.out _).mono ?_; rintro e w1 ⟨rfl, hb⟩; obtain ⟨hc, hf⟩ := bcell hb; have hz : w.heap.size + 1 < w1.heap.size := by have := hb.size; simp at this; omega)
  have hB : Below w.heap.size w w1 := (((Below.refl _ _).alloc (Nat.le_refl _) _).alloc (by simp) _).trans (hb.mono (by simp; omega))
  have k0 : w1.cell? ⟨w.heap.size, 0, none⟩ = some (.int .i64 a) := by rw [hc _ _ (by simp; omega)]; go_simp
  have k1 : w1.cell? ⟨w.heap.size, 1, none⟩ = some (.int .i64 b) := by rw [hc _ _ (by simp; omega)]; go_simp
  have k2 : w1.cell? ⟨w.heap.size + 1, 0, none⟩ = some (.int .i64 0) := by rw [hc _ _ (by simp)]; go_simp
  have k3 : w1.cell? ⟨w.heap.size + 1, 1, none⟩ = some (.int .i64 0) := by rw [hc _ _ (by simp)]; go_simp
  have f2 : w1.frozen? ⟨w.heap.size + 1, 0, none⟩ = false := by rw [hf _ _ (by simp)]; go_simp
  have f3 : w1.frozen? ⟨w.heap.size + 1, 1, none⟩ = false := by rw [hf _ _ (by simp)]; go_simp
  clear hc hf
  go_region_held3 (fun w' => w'.cell? ⟨w.heap.size, 0, none⟩ = some (.int .i64 a) ∧ w'.cell? ⟨w.heap.size, 1, none⟩ = some (.int .i64 b)) (go_keep)
    (first | (go_at_call 38; refine (size_at HS.out b0 b1 _).mono ?_; rintro e w' ⟨rfl, rfl⟩) | fail)
  go_wp2
  have hs1 := hb.size
  simp at hs1
  refine bodyPost_ret (v := .tuple #[.agg #[.int .i64 a, .int .i64 (a + s - 1)], .int .i64 0]) (by simp [results, Try.results19, go_sem, k2, k3, hz]) rfl ⟨rfl, ?_⟩
  exact ((hB.setCell (by simp) _).setCell (by simp) _).drew
#print axioms range_yes
#print axioms range_no
end Go.Proofs.Ytphmmpdeehfhjaa
