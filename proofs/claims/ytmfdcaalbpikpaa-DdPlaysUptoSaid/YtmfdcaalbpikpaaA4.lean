/- The closures; slices.Clone, Clip; the key. -/
import Derived.Test.YtmfdcaalbpikpaaA2
import Derived.Laws.IdiomStrings
import Derived.WalkSpells
namespace Go.Proofs.Ytmfdcaalbpikpaa
open Go.RowKit
set_option linter.unusedVariables false
set_option linter.unusedSimpArgs false
theorem Try.info3 : (Try.prog.info? 3).map (fun i => (i.zero, i.size, i.bytes)) = some (some (.int .i64 0), 1, 8) := by kernel_rfl
theorem Try.info5 : (Try.prog.info? 5).map (fun i => (i.zero, i.size, i.bytes)) = some (some (.int .u8 0), 1, 1) := by kernel_rfl
theorem Try.info22 : (Try.prog.info? 22).map (fun i => (i.zero, i.size, i.bytes)) = some (some (.slice none 0 0), 1, 24) := by kernel_rfl
theorem Try.info55 : (Try.prog.info? 55).map (fun i => (i.zero, i.size, i.bytes)) = some (some (.agg #[.int .i64 0, .slice none 0 0]), 2, 32) := by kernel_rfl
def badSize (x : Int) : Bool := decide (x < 1) || decide (256 < x)
theorem size_clo (x : Int) (w : World) : Calls Try.prog 30 #[.int .i64 x] w fun e w' => e = .returned (.bool (badSize x)) ∧ w = w' := by
  by_cases h : x < 1
  · go_enter Try.func30, Try.ntmps30
    go_wp2_with fail
    go_ret
    exact ⟨by simp [badSize, h], rfl⟩
  · go_enter Try.func30, Try.ntmps30
    go_wp2_with fail
    go_ret
    exact ⟨by simp [badSize, h] <;> omega, rfl⟩
theorem same_clo {bk g o n c : Nat} {y : Int} (x : Int) (w : World) (h1 : w.cell? ⟨bk, 0, none⟩ = some (.slice (some ⟨g, o, none⟩) n c)) (hn : 0 < n) (hy : w.cell? ⟨g, o, none⟩ = some (.int .i64 y)) :
    Calls Try.prog 71 #[.int .i64 x, .pointer (some ⟨bk, 0, none⟩)] w fun e w' => e = .returned (.bool (!decide (x = y))) ∧ w = w' := by
  have hn1 : (0 : Int) < n := by omega
  have hy0 : w.cell? ⟨g, o + 0, none⟩ = some (.int .i64 y) := hy
  go_enter Try.func71, Try.ntmps71
  go_wp2_with fail
  go_ret
  refine ⟨?_, rfl⟩
  congr 2
/-- slices.Clone of what is not empty -/
theorem clone_some {g o n c : Nat} {xs : List Int} (hx : n = xs.length) (h0 : 0 < n) (hn : n ≤ 8589934592) (w : World) (hc : ∀ j (hj : j < xs.length), w.cell? ⟨g, o + j, none⟩ = some (.int .i64 (xs[j]'hj))) (hlt : g < w.heap.size) :
    Calls Try.prog 31 #[.slice (some ⟨g, o, none⟩) n c] w fun e w' => ∃ g' c', e = .returned (.slice (some ⟨g', 0, none⟩) n c') ∧ Row w' 3 1 (.slice (some ⟨g', 0, none⟩) n c') n (xs.map (Value.int .i64)) ∧ w.heap.size ≤ g' ∧ Below w.heap.size w w' := by
  subst hx
  obtain ⟨i0, hi, hz0, hz1, hz2⟩ := info_parts Try.info3
  have hne := fun W => Lib.run_eql_slice_nil (P := Try.prog) W 22 3 (some ⟨g, o, none⟩) xs.length c 0 0 Try.underlying22
  have hr0 : Row (w.alloc (.cells #[] 3)) 3 1 (.slice (some ⟨w.heap.size, 0, none⟩) 0 0) 0 [] := ⟨rfl, .inr ⟨w.heap.size, 0, #[], rfl, heap_alloc_new w _, Nat.le_refl _, by decide, by simp, rfl⟩⟩
  have hnews : ∀ j u, (xs.map (Value.int .i64))[j]? = some u → (w.alloc (.cells #[] 3)).cell? ((⟨g, o, none⟩ : Addr).add j) = some u := fun j u hj => by
    rw [Addr.add_lit, ((Below.refl w.heap.size w).alloc (Nat.le_refl _) _).cell (p := ⟨g, o + j, none⟩) hlt]
    obtain ⟨hjl, e⟩ := List.getElem?_eq_some_iff.1 hj
    rw [List.length_map] at hjl
    rw [List.getElem_map] at e
    rw [← e]
    exact hc j hjl
  have HC := Hid.mk_ hnews
  clear hc hnews
  go_enter Try.func31, Try.ntmps31
  go_wp2_with (at_builtin; refine wpList_append_row _ rfl _ _ 22 rfl 3 i0 (.int .i64 0) 1 8 Try.underlying22 hi hz0 hz1 hz2 rfl (by decide) _ 0 [] rfl hr0 ⟨g, o, none⟩ xs.length c (xs.map (Value.int .i64)) rfl (by simp) HC.out (by simp [Value.oneCell']) h0 (by unfold maxLen; omega) (by omega) (w.heap.size + 1) (by simp) ?_; intro g' c' w' hrow hgrow hloc hlt')
  go_ret
  have hg' : w.heap.size ≤ g' := by
    rcases hloc with h | h
    · cases h; exact Nat.le_refl _
    · omega
  rw [Nat.zero_add, List.nil_append] at hrow
  refine ⟨g', c', by simp, hrow, hg', ?_⟩
  exact ((Below.refl w.heap.size w).alloc (Nat.le_refl _) _).grown hgrow (by simp) (fun k hk => by cases hk; exact Nat.le_refl _)
theorem clip_any (A : Option Addr) (n c : Nat) (hn : n ≤ c) (w : World) : Calls Try.prog 47 #[.slice A n c] w fun e w' => e = .returned (.slice A n n) ∧ w = w' := by
  go_enter Try.func47, Try.ntmps47
  go_wp2_with fail
  go_ret
  exact ⟨rfl, rfl⟩
end Go.Proofs.Ytmfdcaalbpikpaa
namespace Go.Proofs.Ytmfdcaalbpikpaa
open Go.RowKit
set_option linter.unusedVariables false
set_option linter.unusedSimpArgs false
def byteV (b : UInt8) : Value := .int .u8 (b.toNat : Int)
theorem byteV_u8 (x : Int) : byteV (u8 x) = .int .u8 (x % 256) := by unfold byteV; rw [u8_toNat]
theorem keyB_len (lv : Int) : ∀ ks : List Int, (keyB ⟨lv, ks⟩).length = 1 + 2 * ks.length := by
  intro ks
  have h : ∀ l : List Int, (l.flatMap kidB).length = 2 * l.length := fun l => by
    induction l with
    | nil => rfl
    | cons x l ih => simp only [List.flatMap_cons, List.length_append, ih, kidB, List.length_cons, List.length_nil]; omega
  have h2 := h ks
  show (_ :: _).length = _
  rw [List.length_cons]
  show (ks.flatMap kidB).length + 1 = _
  omega
theorem keyB_snoc (lv k : Int) (ks : List Int) : keyB ⟨lv, ks ++ [k]⟩ = keyB ⟨lv, ks⟩ ++ kidB k := by simp [keyB]
theorem two_cells (w : World) {t : TypeId} (u v : Value) (b : Nat) (hb : b = w.heap.size) : ∀ j x, [u, v][j]? = some x → (w.alloc (.cells #[u, v] t)).cell? ((⟨b, 0, none⟩ : Addr).add j) = some x := one_cells_at w b [u, v] hb
theorem key_any {A : Option Addr} {c : Nat} {lv : Int} {ks : List Int} (hl : 0 ≤ lv) (hk : ∀ k ∈ ks, kidOk k) (hlen : ks.length ≤ 256) (w : World) (hx : IntsIn w A ks) (hA : ∀ g o, A = some ⟨g, o, none⟩ → g < w.heap.size) :
    Calls Try.prog 69 #[.int .i64 lv, .slice A ks.length c] w fun e w' => e = .returned (.string ⟨(keyB ⟨lv, ks⟩).toArray⟩) ∧ Below w.heap.size w w' := by
  obtain ⟨i0, hi, hz0, hz1, hz2⟩ := info_parts Try.info5
  have HX := Hid.mk_ hx
  have HK := Hid.mk_ hk
  clear hx hk
  go_enter Try.func69, Try.ntmps69
  go_wp2_with fail
  go_loopw [5, 13] (fun x5 x13 wr => ∃ (k g cap : Nat), k ≤ ks.length ∧ x5 = .slice (some ⟨g, 0, none⟩) (1 + 2 * k) cap ∧ x13 = .int .i64 (k : Int) ∧ w.heap.size ≤ g ∧ Hid (Row wr 5 1 (.slice (some ⟨g, 0, none⟩) (1 + 2 * k) cap) (1 + 2 * k) ((keyB ⟨lv, ks.take k⟩).map byteV)) ∧ Hid (Below w.heap.size w wr)) (fun _ x13 _ => ks.length - (intOf x13).toNat)
  case atStart =>
    refine ⟨0, w.heap.size, 1, Nat.zero_le _, rfl, rfl, Nat.le_refl _, ?_, ((Below.refl _ _).alloc (Nat.le_refl _) _)⟩
    have h := Row.of_own (World.ownsRow_lit (base := 0) (e := 5) (size := 1) w #[.int .u8 (lv % 256)] 1 (Nat.zero_le _) (by decide) rfl)
    have e : (keyB ⟨lv, ks.take 0⟩).map byteV = [.int .u8 (lv % 256)] := by
      show [byteV (u8 lv)] = _
      rw [byteV_u8]
    show Row _ 5 1 _ (1 + 2 * 0) _
    rw [e]
    exact h
  case round =>
    obtain ⟨k, g, cap, hk, rfl, rfl, hg, HR, HB⟩ := hrel
    by_cases hlt : k < ks.length
    · have hlt1 : (k : Int) < ks.length := by omega
      obtain ⟨ga, o, rfl, hga, hc⟩ := HX.out.2 (by omega)
      have c0 := (HB.out.cell (p := ⟨ga, o + k, none⟩) hga).trans (hc k hlt)
      have hyk := HK.out (ks[k]'hlt) (List.getElem_mem hlt)
      obtain ⟨y, hy⟩ : ∃ y, y = ks[k]'hlt := ⟨_, rfl⟩
      rw [← hy] at c0 hyk
      have HY := Hid.mk_ hy
      obtain ⟨hy0, hy1⟩ := hyk
      clear hy hc
      go_wp2_with (at_builtin; refine wpList_append_row _ rfl _ _ 120 rfl 5 i0 (.int .u8 0) 1 1 Try.underlying120 hi hz0 hz1 hz2 rfl (by decide) (.slice (some ⟨g, 0, none⟩) (1 + 2 * k) cap) (1 + 2 * k) ((keyB ⟨lv, ks.take k⟩).map byteV) rfl (HR.out.alloc _) ⟨wr.heap.size, 0, none⟩ 2 2 [.int .u8 (y / 256), .int .u8 (y % 256)] rfl rfl (two_cells wr _ _ _ rfl) (by simp [Value.oneCell']) (by decide) (by unfold maxLen; omega) (by omega) (wr.heap.size + 1) (by simp) ?_; intro g' cap' w1 hrow hgrow hloc hlt')
      go_roundw
      case rel =>
        refine ⟨k + 1, g', cap', by omega, ?_, by go_num, ?_, ?_, ?_⟩
        · rfl
        · have := HB.out.size
          rcases hloc with h | h
          · cases h; exact hg
          · omega
        · have e : (keyB ⟨lv, ks.take (k + 1)⟩).map byteV = (keyB ⟨lv, ks.take k⟩).map byteV ++ [.int .u8 (y / 256), .int .u8 (y % 256)] := by
            rw [List.take_succ_eq_append_getElem hlt, keyB_snoc, List.map_append, ← HY.out]
            show _ ++ [byteV (u8 (y / 256)), byteV (u8 y)] = _
            rw [byteV_u8, byteV_u8, Int.emod_eq_of_lt (by omega) (by omega)]
          show Row _ 5 1 _ (1 + 2 * (k + 1)) _
          rw [e]
          exact hrow
        · exact (HB.out.alloc (by exact HB.out.size) _).grown hgrow (by have := HB.out.size; simp; omega) (fun j hj => by cases hj; exact hg)
      case measure => simp [intOf]; omega
    · have hge : ¬ ((k : Int) < ks.length) := by omega
      have ek : k = ks.length := by omega
      subst ek
      rw [List.take_length] at HR
      have hl := keyB_len lv ks
      have hconv := run_convert_bytes_back (P := Try.prog) wr 120 9 5 ⟨g, 0, none⟩ cap (keyB ⟨lv, ks⟩) Try.underlying120 Try.underlying5 Try.underlying9 (fun j hj => by
        have h := HR.out.cells j (byteV ((keyB ⟨lv, ks⟩)[j]'hj)) (by simp [hj])
        exact h)
      rw [hl] at hconv
      go_wp2_with fail
      go_ret
      exact ⟨rfl, HB.out⟩
end Go.Proofs.Ytmfdcaalbpikpaa
