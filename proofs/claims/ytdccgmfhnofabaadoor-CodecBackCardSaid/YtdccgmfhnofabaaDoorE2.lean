/- CodecSums: its walk. -/
import Derived.Test.YtdccgmfhnofabaaDoorE1
namespace Go.Proofs.YtdccgmfhnofabaaDoor
open Go.RowKit
set_option linter.unusedVariables false
set_option linter.unusedSimpArgs false
theorem sums_any (s t : ByteArray) {w : World} (hs : s.size ≤ 9223372036854775807) (ht : t.size ≤ 9223372036854775807) (hG : Glob w) :
    Calls Tryd.prog 3 #[.string s, .string t] w fun e w' => e = .returned (.bool true) ∧ Below w.heap.size w w' := by
  have HA := Hid.mk_ (awake_any hG)
  obtain ⟨x, hx⟩ : ∃ x : Int, x = (crc s.data.toList : Int) := ⟨_, rfl⟩
  obtain ⟨y, hy⟩ : ∃ y : Int, y = (crc t.data.toList : Int) := ⟨_, rfl⟩
  have H1 := Hid.mk_ (fun W => sum_any s W hs)
  have H2 := Hid.mk_ (fun W => sum_any t W ht)
  have H3 := Hid.mk_ (fun W => rsum_any s W hs)
  have H4 := Hid.mk_ (fun W => rsum_any t W ht)
  rw [← hx] at H1 H3
  rw [← hy] at H2 H4
  have t1 : (x == x) = true := by simp
  have t2 : (y == y) = true := by simp
  clear hx hy hs ht hG
  go_enter Tryd.func3, Tryd.ntmps3
  go_wp2_with (first
    | (go_at_call 9; (with_reducible refine HA.out.mono ?_); rintro e w1 ⟨rfl, hb⟩)
    | (go_at_call 10; (with_reducible refine (H1.out _).mono ?_); rintro e w1 ⟨rfl, rfl⟩)
    | (go_at_call 10; (with_reducible refine (H2.out _).mono ?_); rintro e w1 ⟨rfl, rfl⟩)
    | (go_at_call 11; (with_reducible refine (H3.out _).mono ?_); rintro e w1 ⟨rfl, rfl⟩)
    | (go_at_call 11; (with_reducible refine (H4.out _).mono ?_); rintro e w1 ⟨rfl, rfl⟩))
  go_ret
  exact ⟨rfl, hb⟩
end Go.Proofs.YtdccgmfhnofabaaDoor
