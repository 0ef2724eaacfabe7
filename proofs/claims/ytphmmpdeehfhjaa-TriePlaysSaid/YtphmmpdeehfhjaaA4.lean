import Derived.Test.YtphmmpdeehfhjaaA3
namespace Go.Proofs.Ytphmmpdeehfhjaa
open Go.RowKit
set_option linter.unusedVariables false
set_option linter.unusedSimpArgs false
theorem tfind_no (p : Option Addr) (n : Int) (w : World) (h : n < 0 ∨ 4294967295 < n) :
    Calls Try.prog 20 #[.pointer p, .int .i64 n] w fun e w' => e = .returned (.tuple #[.int .i64 0, .int .i64 1]) ∧ w = w' := by
  rcases h with h | h
  · go_enter Try.func20, Try.ntmps20
    go_wp2_with fail
    go_ret2
    exact ⟨rfl, rfl⟩
  · have h0 : ¬ n < 0 := by omega
    go_enter Try.func20, Try.ntmps20
    go_wp2_with fail
    go_ret2
    exact ⟨rfl, rfl⟩
/-- what holds at the head of Find's loop -/
def FI (n : Int) (w : World) (r : Int) (x6 x7 : Value) (wr : World) : Prop :=
  ∃ (t' : Tr) (b' : Nat) (f' : List Nat) (k : Nat) (m : Nat), x6 = .pointer (some ⟨b', 0, none⟩) ∧ x7 = .int .i64 (31 - (k : Int)) ∧ At w t' b' f' ∧ t'.ht + k ≤ 32 ∧ Tr.find n t' k = r ∧ wr = w.drewN m
theorem tfind_yes (t : Tr) (a : Nat) (fp : List Nat) (n : Int) (w : World) (h : TrieAt w t a fp) (hh : t.ht ≤ 32) (n0 : 0 ≤ n) (n1 : n ≤ 4294967295) :
    Calls Try.prog 20 #[.pointer (some ⟨a, 0, none⟩), .int .i64 n] w fun e w' => e = .returned (.tuple #[.int .i64 (Tr.find n t 0), .int .i64 0]) ∧ ∃ m, w' = w.drewN m := by
  obtain ⟨b, f, rfl, ha, ht, hn⟩ := h
  have ca : w.cell? ⟨a, 0, none⟩ = some (.pointer (some ⟨b, 0, none⟩)) := ha.cell 0
  have h0 : ¬ n < 0 := by omega
  have h1 : ¬ 4294967295 < n := by omega
  obtain ⟨r, hr⟩ : ∃ r, r = Tr.find n t 0 := ⟨_, rfl⟩
  rw [← hr]
  have HR := Hid.mk_ hr
  have HT := Hid.mk_ ht
  clear hr ht
  go_enter Try.func20, Try.ntmps20
  go_wp2_with fail
  go_loopw [6, 7] (fun x6 x7 wr => FI n w r x6 x7 wr) (fun _ x7 _ => (intOf x7 + 1).toNat)
  case atStart => exact ⟨t, b, f, 0, 0, rfl, rfl, HT.out, hh, HR.out.symm, rfl⟩
  case round =>
    obtain ⟨t', b', f', k, m, rfl, rfl, ht', hh', hf, rfl⟩ := hrel
    have HF := Hid.mk_ hf
    clear hf
    cases t' with
    | leaf v =>
      have c0 : w.cell? ⟨b', 0, none⟩ = some (.int .i64 v) := ht'.2.cell 0
      have c1 : w.cell? ⟨b', 1, none⟩ = some (.pointer none) := ht'.2.cell 1
      go_wp2_with fail
      go_ret2
      exact ⟨by rw [← HF.out]; rfl, _, rfl⟩
    | node l rr =>
      obtain ⟨x, bl, br, fl, fr, rfl, hb, hl, hr, hnn⟩ := ht'
      have c1 : w.cell? ⟨b', 1, none⟩ = some (.pointer (some ⟨bl, 0, none⟩)) := hb.cell 1
      have c2 : w.cell? ⟨b', 2, none⟩ = some (.pointer (some ⟨br, 0, none⟩)) := hb.cell 2
      have hk : k ≤ 31 := by simp [Tr.ht] at hh'; omega
      have eb := bit_raw n k n0 n1
      have e3 : (31 - (k : Int)).toNat = 31 - k := by omega
      rcases bit_01 n k with hbit | hbit
      · rw [hbit] at eb
        have HB := Hid.mk_ hbit
        clear hbit
        go_wp2_with fail
        go_quiet (fail)
        go_wp2_with fail
        simp only [Tr.ht] at hh'
        have hhl : l.ht + (k + 1) ≤ 32 := by omega
        have hff : Tr.find n l (k + 1) = r := by rw [← HF.out, Tr.find, if_pos HB.out]
        exact ⟨⟨l, bl, fl, k + 1, _, rfl, by congr 1; omega, hl, hhl, hff, rfl⟩, by simp [intOf]; omega⟩
      · rw [hbit] at eb
        have HB := Hid.mk_ hbit
        clear hbit
        go_wp2_with fail
        go_quiet (fail)
        go_wp2_with fail
        simp only [Tr.ht] at hh'
        have hhl : rr.ht + (k + 1) ≤ 32 := by omega
        have hff : Tr.find n rr (k + 1) = r := by rw [← HF.out, Tr.find, if_neg (by rw [HB.out]; decide)]
        exact ⟨⟨rr, br, fr, k + 1, _, rfl, by congr 1; omega, hr, hhl, hff, rfl⟩, by simp [intOf]; omega⟩
end Go.Proofs.Ytphmmpdeehfhjaa
