/- may. -/
import Derived.Test.YtmfdcaalbpikpaaA5
import Derived.Deep.CutBlock
namespace Go.Proofs.Ytmfdcaalbpikpaa
open Go.RowKit Go.Maps
set_option linter.unusedVariables false
set_option linter.unusedSimpArgs false
theorem enter77 : ∀ args w, (callFunc 77 args).run Try.prog w = .ok (.enter 77 args) w := Go.Proofs.enters_of Try.func77 (by kernel_rfl) rfl
theorem enter71 : ∀ args w, (callFunc 71 args).run Try.prog w = .ok (.enter 71 args) w := Go.Proofs.enters_of Try.func71 (by kernel_rfl) rfl
theorem enter30 : ∀ args w, (callFunc 30 args).run Try.prog w = .ok (.enter 30 args) w := Go.Proofs.enters_of Try.func30 (by kernel_rfl) rfl
section
variable {w w' : World} {b : Nat} {S : List Int} {M : Int} {L : List (Nd × Value)} {nv sv lv : Value} {mb : Nat} {rows : List Value} {cz : List Nat}
theorem any_not {p : Int → Bool} (l : List Int) : (!l.any (fun x => !p x)) = l.all p := by
  induction l with
  | nil => rfl
  | cons x l ih => simp only [List.any_cons, List.all_cons, ← ih]; cases p x <;> simp
set_option maxHeartbeats 2000000 in
theorem may_pa (h : PA w b S M L nv sv mb cz) {A : Option Addr} {c : Nat} {ks : List Int} (lv : Int) (hA : ∀ g o, A = some ⟨g, o, none⟩ → g < w.heap.size) (hk : IntsIn w A ks) :
    Calls Try.prog 70 #[.pointer (some ⟨b, 0, none⟩), .int .i64 lv, .slice A ks.length c] w fun e w' => e = .returned (.bool (mayA S (nds L) lv ks)) ∧ Below w.heap.size w w' := by
  obtain ⟨w1, hw1⟩ : ∃ w1, w1 = (w.alloc (.cells #[.pointer (some ⟨b, 0, none⟩)] 30)).alloc (.cells #[.int .i64 lv] 3) := ⟨_, rfl⟩
  obtain ⟨bp, hbp⟩ : ∃ bp, bp = w.heap.size := ⟨_, rfl⟩
  obtain ⟨bl, hbl⟩ : ∃ bl, bl = w.heap.size + 1 := ⟨_, rfl⟩
  have hb1 : Below w.heap.size w w1 := by rw [hw1]; exact ((Below.refl _ _).alloc (Nat.le_refl _) _).alloc (by simp) _
  have p1 : w1.cell? ⟨bp, 0, none⟩ = some (.pointer (some ⟨b, 0, none⟩)) := by
    rw [hw1, hbp]; exact ((Blk.new w [.pointer (some ⟨b, 0, none⟩)] 30).alloc _).cell 0
  have p2 : w1.cell? ⟨bl, 0, none⟩ = some (.int .i64 lv) := by
    have := (Blk.new (w.alloc (.cells #[.pointer (some ⟨b, 0, none⟩)] 30)) [.int .i64 lv] 3).cell 0
    rw [hw1, hbl]; simp
  have hP := h.new hb1
  have hcl := fun (q : Nat) (x : Int) => low_clo (hP.quiet q) (bp := bp) (bl := bl) (l := lv) p1 p2 x
  have hki := hk.new hb1
  have hcont := fun n => contains_any 77 #[.pointer (some ⟨bp, 0, none⟩), .pointer (some ⟨bl, 0, none⟩)] enter77 (fun x => !lowA S (nds L) lv x) A c ks (w1.drewN n) (hki.move (Nat.le_refl _) (fun _ _ _ _ => rfl)) (fun q x _ => by
    have := hcl (n + q) x
    rw [← World.drewN_drewN] at this
    exact this)
  have k0 := hP.c0
  obtain ⟨gs, cs, rfl, hcs, hgz, hgs, hsl, hsc⟩ := hP.s
  have hmay : mayA S (nds L) lv ks = (shapeA S lv ks.length && ks.all (lowA S (nds L) lv)) := rfl
  rw [hmay, ← any_not]
  obtain ⟨r, hr⟩ : ∃ r, r = ks.any (fun x => !lowA S (nds L) lv x) := ⟨_, rfl⟩
  rw [← hr] at hcont ⊢
  have HC := Hid.mk_ hcont
  have HW := Hid.mk_ hw1
  have HBP := Hid.mk_ hbp
  have HBL := Hid.mk_ hbl
  have HB := Hid.mk_ hb1
  obtain ⟨n, hn⟩ : ∃ n, n = ks.length := ⟨_, rfl⟩
  rw [← hn] at HC ⊢
  have hn0 : n ≤ 9223372036854775807 := by rw [hn]; exact hk.1
  clear hcl hcont h hP hki hk hmay hr hw1 hbp hbl hb1 hn hA
  by_cases h0 : 0 ≤ lv
  · by_cases h1 : lv < S.length
    · obtain ⟨i, rfl⟩ : ∃ i : Nat, lv = (i : Int) := ⟨lv.toNat, by omega⟩
      have hi : i < S.length := by omega
      have hx := hsc i hi
      obtain ⟨x, hxe⟩ : ∃ x, x = S[i]'hi := ⟨_, rfl⟩
      rw [← hxe] at hx
      have hsh : shapeA S (i : Int) n = decide ((n : Int) = x) := by
        unfold shapeA
        have e : S.getD (i : Int).toNat 0 = x := by rw [hxe, Int.toNat_natCast, getD_mem hi]
        rw [e]
        by_cases h : (n : Int) = x
        · rw [decide_eq_true h, decide_eq_true ⟨h0, h1, h⟩]
        · rw [decide_eq_false h, decide_eq_false (fun h2 => h h2.2.2)]
      rw [hsh]
      have d0 : decide ((i : Int) < 0) = false := decide_eq_false (by omega)
      have d1 : decide ((S.length : Int) ≤ (i : Int)) = false := decide_eq_false (by omega)
      have d1n : decide (S.length ≤ i) = false := decide_eq_false (by omega)
      clear hsh hxe hsc
      by_cases h2 : (n : Int) = x
      · have d2 : ((n : Int) != x) = false := by simp [h2]
        have d3 : decide ((n : Int) = x) = true := decide_eq_true h2
        have d4 : ((n : Int) == x) = true := by simp [h2]
        rw [d3]
        clear h2
        go_enter Try.func70, Try.ntmps70
        go_upto_region 1 with fail
        rw [← HBL.out, ← HBP.out, ← HW.out]
        go_big_quiet (fail)
        go_wp2_with (go_at_call 29; (with_reducible refine (HC.out _).mono ?_); rintro e w' ⟨rfl, q, rfl⟩)
        go_ret
        exact ⟨rfl, HB.out.trans (Drawn_below _ _)⟩
      · have d2 : ((n : Int) != x) = true := by simp [h2]
        have d3 : decide ((n : Int) = x) = false := decide_eq_false h2
        have d4 : ((n : Int) == x) = false := by simp [h2]
        rw [d3]
        clear h2
        go_enter Try.func70, Try.ntmps70
        go_upto_region 1 with fail
        rw [← HBL.out, ← HBP.out, ← HW.out]
        go_big_quiet (fail)
        go_wp2_with fail
        go_ret
        exact ⟨rfl, HB.out.trans (Drawn_below _ _)⟩
    · have hsh : shapeA S lv n = false := decide_eq_false (fun h => h1 h.2.1)
      rw [hsh]
      have d0 : decide (lv < 0) = false := decide_eq_false (by omega)
      have d1 : decide ((S.length : Int) ≤ lv) = true := decide_eq_true (by omega)
      go_enter Try.func70, Try.ntmps70
      go_upto_region 1 with fail
      rw [← HBL.out, ← HBP.out, ← HW.out]
      go_big_quiet (fail)
      go_wp2_with fail
      go_ret
      exact ⟨rfl, HB.out.trans (Drawn_below _ _)⟩
  · have hsh : shapeA S lv n = false := decide_eq_false (fun h => h0 h.1)
    rw [hsh]
    have d0 : decide (lv < 0) = true := decide_eq_true (by omega)
    go_enter Try.func70, Try.ntmps70
    go_upto_region 1 with fail
    rw [← HBL.out, ← HBP.out, ← HW.out]
    go_big_quiet (fail)
    go_wp2_with fail
    go_ret
    exact ⟨rfl, HB.out.trans (Drawn_below _ _)⟩
end
end Go.Proofs.Ytmfdcaalbpikpaa
