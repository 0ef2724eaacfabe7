/- may. -/
import Derived.Test.YtmfdcaalbpikpaaA5
import Derived.Deep.CutBlock
import Derived.Maps.OwnSet
namespace Go.Proofs.Ytmfdcaalbpikpaa
open Go.RowKit Go.Maps
set_option linter.unusedVariables false
set_option linter.unusedSimpArgs false
theorem enter77 : ∀ args w, (callFunc 77 args).run Try.prog w = .ok (.enter 77 args) w := Go.Proofs.enters_of Try.func77 (by kernel_rfl) rfl
theorem enter71 : ∀ args w, (callFunc 71 args).run Try.prog w = .ok (.enter 71 args) w := Go.Proofs.enters_of Try.func71 (by kernel_rfl) rfl
theorem enter30 : ∀ args w, (callFunc 30 args).run Try.prog w = .ok (.enter 30 args) w := Go.Proofs.enters_of Try.func30 (by kernel_rfl) rfl
section
variable {w w' : World} {b : Nat} {S : List Int} {M : Int} {L : List (Nd × Value)} {nv sv lv : Value} {mb : Nat} {rows : List Value} {cz : List Nat}
theorem any_not {p : Int → Bool} (l : List Int) : (!l.any (fun x => !p x)) = l.all p := by
  induction l with
  | nil => rfl
  | cons x l ih => simp only [List.any_cons, List.all_cons, ← ih]; cases p x <;> simp
set_option maxHeartbeats 2000000 in
theorem may_pa (h : PA w b S M L nv sv mb cz) {A : Option Addr} {c : Nat} {ks : List Int} (lv : Int) (hA : ∀ g o, A = some ⟨g, o, none⟩ → g < w.heap.size) (hk : IntsIn w A ks) :
    Calls Try.prog 70 #[.pointer (some ⟨b, 0, none⟩), .int .i64 lv, .slice A ks.length c] w fun e w' => e = .returned (.bool (mayA S (nds L) lv ks)) ∧ Below w.heap.size w w' := by
  obtain ⟨w1, hw1⟩ : ∃ w1, w1 = (w.alloc (.cells #[.pointer (some ⟨b, 0, none⟩)] 30)).alloc (.cells #[.int .i64 lv] 3) := ⟨_, rfl⟩
  obtain ⟨bp, hbp⟩ : ∃ bp, bp = w.heap.size := ⟨_, rfl⟩
  obtain ⟨bl, hbl⟩ : ∃ bl, bl = w.heap.size + 1 := ⟨_, rfl⟩
  have hb1 : Below w.heap.size w w1 := by rw [hw1]; exact ((Below.refl _ _).alloc (Nat.le_refl _) _).alloc (by simp) _
  have p1 : w1.cell? ⟨bp, 0, none⟩ = some (.pointer (some ⟨b, 0, none⟩)) := by
    rw [hw1, hbp]; exact ((Blk.new w [.pointer (some ⟨b, 0, none⟩)] 30).alloc _).cell 0
  have p2 : w1.cell? ⟨bl, 0, none⟩ = some (.int .i64 lv) := by
    have := (Blk.new (w.alloc (.cells #[.pointer (some ⟨b, 0, none⟩)] 30)) [.int .i64 lv] 3).cell 0
    rw [hw1, hbl]; simp
  have hP := h.new hb1
  have hcl := fun (q : Nat) (x : Int) => low_clo (hP.quiet q) (bp := bp) (bl := bl) (l := lv) p1 p2 x
  have hki := hk.new hb1
  have hcont := fun n => contains_any 77 #[.pointer (some ⟨bp, 0, none⟩), .pointer (some ⟨bl, 0, none⟩)] enter77 (fun x => !lowA S (nds L) lv x) A c ks (w1.drewN n) (hki.move (Nat.le_refl _) (fun _ _ _ _ => rfl)) (fun q x _ => by
    have := hcl (n + q) x
    rw [← World.drewN_drewN] at this
    exact this)
  have k0 := hP.c0
  obtain ⟨gs, cs, rfl, hcs, hgz, hgs, hsl, hsc⟩ := hP.s
  have hmay : mayA S (nds L) lv ks = (shapeA S lv ks.length && ks.all (lowA S (nds L) lv)) := rfl
  rw [hmay, ← any_not]
  obtain ⟨r, hr⟩ : ∃ r, r = ks.any (fun x => !lowA S (nds L) lv x) := ⟨_, rfl⟩
  rw [← hr] at hcont ⊢
  have HC := Hid.mk_ hcont
  have HW := Hid.mk_ hw1
  have HBP := Hid.mk_ hbp
  have HBL := Hid.mk_ hbl
  have HB := Hid.mk_ hb1
  obtain ⟨n, hn⟩ : ∃ n, n = ks.length := ⟨_, rfl⟩
  rw [← hn] at HC ⊢
  have hn0 : n ≤ 9223372036854775807 := by rw [hn]; exact hk.1
  clear hcl hcont h hP hki hk hmay hr hw1 hbp hbl hb1 hn hA
  by_cases h0 : 0 ≤ lv
  · by_cases h1 : lv < S.length
    · obtain ⟨i, rfl⟩ : ∃ i : Nat, lv = (i : Int) := ⟨lv.toNat, by omega⟩
      have hi : i < S.length := by omega
      have hx := hsc i hi
      obtain ⟨x, hxe⟩ : ∃ x, x = S[i]'hi := ⟨_, rfl⟩
      rw [← hxe] at hx
      have hsh : shapeA S (i : Int) n = decide ((n : Int) = x) := by
        unfold shapeA
        have e : S.getD (i : Int).toNat 0 = x := by rw [hxe, Int.toNat_natCast, getD_mem hi]
        rw [e]
        by_cases h : (n : Int) = x
        · rw [decide_eq_true h, decide_eq_true ⟨h0, h1, h⟩]
        · rw [decide_eq_false h, decide_eq_false (fun h2 => h h2.2.2)]
      rw [hsh]
      have d0 : decide ((i : Int) < 0) = false := decide_eq_false (by omega)
      have d1 : decide ((S.length : Int) ≤ (i : Int)) = false := decide_eq_false (by omega)
      have d1n : decide (S.length ≤ i) = false := decide_eq_false (by omega)
      clear hsh hxe hsc
      by_cases h2 : (n : Int) = x
      · have d2 : ((n : Int) != x) = false := by simp [h2]
        have d3 : decide ((n : Int) = x) = true := decide_eq_true h2
        have d4 : ((n : Int) == x) = true := by simp [h2]
        rw [d3]
        clear h2
        go_enter Try.func70, Try.ntmps70
        go_upto_region 1 with fail
        rw [← HBL.out, ← HBP.out, ← HW.out]
        go_big_quiet (fail)
        go_wp2_with (go_at_call 29; (with_reducible refine (HC.out _).mono ?_); rintro e w' ⟨rfl, q, rfl⟩)
        go_ret
        exact ⟨rfl, HB.out.trans (Drawn_below _ _)⟩
      · have d2 : ((n : Int) != x) = true := by simp [h2]
        have d3 : decide ((n : Int) = x) = false := decide_eq_false h2
        have d4 : ((n : Int) == x) = false := by simp [h2]
        rw [d3]
        clear h2
        go_enter Try.func70, Try.ntmps70
        go_upto_region 1 with fail
        rw [← HBL.out, ← HBP.out, ← HW.out]
        go_big_quiet (fail)
        go_wp2_with fail
        go_ret
        exact ⟨rfl, HB.out.trans (Drawn_below _ _)⟩
    · have hsh : shapeA S lv n = false := decide_eq_false (fun h => h1 h.2.1)
      rw [hsh]
      have d0 : decide (lv < 0) = false := decide_eq_false (by omega)
      have d1 : decide ((S.length : Int) ≤ lv) = true := decide_eq_true (by omega)
      go_enter Try.func70, Try.ntmps70
      go_upto_region 1 with fail
      rw [← HBL.out, ← HBP.out, ← HW.out]
      go_big_quiet (fail)
      go_wp2_with fail
      go_ret
      exact ⟨rfl, HB.out.trans (Drawn_below _ _)⟩
  · have hsh : shapeA S lv n = false := decide_eq_false (fun h => h0 h.1)
    rw [hsh]
    have d0 : decide (lv < 0) = true := decide_eq_true (by omega)
    go_enter Try.func70, Try.ntmps70
    go_upto_region 1 with fail
    rw [← HBL.out, ← HBP.out, ← HW.out]
    go_big_quiet (fail)
    go_wp2_with fail
    go_ret
    exact ⟨rfl, HB.out.trans (Drawn_below _ _)⟩
end
end Go.Proofs.Ytmfdcaalbpikpaa
namespace Go.Proofs.Ytmfdcaalbpikpaa
open Go.RowKit Go.WideMaps Go.Maps
set_option linter.unusedVariables false
set_option linter.unusedSimpArgs false
/-- what Make leaves: the arena with these nodes, in its blocks or new ones -/
def Grew (w w' : World) (b : Nat) (S : List Int) (M : Int) (N : List Nd) (z : List Nat) : Prop := ∃ z', PAt w' b S M N z' ∧ Mods (· ∈ z) w w' ∧ ∀ k ∈ z', k ∈ z ∨ w.heap.size ≤ k
theorem zeroI (w : World) : (zeroValue 3).run Try.prog w = .ok (.int .i64 0) w := by kernel_rfl
theorem law9 : Keyed Try.prog 9 := string_keyed Try.underlying9
section
variable {w w' : World} {b : Nat} {S : List Int} {M : Int} {L : List (Nd × Value)} {nv sv lv : Value} {mb : Nat} {rows : List Value} {cz : List Nat}
theorem PA.grew (h : PA w b S M L nv sv mb cz) (hb : Below w.heap.size w w') : Grew w w' b S M (nds L) (pz b mb nv cz) :=
  ⟨_, ⟨L, nv, sv, mb, cz, h.new hb, rfl, rfl⟩, Mods.of_new hb, fun k hk => .inl hk⟩
theorem keyOf_nd (nd : Nd) (h : nd.ks.length ≤ 256) : keyOf Try.prog 9 (.string ⟨(keyB nd).toArray⟩) = some (keyL nd) := by
  have e : (keyB nd).length = 1 + 2 * nd.ks.length := keyB_len nd.lv nd.ks
  refine Go.WideMaps.keyOf_string_mk Try.underlying9 ?_
  show (keyB nd).toArray.size ≤ maxLen
  rw [List.size_toArray, e]
  unfold maxLen
  omega
theorem oneA_any {ks : List Int} {y : Int} (h : y = ks.headD 0) : (!ks.any (fun x => !decide (x = y))) = oneA ks := by
  subst h
  exact any_not (p := fun x => decide (x = ks.headD 0)) ks
/-- what stays when the row of nodes grows, the field is set, the map takes one more -/
theorem PA.snoc {w0 w1 w2 w4 : World} {nd : Nd} {nv' : Value} {g c gk ck : Nat} {D : DataW Unit} (h : PA w0 b S M L nv sv mb cz) (h1 : Below w0.heap.size w0 w1)
    (hk : Row w1 3 1 (.slice (some ⟨gk, 0, none⟩) nd.ks.length ck) nd.ks.length (nd.ks.map (Value.int .i64))) (hgk : w0.heap.size ≤ gk) (hlen : nd.ks.length ≤ 256)
    (hr : Row w2 55 2 nv' (L.length + 1) (ndCells L ++ [.int .i64 nd.lv, .slice (some ⟨gk, 0, none⟩) nd.ks.length ck])) (hnv : nv' = .slice (some ⟨g, 0, none⟩) (L.length + 1) c) (hg : Mods (fun k => nv.ownBlock = some k) w1 w2) (hloc : nv.ownBlock = some g ∨ w1.heap.size ≤ g)
    (hm : w4.ownsMap Try.prog 9 (plainElem Try.prog 3) mb (L.length + 1) D) (hD : Found D (nds L ++ [nd])) (h4 : (w2.setCell ⟨b, 2, none⟩ nv').grownBy w4 (some mb)) (hgood : Good S M (nds L ++ [nd])) :
    Grew w0 w4 b S M (nds L ++ [nd]) (pz b mb nv cz) := by
  obtain ⟨n1, n2, n3⟩ := h.nvb
  have hbl := h.blk.lt
  have hml : mb < w0.heap.size := h.zlt (mem_pz.2 (.inr (.inl rfl)))
  have hgkl : gk < w1.heap.size := hk.lt gk rfl
  have s1 := h1.size
  have s2 := hg.size
  have s3 : (w2.setCell ⟨b, 2, none⟩ nv').heap.size = w2.heap.size := by simp [World.setCell]
  have s4 := h4.size
  rw [s3] at s4
  have gb : g ≠ b := fun e => by subst e; rcases hloc with e | e; exact n1 e; omega
  have gm : g ≠ mb := fun e => by subst e; rcases hloc with e | e; exact n2 e; omega
  have keep : ∀ k, k < w1.heap.size → k ≠ b → k ≠ mb → nv.ownBlock ≠ some k → w4.heap[k]? = w1.heap[k]? := fun k k1 k2 k3 k4 => by
    rw [h4.block k (by omega) (fun e => k3 (by cases e; rfl)), Below.heap_setCell _ _ _ _ k2, hg.block k k1 k4]
  have hcz : ∀ k ∈ cz, w4.heap[k]? = w0.heap[k]? := fun k hk => by
    obtain ⟨c1, c2, c3, c4⟩ := h.cold k hk
    rw [keep k (by omega) c1 c2 c3, h1.block k c4]
  have hnl : ∀ k, nv.ownBlock = some k → k < w0.heap.size := fun k hk => h.row.lt k hk
  have hb2 : Blk w2 b [sv, .int .i64 M, nv, .map (some mb)] 76 := (h.blk.below h1 hbl).mods hg (fun e => n1 e)
  refine ⟨pz b mb nv' (gk :: cz), ⟨L ++ [(nd, .slice (some ⟨gk, 0, none⟩) nd.ks.length ck)], nv', sv, mb, gk :: cz, ⟨?_, ?_, ?_, ?_, ?_, ?_, ?_⟩, by simp [nds], rfl⟩, ?_, ?_⟩
  · exact (hb2.set 2 nv').move (h4.block b (by omega) (fun e => n3 (by cases e; rfl)))
  · exact (h.s.move (w' := w4) (by omega) hcz).mono (fun k hk => List.mem_cons_of_mem _ hk)
  · rw [List.length_append, List.length_singleton, ndCells_append]
    refine hr.move fun k hk => ?_
    rw [hnv] at hk
    cases hk
    rw [h4.block g (by rw [s3]; exact hr.lt g (by rw [hnv]; rfl)) (fun e => gm (by cases e; rfl)), Below.heap_setCell _ _ _ _ gb]
  · intro p hp
    rcases List.mem_append.1 hp with hp | hp
    · exact ((h.kid p hp).move (w' := w4) (by omega) hcz).mono (fun k hk => List.mem_cons_of_mem _ hk)
    · simp at hp
      subst hp
      refine Row.kid (Row.move hk fun k hk => ?_) hlen (by simp)
      cases hk
      exact keep gk hgkl (by omega) (by omega) (fun e => by have := hnl gk e; omega)
  · exact ⟨D, by rw [List.length_append, List.length_singleton]; exact hm, by simpa [nds] using hD⟩
  · simpa [nds] using hgood
  · intro k hk
    have hg2 : ∀ k, nv'.ownBlock = some k → nv.ownBlock = some k ∨ w1.heap.size ≤ k := fun k e => by rw [hnv] at e; cases e; exact hloc
    rcases List.mem_cons.1 hk with rfl | hk
    · exact ⟨by omega, by omega, fun e => by rcases hg2 _ e with e | e; have := hnl _ e; omega; omega, by omega⟩
    · obtain ⟨c1, c2, c3, c4⟩ := h.cold k hk
      exact ⟨c1, c2, fun e => by rcases hg2 _ e with e | e; exact c3 e; omega, by omega⟩
  · have m1 : Mods (· ∈ pz b mb nv cz) w0 w1 := Mods.of_new h1
    have m2 := m1.trans hg (fun k _ e => mem_pz.2 (.inr (.inr (.inl e))))
    have m3 := m2.setCell (p := ⟨b, 2, none⟩) (fun _ => mem_pz.2 (.inl rfl)) nv'
    exact m3.grown h4 (fun k e _ => by cases e; exact mem_pz.2 (.inr (.inl rfl)))
  · intro k hk
    rcases mem_pz.1 hk with e | e | e | e
    · exact .inl (mem_pz.2 (.inl e))
    · exact .inl (mem_pz.2 (.inr (.inl e)))
    · rw [hnv] at e
      cases e
      rcases hloc with e | e
      · exact .inl (mem_pz.2 (.inr (.inr (.inl e))))
      · exact .inr (by show w0.heap.size ≤ g; omega)
    · rcases List.mem_cons.1 e with rfl | e
      · exact .inr hgk
      · exact .inl (mem_pz.2 (.inr (.inr (.inr e))))
end
end Go.Proofs.Ytmfdcaalbpikpaa
