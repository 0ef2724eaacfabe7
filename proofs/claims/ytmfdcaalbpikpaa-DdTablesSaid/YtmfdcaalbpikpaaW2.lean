/- An operation's put, its end. -/
import Derived.Test.YtmfdcaalbpikpaaW1
namespace Go.Proofs.Ytmfdcaalbpikpaa
open Go.RowKit Go.Maps
set_option linter.unusedVariables false
set_option linter.unusedSimpArgs false
section
variable {w w' : World} {b ab mk : Nat} {e : Int} {S : List Int} {M : Int} {N : List Nd} {z : List Nat} {D : DataW Unit} {A : Option Addr} {c : Nat} {ks : List Int}
theorem MemGrew.refl (h : Mem w b ab mk e S M N z D) : MemGrew w w b ab mk e S M N z D := ⟨z, h, Mods.refl _ _, fun k hk => .inl hk⟩
def PutPost (w : World) (b ab mk : Nat) (S : List Int) (M : Int) (z : List Nat) (D : DataW Unit) (R : Out) (e : Ending) (w' : World) : Prop :=
  e = .returned (.int .i64 R.2.1) ∧ MemGrew w w' b ab mk R.2.2 S M R.1 z D
theorem put_any (h : Mem w b ab mk 0 S M N z D) (lv : Int) (hk : IntsIn w A ks) (hA : ∀ g o, A = some ⟨g, o, none⟩ → g < w.heap.size) :
    Calls Try.prog 75 #[.pointer (some ⟨b, 0, none⟩), .int .i64 lv, .slice A ks.length c] w (PutPost w b ab mk S M z D (makeA S M N lv ks)) := by
  have x0 := h.c0
  have x2 := h.c2
  have hbl := h.blk.lt
  have HM := Hid.mk_ (make_at (c := c) h.pa lv hk hA)
  have HH := Hid.mk_ h
  obtain ⟨R, hR⟩ : ∃ R, R = makeA S M N lv ks := ⟨_, rfl⟩
  unfold MakePost at HM
  rw [← hR] at HM ⊢
  obtain ⟨N', r, er⟩ := R
  simp only at HM
  clear h hk hA hR
  go_enter Try.func75, Try.ntmps75
  go_upto_region 4 with (go_at_call 58; (with_reducible refine HM.out.mono ?_); rintro e w2 ⟨rfl, hg⟩; have HG := Hid.mk_ hg; clear hg)
  have hgr := HH.out.grew HG.out
  obtain ⟨z', hm2, hmo, hz⟩ := hgr
  have f2 := hm2.blk.free 2
  have y2 := hm2.c2
  have hbl2 := hm2.blk.lt
  have HM2 := Hid.mk_ hm2
  have HMO := Hid.mk_ hmo
  have HZ := Hid.mk_ hz
  clear hm2 hmo hz x0 x2 hbl
  go_wp2_with fail
  go_ret
  refine ⟨rfl, z', HM2.out.setE er, ?_, HZ.out⟩
  exact (HMO.out.mono (fun k _ hk => by simp [mzs, hk])).setCell (fun _ => by simp [mzs]) _
/-- what an operation answers: nothing is left of what was made, if there was no room -/
def outA (N : List Nd) (x : Out) : Out := if x.2.2 = 0 then x else (N, 0, x.2.2)
def EndsPost (w : World) (ab b mk : Nat) (S : List Int) (M : Int) (N : List Nd) (z : List Nat) (r e : Int) (e' : Ending) (w' : World) : Prop :=
  e' = .returned (.tuple #[.int .i64 r, .int .i64 e]) ∧ Grew w w' ab S M N z
theorem ends_any {N0 : List Nd} {r : Int} (h : Mem w b ab mk e S M N z D) (hN : N0 <+: N) (he : e ≠ 0 → r = 0) :
    Calls Try.prog 61 #[.pointer (some ⟨b, 0, none⟩), .int .i64 r, .int .i64 (N0.length : Int)] w (EndsPost w ab b mk S M (outA N0 (N, r, e)).1 z (outA N0 (N, r, e)).2.1 e) := by
  have x0 := h.c0
  have x2 := h.c2
  have hbl := h.blk.lt
  by_cases h0 : e = 0
  · subst h0
    have hp := h.pa
    have HP := Hid.mk_ hp
    clear hp h he
    go_enter Try.func61, Try.ntmps61
    go_wp2_with fail
    go_ret2
    exact ⟨rfl, z, HP.out, Mods.refl _ _, fun k hk => .inl hk⟩
  · have t1 : (e != 0) = true := by simpa using h0
    have t2 : (!(e == 0)) = true := by simpa using h0
    have HB := Hid.mk_ (back_at h.pa (N0.length : Int))
    have eb : backA N (N0.length : Int) = (N0, 0) := by
      unfold backA
      rw [if_pos ⟨by omega, by have := hN.length_le; omega⟩]
      obtain ⟨t, rfl⟩ := hN
      simp
    rw [eb] at HB
    have eo : outA N0 (N, r, e) = (N0, 0, e) := by unfold outA; rw [if_neg h0]
    rw [eo]
    have HH := Hid.mk_ h
    clear h eb eo he hN
    go_enter Try.func61, Try.ntmps61
    go_upto_region 3 with (go_at_call 55; (with_reducible refine HB.out.mono ?_); rintro e1 w2 ⟨rfl, hg⟩; have HG := Hid.mk_ hg; clear hg)
    have hgr := HH.out.grew HG.out
    obtain ⟨z', hm2, hmo, hz⟩ := hgr
    have y2 := hm2.c2
    have hbl2 := hm2.blk.lt
    clear hm2 hmo hz x0 x2 hbl
    go_big_quiet (fail)
    go_wp2_with fail
    go_ret2
    refine ⟨rfl, ?_⟩
    obtain ⟨z', hp, hm, hz⟩ := HG.out
    exact ⟨z', hp.new (Drawn_below _ _), hm.drewN _, hz⟩
end
end Go.Proofs.Ytmfdcaalbpikpaa
