import Derived.Test.YtphmmpdeehfhjaaA8
namespace Go.Proofs.Ytphmmpdeehfhjaa
open Go.RowKit
set_option linter.unusedVariables false
set_option linter.unusedSimpArgs false
/-- the state that Map's first closure goes on in -/
structure M1 (base bo bx : Nat) (A : Option Addr) (n c : Nat) (xs : List Int) (w : World) (ok : Bool) : Prop where
  o : Blk w bo [.bool ok] 4
  x : Blk w bx [.slice A n c] 43
  l : LabsAt base w A n xs
def All1Post (base bo bx : Nat) (A : Option Addr) (n c : Nat) (xs : List Int) (w : World) (ok : Bool) (e : Ending) (w' : World) : Prop := e = .returned (.tuple #[]) ∧ M1 base bo bx A n c xs w' ok ∧ Below base w w'
theorem all1_any (base bo bx : Nat) (A : Option Addr) (n c : Nat) (xs : List Int) (hbo : base ≤ bo) (hbx : base ≤ bx) (hne : bo ≠ bx) : ∀ (t : Tr) (a : Int) (d : Nat) (b : Nat) (f : List Nat) (w : World) (ok : Bool) (D : Int), D = d → At w t b f → (∀ k ∈ f, k < base) → M1 base bo bx A n c xs w ok → t.ht + d ≤ 32 → 0 ≤ a → a + 2 ^ (32 - d) ≤ 4294967296 → a % 2 ^ (32 - d) = 0 →
    (∀ v ∈ t.labels, 0 ≤ v) →
    Calls Try.prog 34 #[.pointer (some ⟨b, 0, none⟩), .int .i64 a, .int .i64 D, .func (.func 39) #[] #[.pointer (some ⟨bo, 0, none⟩), .pointer (some ⟨bx, 0, none⟩)]] w (All1Post base bo bx A n c xs w (ok && t.labels.all fun v => good n xs v.toNat))
  | .leaf l, a, d, b, f, w, ok, D, hD, ht, hlt, hO, hh, a0, a1, am, hn => by
    obtain ⟨rfl, hb⟩ := ht
    subst hD
    obtain ⟨m, rfl⟩ := Int.eq_ofNat_of_zero_le (hn l (by simp [Tr.labels]))
    have hc := Hid.mk_ (see1_any (a := a) (d := d) ok hO.o hO.x hO.l hb)
    have c1 : w.cell? ⟨b, 1, none⟩ = some (.pointer none) := hb.cell 1
    go_enter Try.func34, Try.ntmps34
    go_wp2_with (go_at_call 39; refine hc.out.mono ?_; rintro e w' ⟨rfl, h1, h2⟩)
    have hB := h2.below (B := base) (by have := hO.o.lt; omega) (fun k _ hk => by omega)
    refine bodyPost_ret (results_none rfl _ _ _) rfl ⟨rfl, ⟨by simpa [Tr.labels] using h1, hO.x.mods h2 (fun e => hne e.symm), hO.l.below hB⟩, hB⟩
  | .node l r, a, d, b, f, w, ok, D, hD, ht, hlt, hO, hh, a0, a1, am, hn => by
    obtain ⟨x, bl, br, fl, fr, rfl, hb, hl, hr, hnn⟩ := ht
    simp only [Tr.ht] at hh
    simp only [Tr.labels, List.mem_append] at hn
    have hd : d ≤ 31 := by omega
    obtain ⟨s, hs⟩ : ∃ s : Int, s = 2 ^ (31 - d) := ⟨_, rfl⟩
    have hs2 : (2 : Int) ^ (32 - d) = s * 2 := by rw [hs, show 32 - d = (31 - d) + 1 from by omega, Int.pow_succ]
    have s1 : 1 ≤ s := by rw [hs]; exact by have := Int.pow_pos (n := 2) (m := 31 - d) (by decide); omega
    have ihl := Hid.mk_ (all1_any base bo bx A n c xs hbo hbx hne l a (d + 1) bl fl w ok (D + 1) (by omega) hl (fun k hk => hlt k (by simp [hk])) hO (by omega) a0 (by rw [show 32 - (d + 1) = 31 - d from by omega, ← hs]; omega) (by rw [show 32 - (d + 1) = 31 - d from by omega, ← hs]; rw [hs2] at am; exact Int.emod_eq_zero_of_dvd (Int.dvd_trans ⟨2, rfl⟩ (Int.dvd_of_emod_eq_zero am))) (fun v hv => hn v (.inl hv)))
    have ihr := Hid.mk_ (fun w1 d' => all1_any base bo bx A n c xs hbo hbx hne r (a + s) d' br fr w1 (ok && l.labels.all fun v => good n xs v.toNat) (D + 1))
    have eor : bits .or .i64 a s = a + s := by rw [hs]; exact or_pow a d hd a0 a1 am
    have e1 : IntKind.i64.wrap (31 - D) = ((31 - d : Nat) : Int) := by rw [IntKind.wrap_i64]; omega
    have e2 : IntKind.i64.wrap (D + 1) = D + 1 := by rw [IntKind.wrap_i64]; omega
    have e3 : IntKind.i64.wrap (2 ^ (31 - d)) = s := by rw [← hs, IntKind.wrap_i64]; omega
    have HS := Hid.mk_ hs
    have c1 : w.cell? ⟨b, 1, none⟩ = some (.pointer (some ⟨bl, 0, none⟩)) := hb.cell 1
    have hd1 : d ≤ 32 := by omega
    have HA1 : Hid (a + s + s ≤ 4294967296) := by rw [hs2] at a1; show _ ≤ _; omega
    have HAM : Hid ((a + s) % s = 0) := by rw [hs2] at am; show _ % _ = _; rw [Int.add_emod_right]; exact Int.emod_eq_zero_of_dvd (Int.dvd_trans ⟨2, rfl⟩ (Int.dvd_of_emod_eq_zero am))
    have hD1 : D ≤ d := by omega
    have hD2 : d ≤ D := by omega
    clear hs hs2 am hD
    go_enter Try.func34, Try.ntmps34
    go_wp2_with (go_at_call 34; refine ihl.out.mono ?_; rintro e w1 ⟨rfl, h1, h2⟩; have hb1 := hb.below h2 (hlt b (by simp)); have c1' : w1.cell? ⟨b, 1, none⟩ = some (.pointer (some ⟨bl, 0, none⟩)) := hb1.cell 1; have c2' : w1.cell? ⟨b, 2, none⟩ = some (.pointer (some ⟨br, 0, none⟩)) := hb1.cell 2)
    go_region_held3 (fun w' => w'.cell? ⟨b, 1, none⟩ = some (.pointer (some ⟨bl, 0, none⟩)) ∧ w'.cell? ⟨b, 2, none⟩ = some (.pointer (some ⟨br, 0, none⟩))) (first | assumption | go_keep)
      (first | (go_at_call 34; refine (ihr.out w1.drew (d + 1) (by omega) (hr.move (fun k hk => h2.block k (hlt k (by simp [hk])))) (fun k hk => hlt k (by simp [hk])) ⟨h1.o.drew, h1.x.drew, h1.l⟩ (by omega) (by omega) (by rw [show 32 - (d + 1) = 31 - d from by omega, ← HS.out]; exact HA1.out) (by rw [show 32 - (d + 1) = 31 - d from by omega, ← HS.out]; exact HAM.out) (fun v hv => hn v (.inr hv))).mono ?_; rintro e w2 ⟨rfl, h3, h4⟩; have hb2 := hb1.drew.below h4 (hlt b (by simp)); have hK := And.intro (hb2.cell 1) (hb2.cell 2)))
    go_wp2_with fail
    refine bodyPost_end (results_none rfl _ _ _) rfl ⟨rfl, ?_, (h2.drew).trans h4⟩
    rw [Tr.labels, List.all_append, ← Bool.and_assoc]
    exact h3
#print axioms all1_any
end Go.Proofs.Ytphmmpdeehfhjaa
