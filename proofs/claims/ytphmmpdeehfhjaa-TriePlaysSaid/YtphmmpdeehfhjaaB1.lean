import Derived.Test.YtphmmpdeehfhjaaA9
namespace Go.Proofs.Ytphmmpdeehfhjaa
open Go.RowKit
set_option linter.unusedVariables false
set_option linter.unusedSimpArgs false
theorem LabsAt.mods {base : Nat} {S : Nat → Prop} {w w' : World} {A : Option Addr} {n : Nat} {xs : List Int} (h : LabsAt base w A n xs) (hm : Mods S w w') (hs : ∀ g o, A = some ⟨g, o, none⟩ → ¬ S g) : LabsAt base w' A n xs := by
  obtain ⟨h1, h2, h3⟩ := h
  refine ⟨h1, h2, fun hn => ?_⟩
  obtain ⟨g, o, hA, hg, hc⟩ := h3 hn
  refine ⟨g, o, hA, hg, fun j hj => ?_⟩
  have hl := World.block_lt_of_cell? w _ (hc j hj)
  exact (World.cell?_of_block (w := w) (a := ⟨g, o + j, none⟩) (hm.block g hl (hs g o hA))).trans (hc j hj)
/-- the state that Map's second closure goes on in: f: the trie's blocks -/
structure M2 (base bx : Nat) (A : Option Addr) (n c : Nat) (xs : List Int) (f : List Nat) (w : World) : Prop where
  x : Blk w bx [.slice A n c] 43
  l : LabsAt base w A n xs
  nx : ∀ k ∈ f, k ≠ bx
  na : ∀ g o, A = some ⟨g, o, none⟩ → g ∉ f
theorem M2.sub {base bx : Nat} {A : Option Addr} {n c : Nat} {xs : List Int} {f f' : List Nat} {w : World} (h : M2 base bx A n c xs f w) (hs : ∀ k ∈ f', k ∈ f) : M2 base bx A n c xs f' w :=
  ⟨h.x, h.l, fun k hk => h.nx k (hs k hk), fun g o e hg => h.na g o e (hs g hg)⟩
theorem M2.mods {base bx : Nat} {A : Option Addr} {n c : Nat} {xs : List Int} {f f' : List Nat} {w w' : World} (h : M2 base bx A n c xs f w) (hm : Mods (· ∈ f') w w') (hs : ∀ k ∈ f', k ∈ f) : M2 base bx A n c xs f w' :=
  ⟨h.x.mods hm (fun hk => h.nx _ (hs _ hk) rfl), h.l.mods hm (fun g o e hg => h.na g o e (hs g hg)), h.nx, h.na⟩
def remap (xs : List Int) (v : Int) : Int := xs.getD v.toNat 0
def All2Post (t' : Tr) (b : Nat) (f : List Nat) (w : World) (e : Ending) (w' : World) : Prop := e = .returned (.tuple #[]) ∧ At w' t' b f ∧ Mods (· ∈ f) w w'
theorem all2_any (base bx : Nat) (A : Option Addr) (n c : Nat) (xs : List Int) : ∀ (t : Tr) (a : Int) (d : Nat) (b : Nat) (f : List Nat) (w : World) (D : Int), D = d → At w t b f → M2 base bx A n c xs f w → t.ht + d ≤ 32 → 0 ≤ a → a + 2 ^ (32 - d) ≤ 4294967296 → a % 2 ^ (32 - d) = 0 →
    (∀ v ∈ t.labels, 0 ≤ v ∧ v < n) →
    Calls Try.prog 34 #[.pointer (some ⟨b, 0, none⟩), .int .i64 a, .int .i64 D, .func (.func 40) #[] #[.pointer (some ⟨bx, 0, none⟩)]] w (All2Post (t.map (remap xs)) b f w)
  | .leaf l, a, d, b, f, w, D, hD, ht, hO, hh, a0, a1, am, hn => by
    obtain ⟨rfl, hb⟩ := ht
    subst hD
    have hl := hn l (by simp [Tr.labels])
    obtain ⟨m, rfl⟩ := Int.eq_ofNat_of_zero_le hl.1
    have hc := Hid.mk_ (see2_any base b bx a d m n c A xs none none w hO.x hO.l (by omega) hb (hO.nx b (by simp)))
    have c1 : w.cell? ⟨b, 1, none⟩ = some (.pointer none) := hb.cell 1
    clear hl
    go_enter Try.func34, Try.ntmps34
    go_wp2_with (go_at_call 40; refine hc.out.mono ?_; rintro e w' ⟨rfl, h1, h2⟩)
    exact bodyPost_ret (results_none rfl _ _ _) rfl ⟨rfl, ⟨rfl, h1⟩, h2.mono (fun k _ hk => by simp [hk])⟩
  | .node l r, a, d, b, f, w, D, hD, ht, hO, hh, a0, a1, am, hn => by
    obtain ⟨x, bl, br, fl, fr, rfl, hb, hl, hr, hnn⟩ := ht
    have hd' := hnn
    simp only [List.nodup_cons, List.mem_append, List.nodup_append, not_or] at hd'
    obtain ⟨⟨hbl, hbr⟩, nl, nr, nlr⟩ := hd'
    simp only [Tr.ht] at hh
    simp only [Tr.labels, List.mem_append] at hn
    have hd : d ≤ 31 := by omega
    obtain ⟨s, hs⟩ : ∃ s : Int, s = 2 ^ (31 - d) := ⟨_, rfl⟩
    have hs2 : (2 : Int) ^ (32 - d) = s * 2 := by rw [hs, show 32 - d = (31 - d) + 1 from by omega, Int.pow_succ]
    have s1 : 1 ≤ s := by rw [hs]; exact by have := Int.pow_pos (n := 2) (m := 31 - d) (by decide); omega
    have ihl := Hid.mk_ (all2_any base bx A n c xs l a (d + 1) bl fl w (D + 1) (by omega) hl (hO.sub (fun k hk => by simp [hk])) (by omega) a0 (by rw [show 32 - (d + 1) = 31 - d from by omega, ← hs]; omega) (by rw [show 32 - (d + 1) = 31 - d from by omega, ← hs]; rw [hs2] at am; exact Int.emod_eq_zero_of_dvd (Int.dvd_trans ⟨2, rfl⟩ (Int.dvd_of_emod_eq_zero am))) (fun v hv => hn v (.inl hv)))
    have ihr := Hid.mk_ (fun w1 d' => all2_any base bx A n c xs r (a + s) d' br fr w1 (D + 1))
    have eor : bits .or .i64 a s = a + s := by rw [hs]; exact or_pow a d hd a0 a1 am
    have e1 : IntKind.i64.wrap (31 - D) = ((31 - d : Nat) : Int) := by rw [IntKind.wrap_i64]; omega
    have e2 : IntKind.i64.wrap (D + 1) = D + 1 := by rw [IntKind.wrap_i64]; omega
    have e3 : IntKind.i64.wrap (2 ^ (31 - d)) = s := by rw [← hs, IntKind.wrap_i64]; omega
    have HS := Hid.mk_ hs
    have c1 : w.cell? ⟨b, 1, none⟩ = some (.pointer (some ⟨bl, 0, none⟩)) := hb.cell 1
    have hd1 : d ≤ 32 := by omega
    have HA1 : Hid (a + s + s ≤ 4294967296) := by rw [hs2] at a1; show _ ≤ _; omega
    have HAM : Hid ((a + s) % s = 0) := by rw [hs2] at am; show _ % _ = _; rw [Int.add_emod_right]; exact Int.emod_eq_zero_of_dvd (Int.dvd_trans ⟨2, rfl⟩ (Int.dvd_of_emod_eq_zero am))
    have hD1 : D ≤ d := by omega
    have hD2 : d ≤ D := by omega
    clear hs hs2 am hD
    go_enter Try.func34, Try.ntmps34
    go_wp2_with (go_at_call 34; refine ihl.out.mono ?_; rintro e w1 ⟨rfl, h1, h2⟩; have hb1 := hb.mods h2 hbl; have c1' : w1.cell? ⟨b, 1, none⟩ = some (.pointer (some ⟨bl, 0, none⟩)) := hb1.cell 1; have c2' : w1.cell? ⟨b, 2, none⟩ = some (.pointer (some ⟨br, 0, none⟩)) := hb1.cell 2)
    go_region_held3 (fun w' => w'.cell? ⟨b, 1, none⟩ = some (.pointer (some ⟨bl, 0, none⟩)) ∧ w'.cell? ⟨b, 2, none⟩ = some (.pointer (some ⟨br, 0, none⟩))) (first | assumption | go_keep)
      (first | (go_at_call 34; refine (ihr.out w1.drew (d + 1) (by omega) (hr.mods h2.drew (fun k hk hk2 => nlr k hk2 k hk rfl)) ((hO.mods h2.drew (fun k hk => by simp [hk])).sub (fun k hk => by simp [hk])) (by omega) (by omega) (by rw [show 32 - (d + 1) = 31 - d from by omega, ← HS.out]; exact HA1.out) (by rw [show 32 - (d + 1) = 31 - d from by omega, ← HS.out]; exact HAM.out) (fun v hv => hn v (.inr hv))).mono ?_; rintro e w2 ⟨rfl, h3, h4⟩; have hb2 := hb1.drew.mods h4 hbr; have hK := And.intro (hb2.cell 1) (hb2.cell 2)))
    go_wp2_with fail
    exact bodyPost_end (results_none rfl _ _ _) rfl ⟨rfl, ⟨x, bl, br, fl, fr, rfl, hb2, (show At w1.drew _ _ _ from h1.move (fun _ _ => rfl)).mods (S := (· ∈ fr)) h4 (fun k hk hk2 => nlr k hk k hk2 rfl), h3, hnn⟩, (h2.drew.mono (fun k _ hk => by simp [hk])).trans h4 (fun k _ hk => by simp [hk])⟩
#print axioms all2_any
/-! Trie.Map -/
theorem LabsAt.alloc {base : Nat} {w : World} {A : Option Addr} {n : Nat} {xs : List Int} (h : LabsAt base w A n xs) (hb : base ≤ w.heap.size) (o : Obj) : LabsAt base (w.alloc o) A n xs :=
  h.below ((Below.refl _ _).alloc hb o)
theorem M1.start {w : World} {A : Option Addr} {n c : Nat} {xs : List Int} (h : LabsAt w.heap.size w A n xs) :
    M1 w.heap.size (w.heap.size + 1) w.heap.size A n c xs ((w.alloc (.cells #[.slice A n c] 43)).alloc (.cells #[.bool true] 4)) true := by
  refine ⟨?_, (Blk.new w [.slice A n c] 43).alloc _, (h.alloc (Nat.le_refl _) _).alloc (by simp) _⟩
  have h := Blk.new (w.alloc (.cells #[.slice A n c] 43)) [.bool true] 4
  rw [World.size_alloc] at h
  exact h
theorem tmap_no (t : Tr) (a : Nat) (fp : List Nat) (A : Option Addr) (n c : Nat) (xs : List Int) (w : World) (h : TrieAt w t a fp) (hh : t.ht ≤ 32) (hl : ∀ v ∈ t.labels, 0 ≤ v) (hL : LabsAt w.heap.size w A n xs) (hg : (t.labels.all fun v => good n xs v.toNat) = false) :
    Calls Try.prog 23 #[.pointer (some ⟨a, 0, none⟩), .slice A n c] w fun e w' => e = .returned (.int .i64 1) ∧ Below w.heap.size w w' := by
  obtain ⟨b, f, rfl, ha, ht, hn⟩ := h
  have ca : w.cell? ⟨a, 0, none⟩ = some (.pointer (some ⟨b, 0, none⟩)) := ha.cell 0
  have halt := ha.lt
  have n1 : ¬ a = w.heap.size := by omega
  have n2 : ¬ a = w.heap.size + 1 := by omega
  have hc := Hid.mk_ (all1_any w.heap.size (w.heap.size + 1) w.heap.size A n c xs (by omega) (by omega) (by omega) t 0 0 b f ((w.alloc (.cells #[.slice A n c] 43)).alloc (.cells #[.bool true] 4)) true 0 rfl
    (ht.move (fun k hk => by have := ht.lt k hk; rw [Below.heap_alloc _ _ _ (by simp; omega), Below.heap_alloc _ _ _ this])) ht.lt (M1.start hL) (by omega) (by decide) (by decide) (by decide) hl)
  rw [hg] at hc
  clear hg hL hl
  go_enter Try.func23, Try.ntmps23
  go_wp2_with (go_at_call 34; refine hc.out.mono ?_; rintro e w1 ⟨rfl, h1, h2⟩; have co : w1.cell? ⟨w.heap.size + 1, 0, none⟩ = some (.bool false) := h1.o.cell 0)
  go_ret
  exact ⟨rfl, ((((Below.refl _ _).alloc (Nat.le_refl _) _).alloc (by simp) _).trans h2)⟩
def TmapPost (w : World) (t' : Tr) (a : Nat) (fp : List Nat) (e : Ending) (w' : World) : Prop :=
  ∃ fp', e = .returned (.int .i64 0) ∧ TrieAt w' t' a fp' ∧ (∀ k ∈ fp', k ∈ fp) ∧ Mods (· ∈ fp) w w'
theorem tmap_yes (t : Tr) (a : Nat) (fp : List Nat) (A : Option Addr) (n c : Nat) (xs : List Int) (w : World) (h : TrieAt w t a fp) (hh : t.ht ≤ 32) (hl : ∀ v ∈ t.labels, 0 ≤ v) (hL : LabsAt w.heap.size w A n xs) (hap : ∀ g o, A = some ⟨g, o, none⟩ → g ∉ fp) (hg : (t.labels.all fun v => good n xs v.toNat) = true) :
    Calls Try.prog 23 #[.pointer (some ⟨a, 0, none⟩), .slice A n c] w (TmapPost w (t.map (remap xs)).tidy a fp) := by
  obtain ⟨b, f, rfl, ha, ht, hn⟩ := h
  have ca : w.cell? ⟨a, 0, none⟩ = some (.pointer (some ⟨b, 0, none⟩)) := ha.cell 0
  have halt := ha.lt
  have n1 : ¬ a = w.heap.size := by omega
  have n2 : ¬ a = w.heap.size + 1 := by omega
  have hc := Hid.mk_ (all1_any w.heap.size (w.heap.size + 1) w.heap.size A n c xs (by omega) (by omega) (by omega) t 0 0 b f ((w.alloc (.cells #[.slice A n c] 43)).alloc (.cells #[.bool true] 4)) true 0 rfl
    (ht.move (fun k hk => by have := ht.lt k hk; rw [Below.heap_alloc _ _ _ (by simp; omega), Below.heap_alloc _ _ _ this])) ht.lt (M1.start hL) (by omega) (by decide) (by decide) (by decide) hl)
  have hl2 : ∀ v ∈ t.labels, 0 ≤ v ∧ v < n := fun v hv => by
    have h1 := List.all_eq_true.1 hg v hv
    have h2 := hl v hv
    simp [good] at h1
    omega
  rw [hg] at hc
  have hc2 := Hid.mk_ (fun w1 => all2_any w.heap.size w.heap.size A n c xs t 0 0 b f w1 0 rfl)
  have hc3 := Hid.mk_ (fun w1 => tidies_any (t.map (remap xs)) b f w1)
  have HL2 := Hid.mk_ hl2
  have HAP := Hid.mk_ hap
  have HT := Hid.mk_ ht
  clear hg hL hl hl2 hap ht
  go_enter Try.func23, Try.ntmps23
  go_wp2_with fail
  refine hc.out.mono ?_
  rintro e w1 ⟨rfl, h1, h2⟩
  have co : w1.cell? ⟨w.heap.size + 1, 0, none⟩ = some (.bool true) := h1.o.cell 0
  have ha1 := ha.below ((((Below.refl w.heap.size w).alloc (Nat.le_refl _) _).alloc (by simp) _).trans h2) halt
  have ca1 : w1.cell? ⟨a, 0, none⟩ = some (.pointer (some ⟨b, 0, none⟩)) := ha1.cell 0
  have hB1 : Below w.heap.size w w1 := (((Below.refl w.heap.size w).alloc (Nat.le_refl _) _).alloc (by simp) _).trans h2
  go_wp2_with fail
  refine (hc2.out w1 (HT.out.move (fun k hk => hB1.block k (HT.out.lt k hk))) ⟨h1.x, h1.l, fun k hk e => by have := HT.out.lt k hk; omega, fun g o e hk => HAP.out g o e (by simp [hk])⟩ (by omega) (by decide) (by decide) (by decide) HL2.out).mono ?_
  rintro e w2 ⟨rfl, h3, h4⟩
  have ha2 := ha1.mods h4 hn
  have ca2 : w2.cell? ⟨a, 0, none⟩ = some (.pointer (some ⟨b, 0, none⟩)) := ha2.cell 0
  go_wp2_with fail
  refine (hc3.out w2 h3).mono ?_
  rintro e w3 ⟨rfl, f3, h5, h6, h7⟩
  have ha3 := ha2.mods h7 hn
  go_wp2_with fail
  go_ret
  refine ⟨a :: f3, rfl, ⟨b, f3, rfl, ha3, h5, fun hk => hn (h6 a hk)⟩, ?_, ?_⟩
  · intro k hk
    simp at hk ⊢
    exact hk.imp id (h6 k)
  · exact ((Mods.of_new hB1).trans h4 (fun k _ hk => by simp [hk])).trans h7 (fun k _ hk => by simp [hk])
end Go.Proofs.Ytphmmpdeehfhjaa
