/- An operation at work: its memory (an arena, a map of pairs, an error); begin, kid, put, ends, leaf. -/
import Derived.Test.YtmfdcaalbpikpaaC9
import Derived.Test.YtmfdcaalbpikpaaQ5
namespace Go.Proofs.Ytmfdcaalbpikpaa
open Go.RowKit Go.Maps
set_option linter.unusedVariables false
set_option linter.unusedSimpArgs false
section
variable {w w' : World} {b : Nat} {S : List Int} {M : Int} {N : List Nd} {z : List Nat} {A : Option Addr} {c : Nat} {ks : List Int}
theorem PAt.good (h : PAt w b S M N z) : Good S M N := by obtain ⟨L, nv, sv, mb, cz, h1, rfl, rfl⟩ := h; exact h1.good
theorem PAt.new (h : PAt w b S M N z) (hb : Below w.heap.size w w') : PAt w' b S M N z := by obtain ⟨L, nv, sv, mb, cz, h1, e1, e2⟩ := h; exact ⟨L, nv, sv, mb, cz, h1.new hb, e1, e2⟩
theorem PAt.move (h : PAt w b S M N z) (hs : w.heap.size ≤ w'.heap.size) (hm : ∀ k ∈ z, w'.heap[k]? = w.heap[k]?) : PAt w' b S M N z := by obtain ⟨L, nv, sv, mb, cz, h1, e1, rfl⟩ := h; exact ⟨L, nv, sv, mb, cz, h1.move hs hm, e1, rfl⟩
theorem PAt.zlt (h : PAt w b S M N z) {k : Nat} (hk : k ∈ z) : k < w.heap.size := by obtain ⟨L, nv, sv, mb, cz, h1, e1, rfl⟩ := h; exact h1.zlt hk
theorem PAt.bz (h : PAt w b S M N z) : b ∈ z := by obtain ⟨L, nv, sv, mb, cz, h1, e1, rfl⟩ := h; exact mem_pz.2 (.inl rfl)
theorem has_at (h : PAt w b S M N z) (f : Int) : Calls Try.prog 46 #[.pointer (some ⟨b, 0, none⟩), .int .i64 f] w fun e w' => e = .returned (.bool (hasA N f)) ∧ w = w' := by
  obtain ⟨L, nv, sv, mb, cz, h1, rfl, e2⟩ := h; exact has_pa h1 f
theorem level_at (h : PAt w b S M N z) (f : Int) : Calls Try.prog 73 #[.pointer (some ⟨b, 0, none⟩), .int .i64 f] w fun e w' => e = .returned (.int .i64 (lvl S.length N f)) ∧ w = w' := by
  obtain ⟨L, nv, sv, mb, cz, h1, rfl, e2⟩ := h; exact level_pa h1 f
theorem len_at (h : PAt w b S M N z) : Calls Try.prog 16 #[.pointer (some ⟨b, 0, none⟩)] w fun e w' => e = .returned (.int .i64 (N.length : Int)) ∧ w = w' := by
  obtain ⟨L, nv, sv, mb, cz, h1, rfl, e2⟩ := h; exact len_pa h1
theorem sizes_at (h : PAt w b S M N z) : Calls Try.prog 44 #[.pointer (some ⟨b, 0, none⟩)] w fun e w' => ∃ v, e = .returned v ∧ Fresh w w' v S ∧ Below w.heap.size w w' := by
  obtain ⟨L, nv, sv, mb, cz, h1, rfl, e2⟩ := h; exact sizes_pa h1
theorem make_at (h : PAt w b S M N z) (lv : Int) (hk : IntsIn w A ks) (hA : ∀ g o, A = some ⟨g, o, none⟩ → g < w.heap.size) : Calls Try.prog 58 #[.pointer (some ⟨b, 0, none⟩), .int .i64 lv, .slice A ks.length c] w (MakePost w b S M N z lv ks) := by
  obtain ⟨L, nv, sv, mb, cz, h1, rfl, rfl⟩ := h; exact make_pa h1 lv hk hA
theorem back_at (h : PAt w b S M N z) (n : Int) : Calls Try.prog 55 #[.pointer (some ⟨b, 0, none⟩), .int .i64 n] w fun e w' => e = .returned (.int .i64 (backA N n).2) ∧ Grew w w' b S M (backA N n).1 z := by
  obtain ⟨L, nv, sv, mb, cz, h1, rfl, rfl⟩ := h; exact back_pa h1 n
def NodePost (w : World) (l : Int) (ks : List Int) (e : Ending) (w' : World) : Prop := ∃ v, e = .returned (.tuple #[.agg #[.int .i64 l, v], .int .i64 0]) ∧ Fresh w w' v ks ∧ Below w.heap.size w w'
theorem node_at {f l : Int} (h : PAt w b S M N z) (ha : At S N f l ks) : Calls Try.prog 17 #[.pointer (some ⟨b, 0, none⟩), .int .i64 f] w (NodePost w l ks) := by
  obtain ⟨L, nv, sv, mb, cz, h1, rfl, rfl⟩ := h
  have hlt := ha.lt
  rw [nds_length] at hlt
  have hi : (f - 2).toNat < L.length := by omega
  have := node_pa_in h1 (f - 2).toNat hi
  rw [show (((f - 2).toNat : Nat) : Int) + 2 = f by omega] at this
  have e := ha.nd
  rw [nds_get L _ hi] at e
  rw [← e] at this
  exact this
end
theorem row3 {w : World} {g c : Nat} {ks : List Int} (h : Row w 3 1 (.slice (some ⟨g, 0, none⟩) ks.length c) ks.length (ks.map (Value.int .i64))) : ∀ j (hj : j < ks.length), w.cell? ⟨g, j, none⟩ = some (.int .i64 (ks[j]'hj)) := fun j hj => by
  rw [h.cell j (by omega)]
  simp [hj]
/-- an operation's memory -/
structure Mem (w : World) (b ab mk : Nat) (e : Int) (S : List Int) (M : Int) (N : List Nd) (z : List Nat) (D : DataW Unit) : Prop where
  blk : Blk w b [.pointer (some ⟨ab, 0, none⟩), .map (some mk), .int .i64 e] 112
  pa : PAt w ab S M N z
  map : w.ownsMap Try.prog 114 (plainElem Try.prog 3) mk 67141636 D
  bm : b ≠ mk
  bz : b ∉ z
  mz : mk ∉ z
def mzs (b mk : Nat) (z : List Nat) : List Nat := b :: mk :: z
theorem owns114_move {w w' : World} {mb n : Nat} {D : DataW Unit} (h : w.ownsMap Try.prog 114 (plainElem Try.prog 3) mb n D) (hm : w'.heap[mb]? = w.heap[mb]?) : w'.ownsMap Try.prog 114 (plainElem Try.prog 3) mb n D := by
  obtain ⟨es, clock, hb, h2⟩ := h
  exact ⟨es, clock, hm.trans hb, h2⟩
section
variable {w w' : World} {b ab mk : Nat} {e : Int} {S : List Int} {M : Int} {N : List Nd} {z : List Nat} {D : DataW Unit}
theorem Mem.move (h : Mem w b ab mk e S M N z D) (hs : w.heap.size ≤ w'.heap.size) (hm : ∀ k ∈ mzs b mk z, w'.heap[k]? = w.heap[k]?) : Mem w' b ab mk e S M N z D :=
  ⟨h.blk.move (hm b (by simp [mzs])), h.pa.move hs (fun k hk => hm k (by simp [mzs, hk])), owns114_move h.map (hm mk (by simp [mzs])), h.bm, h.bz, h.mz⟩
theorem Mem.zlt (h : Mem w b ab mk e S M N z D) {k : Nat} (hk : k ∈ mzs b mk z) : k < w.heap.size := by
  simp only [mzs, List.mem_cons] at hk
  rcases hk with rfl | rfl | hk
  · exact h.blk.lt
  · exact h.map.lt
  · exact h.pa.zlt hk
theorem Mem.new (h : Mem w b ab mk e S M N z D) (hb : Below w.heap.size w w') : Mem w' b ab mk e S M N z D := h.move hb.size fun k hk => hb.block k (h.zlt hk)
theorem Mem.c0 (h : Mem w b ab mk e S M N z D) : w.cell? ⟨b, 0, none⟩ = some (.pointer (some ⟨ab, 0, none⟩)) := h.blk.cell 0
theorem Mem.c1 (h : Mem w b ab mk e S M N z D) : w.cell? ⟨b, 1, none⟩ = some (.map (some mk)) := h.blk.cell 1
theorem Mem.c2 (h : Mem w b ab mk e S M N z D) : w.cell? ⟨b, 2, none⟩ = some (.int .i64 e) := h.blk.cell 2
theorem Mem.abz (h : Mem w b ab mk e S M N z D) : ab ∈ z := h.pa.bz
def BeginPost (w : World) (ab : Nat) (S : List Int) (M : Int) (N : List Nd) (z : List Nat) (e : Ending) (w' : World) : Prop :=
  ∃ b mk, e = .returned (.pointer (some ⟨b, 0, none⟩)) ∧ Mem w' b ab mk 0 S M N z (.map []) ∧ w.heap.size ≤ b ∧ w.heap.size ≤ mk ∧ Below w.heap.size w w'
theorem begin_any (h : PAt w ab S M N z) : Calls Try.prog 60 #[.pointer (some ⟨ab, 0, none⟩)] w (BeginPost w ab S M N z) := by
  have hm := World.ownsMap_made (H := Unit) w Try.prog 114 (plainElem Try.prog 3)
  have HM := Hid.mk_ (hm.mono (n' := 67141636) (by omega))
  have HH := Hid.mk_ h
  have hmm := @run_makeMap Try.prog
  clear hm h
  go_enter Try.func60, Try.ntmps60
  go_wp2_with fail
  go_ret
  have h1 : Below w.heap.size w (w.alloc (.map #[] 0)) := (Below.refl _ _).alloc (Nat.le_refl _) _
  have h2 : Below w.heap.size w ((w.alloc (.map #[] 0)).alloc (.cells #[.pointer (some ⟨ab, 0, none⟩), .map (some w.heap.size), .int .i64 0] 112)) := h1.alloc (by simp) _
  refine ⟨_, w.heap.size, rfl, ⟨by have := Blk.new (w.alloc (.map #[] 0)) [.pointer (some ⟨ab, 0, none⟩), .map (some w.heap.size), .int .i64 0] 112; rwa [show (w.alloc (.map #[] 0)).heap.size = w.heap.size + 1 by simp] at this, HH.out.new h2, HM.out.alloc _, ?_, ?_, ?_⟩, ?_, ?_, ?_⟩
  · omega
  · intro hk
    have := HH.out.zlt hk
    omega
  · intro hk
    have := HH.out.zlt hk
    omega
  · simp
  · exact Nat.le_refl _
  · exact h2
theorem Mem.grew {N' : List Nd} (h : Mem w b ab mk e S M N z D) (hg : Grew w w' ab S M N' z) : ∃ z', Mem w' b ab mk e S M N' z' D ∧ Mods (· ∈ z) w w' ∧ ∀ k ∈ z', k ∈ z ∨ w.heap.size ≤ k := by
  obtain ⟨z', hp, hm, hz⟩ := hg
  refine ⟨z', ⟨h.blk.move (hm.block b h.blk.lt h.bz), hp, owns114_move h.map (hm.block mk h.map.lt h.mz), h.bm, fun hk => ?_, fun hk => ?_⟩, hm, hz⟩
  · rcases hz _ hk with e | e
    · exact h.bz e
    · have := h.blk.lt; omega
  · rcases hz _ hk with e | e
    · exact h.mz e
    · have := h.map.lt; omega
theorem Mem.setE (h : Mem w b ab mk e S M N z D) (e' : Int) : Mem (w.setCell ⟨b, 2, none⟩ (.int .i64 e')) b ab mk e' S M N z D := by
  have hk : ∀ k, k ≠ b → (w.setCell ⟨b, 2, none⟩ (.int .i64 e')).heap[k]? = w.heap[k]? := fun k hk => Below.heap_setCell _ _ _ _ hk
  have hs : w.heap.size ≤ (w.setCell ⟨b, 2, none⟩ (.int .i64 e')).heap.size := by simp [World.setCell]
  exact ⟨h.blk.set 2 _, h.pa.move hs (fun k hkz => hk k (fun e => h.bz (e ▸ hkz))), owns114_move h.map (hk mk (fun e => h.bm e.symm)), h.bm, h.bz, h.mz⟩
/-- what an operation's step leaves -/
def MemGrew (w w' : World) (b ab mk : Nat) (e : Int) (S : List Int) (M : Int) (N : List Nd) (z : List Nat) (D : DataW Unit) : Prop :=
  ∃ z', Mem w' b ab mk e S M N z' D ∧ Mods (· ∈ mzs b mk z) w w' ∧ ∀ k ∈ z', k ∈ z ∨ w.heap.size ≤ k
theorem kid_any {f l : Int} {n : Nat} (h : Mem w b ab mk e S M N z D) (hf : hasA N f = true) (hl : l ≤ lvl S.length N f) (hl0 : 0 ≤ l ∧ l < S.length) (hc : n < (S.getD l.toNat 0).toNat) :
    Calls Try.prog 74 #[.pointer (some ⟨b, 0, none⟩), .int .i64 f, .int .i64 l, .int .i64 (n : Int)] w fun e w' => e = .returned (.int .i64 (kidA S.length N f l n)) ∧ Below w.heap.size w w' := by
  have x0 := h.c0
  have hG := h.pa.good
  have HL := Hid.mk_ (level_at h.pa f)
  obtain ⟨q, hq⟩ : ∃ q, q = lvl S.length N f := ⟨_, rfl⟩
  rw [← hq] at HL hl
  have hbl := h.blk.lt
  by_cases e : q = l
  · obtain ⟨l', ks, ha⟩ := hG.spot hf (by omega)
    have e3 : l' = l := by have := ha.lv; omega
    subst e3
    have ek : kidA S.length N f l' n = ks.getD n 0 := by unfold kidA; rw [if_pos (by omega), ha.kse]
    have hn : n < ks.length := by have := ha.len; omega
    have hn1 : (n : Int) < ks.length := by omega
    rw [ek, getD_mem hn]
    subst e
    have t1 : (q != q) = false := by simp
    have t2 : (!(q == q)) = false := by simp
    have t3 : decide (¬ q = q) = false := by simp
    have HN := Hid.mk_ (node_at h.pa ha)
    clear hq hf ha ek h hG hc hl0 hl
    go_enter Try.func74, Try.ntmps74
    go_wp2_with (first
      | (go_at_call 73; (with_reducible refine HL.out.mono ?_); rintro e w' ⟨rfl, rfl⟩)
      | (go_at_call 17; (with_reducible refine HN.out.mono ?_); rintro e w2 ⟨v, rfl, ⟨g, rfl, hg, hrow⟩, hb⟩; have y1 := row3 (hrow.alloc (.cells #[.int .i64 q, .slice (some ⟨g, 0, none⟩) ks.length ks.length] 55)) n hn; have HB := Hid.mk_ hb; have HROW := Hid.mk_ hrow; clear hb hrow))
    go_ret
    exact ⟨rfl, HB.out.alloc HB.out.size _⟩
  · have ek : kidA S.length N f l n = f := by unfold kidA; rw [if_neg (by omega)]
    rw [ek]
    have t1 : (q != l) = true := by simpa using e
    have t2 : (!(q == l)) = true := by simpa using e
    have t3 : decide (¬ q = l) = true := by simpa using e
    clear hq hf ek h hG hc hl0 hl e
    go_enter Try.func74, Try.ntmps74
    go_wp2_with (go_at_call 73; (with_reducible refine HL.out.mono ?_); rintro e w' ⟨rfl, rfl⟩)
    go_ret
    exact ⟨rfl, Below.refl _ _⟩
end
def leafP (op f g : Int) : Int × Bool := if op = 0 ∧ (f = 0 ∨ g = 0) then (0, true) else if (op = 0 ∧ f = 1) ∨ (op ≠ 0 ∧ f = 0) then (g, true) else if (op = 0 ∧ g = 1) ∨ (op ≠ 0 ∧ g = 0) then (f, true) else if op = 1 ∧ (f = 1 ∨ g = 1) then (1, true) else if f = g ∧ op = 2 then (0, true) else if f = g then (f, true) else (0, false)
theorem leafP_short {op f g : Int} (h : (leafP op f g).2 = true) : Short op f g (leafP op f g).1 := by
  unfold leafP at h ⊢
  unfold Short
  split
  · simp_all
  · split
    · simp_all
    · split
      · simp_all
      · split
        · simp_all
        · split
          · simp_all
          · split
            · simp_all
            · simp_all
theorem leafP_not {op f g : Int} (hop : 0 ≤ op ∧ op ≤ 2) (hf : 0 ≤ f) (hg : 0 ≤ g) (h : (leafP op f g).2 = false) : ¬ (f < 2 ∧ g < 2) := by
  rintro ⟨h1, h2⟩
  rcases (by omega : op = 0 ∨ op = 1 ∨ op = 2) with rfl | rfl | rfl <;> rcases (by omega : f = 0 ∨ f = 1) with rfl | rfl <;> rcases (by omega : g = 0 ∨ g = 1) with rfl | rfl <;> simp [leafP] at h
theorem leaf_any {op f g : Int} (hop : 0 ≤ op ∧ op ≤ 2) (hf : 0 ≤ f) (hg : 0 ≤ g) (w : World) : Calls Try.prog 78 #[.int .i64 op, .int .i64 f, .int .i64 g] w fun e w' => e = .returned (.tuple #[.int .i64 (leafP op f g).1, .bool (leafP op f g).2]) ∧ w = w' := by
  obtain ⟨R, hR⟩ : ∃ R, R = leafP op f g := ⟨_, rfl⟩
  rw [← hR]
  unfold leafP at hR
  rcases (by omega : op = 0 ∨ op = 1 ∨ op = 2) with rfl | rfl | rfl
  all_goals (
    rcases (by omega : f = 0 ∨ f = 1 ∨ 2 ≤ f) with rfl | rfl | hf2
    all_goals (
      rcases (by omega : g = 0 ∨ g = 1 ∨ 2 ≤ g) with rfl | rfl | hg2
      all_goals (
        (try have f0 : ¬ f = 0 := by omega)
        (try have f1 : ¬ f = 1 := by omega)
        (try have g0 : ¬ g = 0 := by omega)
        (try have g1 : ¬ g = 1 := by omega)
        (try have bf0 : (f == 0) = false := by simp; omega)
        (try have bf1 : (f == 1) = false := by simp; omega)
        (try have bg0 : (g == 0) = false := by simp; omega)
        (try have bg1 : (g == 1) = false := by simp; omega)
        (try have f0' : ¬ 0 = f := by omega)
        (try have f1' : ¬ 1 = f := by omega)
        (try have g0' : ¬ 0 = g := by omega)
        (try have g1' : ¬ 1 = g := by omega)
        have HR := Hid.mk_ hR
        clear hR hop hf hg
        (try clear hf2)
        (try clear hg2)
        (try by_cases fg : f = g)
        all_goals (
          (try subst fg)
          (try have fg' : ¬ g = f := fun e => fg e.symm)
          (try have bfg : (f == g) = false := by simpa using fg)
          go_enter Try.func78, Try.ntmps78
          go_wp2_with fail
          go_ret2
          refine ⟨?_, rfl⟩
          rw [HR.out]
          (try simp [*])))))
end Go.Proofs.Ytmfdcaalbpikpaa
namespace Go.Proofs.Ytmfdcaalbpikpaa
open Go.RowKit Go.Maps
set_option linter.unusedVariables false
set_option linter.unusedSimpArgs false
section
variable {w w' : World} {b ab mk : Nat} {e : Int} {S : List Int} {M : Int} {N : List Nd} {z : List Nat} {D : DataW Unit} {A : Option Addr} {c : Nat} {ks : List Int}
theorem MemGrew.refl (h : Mem w b ab mk e S M N z D) : MemGrew w w b ab mk e S M N z D := ⟨z, h, Mods.refl _ _, fun k hk => .inl hk⟩
def PutPost (w : World) (b ab mk : Nat) (S : List Int) (M : Int) (z : List Nat) (D : DataW Unit) (R : Out) (e : Ending) (w' : World) : Prop :=
  e = .returned (.int .i64 R.2.1) ∧ MemGrew w w' b ab mk R.2.2 S M R.1 z D
theorem put_any (h : Mem w b ab mk 0 S M N z D) (lv : Int) (hk : IntsIn w A ks) (hA : ∀ g o, A = some ⟨g, o, none⟩ → g < w.heap.size) :
    Calls Try.prog 75 #[.pointer (some ⟨b, 0, none⟩), .int .i64 lv, .slice A ks.length c] w (PutPost w b ab mk S M z D (makeA S M N lv ks)) := by
  have x0 := h.c0
  have x2 := h.c2
  have hbl := h.blk.lt
  have HM := Hid.mk_ (make_at (c := c) h.pa lv hk hA)
  have HH := Hid.mk_ h
  obtain ⟨R, hR⟩ : ∃ R, R = makeA S M N lv ks := ⟨_, rfl⟩
  unfold MakePost at HM
  rw [← hR] at HM ⊢
  obtain ⟨N', r, er⟩ := R
  simp only at HM
  clear h hk hA hR
  go_enter Try.func75, Try.ntmps75
  go_upto_region 4 with (go_at_call 58; (with_reducible refine HM.out.mono ?_); rintro e w2 ⟨rfl, hg⟩; have HG := Hid.mk_ hg; clear hg)
  have hgr := HH.out.grew HG.out
  obtain ⟨z', hm2, hmo, hz⟩ := hgr
  have f2 := hm2.blk.free 2
  have y2 := hm2.c2
  have hbl2 := hm2.blk.lt
  have HM2 := Hid.mk_ hm2
  have HMO := Hid.mk_ hmo
  have HZ := Hid.mk_ hz
  clear hm2 hmo hz x0 x2 hbl
  go_wp2_with fail
  go_ret
  refine ⟨rfl, z', HM2.out.setE er, ?_, HZ.out⟩
  exact (HMO.out.mono (fun k _ hk => by simp [mzs, hk])).setCell (fun _ => by simp [mzs]) _
/-- what an operation answers: nothing is left of what was made, if there was no room -/
def outA (N : List Nd) (x : Out) : Out := if x.2.2 = 0 then x else (N, 0, x.2.2)
def EndsPost (w : World) (ab b mk : Nat) (S : List Int) (M : Int) (N : List Nd) (z : List Nat) (r e : Int) (e' : Ending) (w' : World) : Prop :=
  e' = .returned (.tuple #[.int .i64 r, .int .i64 e]) ∧ Grew w w' ab S M N z
theorem ends_any {N0 : List Nd} {r : Int} (h : Mem w b ab mk e S M N z D) (hN : N0 <+: N) (he : e ≠ 0 → r = 0) :
    Calls Try.prog 61 #[.pointer (some ⟨b, 0, none⟩), .int .i64 r, .int .i64 (N0.length : Int)] w (EndsPost w ab b mk S M (outA N0 (N, r, e)).1 z (outA N0 (N, r, e)).2.1 e) := by
  have x0 := h.c0
  have x2 := h.c2
  have hbl := h.blk.lt
  by_cases h0 : e = 0
  · subst h0
    have hp := h.pa
    have HP := Hid.mk_ hp
    clear hp h he
    go_enter Try.func61, Try.ntmps61
    go_wp2_with fail
    go_ret2
    exact ⟨rfl, z, HP.out, Mods.refl _ _, fun k hk => .inl hk⟩
  · have t1 : (e != 0) = true := by simpa using h0
    have t2 : (!(e == 0)) = true := by simpa using h0
    have HB := Hid.mk_ (back_at h.pa (N0.length : Int))
    have eb : backA N (N0.length : Int) = (N0, 0) := by
      unfold backA
      rw [if_pos ⟨by omega, by have := hN.length_le; omega⟩]
      obtain ⟨t, rfl⟩ := hN
      simp
    rw [eb] at HB
    have eo : outA N0 (N, r, e) = (N0, 0, e) := by unfold outA; rw [if_neg h0]
    rw [eo]
    have HH := Hid.mk_ h
    clear h eb eo he hN
    go_enter Try.func61, Try.ntmps61
    go_upto_region 3 with (go_at_call 55; (with_reducible refine HB.out.mono ?_); rintro e1 w2 ⟨rfl, hg⟩; have HG := Hid.mk_ hg; clear hg)
    have hgr := HH.out.grew HG.out
    obtain ⟨z', hm2, hmo, hz⟩ := hgr
    have y2 := hm2.c2
    have hbl2 := hm2.blk.lt
    clear hm2 hmo hz x0 x2 hbl
    go_big_quiet (fail)
    go_wp2_with fail
    go_ret2
    refine ⟨rfl, ?_⟩
    obtain ⟨z', hp, hm, hz⟩ := HG.out
    exact ⟨z', hp.new (Drawn_below _ _), hm.drewN _, hz⟩
end
end Go.Proofs.Ytmfdcaalbpikpaa
