import Derived.Test.YtphmmpdeehfhjaaProg
import Derived.Test.YtphmmpdeehfhjaaTr
import Derived.Deep.QuietTactic
import Derived.BigQuiet
import Derived.Deep.RegionHeld3
import Derived.Outline
import Derived.StillTailTactics
import Derived.Deep.DeepFit
namespace Go.Proofs.Ytphmmpdeehfhjaa
open Go.RowKit
set_option linter.unusedVariables false
set_option linter.unusedSimpArgs false
theorem leaf_any (v : Int) (w : World) :
    Calls Try.prog 26 #[.int .i64 v] w fun e w' => e = .returned (.pointer (some ⟨w.heap.size, 0, none⟩)) ∧ w' = w.alloc (.cells #[.int .i64 v, .pointer none, .pointer none] 85) := by
  go_enter Try.func26, Try.ntmps26
  go_wp2
  go_ret
  exact ⟨rfl, rfl⟩
theorem isLabel_any (n : Int) (w : World) :
    Calls Try.prog 25 #[.int .i64 n] w fun e w' => e = .returned (.bool (decide (0 ≤ n ∧ n ≤ 65535))) ∧ w = w' := by
  by_cases h : 0 ≤ n
  · by_cases h2 : n ≤ 65535
    · go_enter Try.func25, Try.ntmps25
      go_wp2
      go_ret
      exact ⟨by simp [h, h2], rfl⟩
    · go_enter Try.func25, Try.ntmps25
      go_wp2
      go_ret
      exact ⟨by simp [h2], rfl⟩
  · go_enter Try.func25, Try.ntmps25
    go_wp2
    go_ret
    exact ⟨by congr 2; simp; omega, rfl⟩
section
variable {b bl br : Nat} {x a c : Int} {pl ql pr qr : Option Addr} {w : World}
theorem joins_same (hb : Blk w b (nodeCells x (some ⟨bl, 0, none⟩) (some ⟨br, 0, none⟩)) 85) (hl : Blk w bl (nodeCells a none ql) 85) (hr : Blk w br (nodeCells a none qr) 85) :
    Calls Try.prog 52 #[.pointer (some ⟨b, 0, none⟩)] w fun e w' => e = .returned (.tuple #[]) ∧ Blk w' b (nodeCells a none none) 85 ∧ Mods (· = b) w w' := by
  have c0 := hb.cell 0
  have c1 := hb.cell 1
  have c2 := hb.cell 2
  have l0 := hl.cell 0
  have l1 := hl.cell 1
  have r0 := hr.cell 0
  have r1 := hr.cell 1
  have f0 := hb.free 0
  have f1 := hb.free 1
  have f2 := hb.free 2
  simp [nodeCells] at c0 c1 c2 l0 l1 r0 r1
  go_enter Try.func52, Try.ntmps52
  go_wp2
  go_quiet (fail)
  go_wp2
  go_quiet (fail)
  go_wp2
  go_end0
  refine ⟨rfl, ?_, ?_⟩
  · exact (((hb.drewN _).set 0 _).set 1 _).set 2 _
  · exact ((((Mods.refl (· = b) w).drewN _).setCell (fun _ => rfl) _).setCell (fun _ => rfl) _).setCell (fun _ => rfl) _
theorem joins_diff (hac : ¬ a = c) (hb : Blk w b (nodeCells x (some ⟨bl, 0, none⟩) (some ⟨br, 0, none⟩)) 85) (hl : Blk w bl (nodeCells a none ql) 85) (hr : Blk w br (nodeCells c none qr) 85) :
    Calls Try.prog 52 #[.pointer (some ⟨b, 0, none⟩)] w fun e w' => e = .returned (.tuple #[]) ∧ ∃ n, w' = w.drewN n := by
  have c0 := hb.cell 0
  have c1 := hb.cell 1
  have c2 := hb.cell 2
  have l0 := hl.cell 0
  have l1 := hl.cell 1
  have r0 := hr.cell 0
  have r1 := hr.cell 1
  have f0 := hb.free 0
  have f1 := hb.free 1
  have f2 := hb.free 2
  simp [nodeCells] at c0 c1 c2 l0 l1 r0 r1
  go_enter Try.func52, Try.ntmps52
  go_wp2
  go_quiet (fail)
  go_wp2
  go_quiet (fail)
  go_wp2
  go_end0
  exact ⟨rfl, _, World.drewN_drewN ..⟩
theorem joins_l {pa : Addr} (hb : Blk w b (nodeCells x (some ⟨bl, 0, none⟩) (some ⟨br, 0, none⟩)) 85) (hl : Blk w bl (nodeCells a (some pa) ql) 85) (hr : Blk w br (nodeCells c pr qr) 85) :
    Calls Try.prog 52 #[.pointer (some ⟨b, 0, none⟩)] w fun e w' => e = .returned (.tuple #[]) ∧ ∃ n, w' = w.drewN n := by
  have c0 := hb.cell 0
  have c1 := hb.cell 1
  have c2 := hb.cell 2
  have l0 := hl.cell 0
  have l1 := hl.cell 1
  have r0 := hr.cell 0
  have r1 := hr.cell 1
  have f0 := hb.free 0
  have f1 := hb.free 1
  have f2 := hb.free 2
  simp [nodeCells] at c0 c1 c2 l0 l1 r0 r1
  go_enter Try.func52, Try.ntmps52
  go_wp2
  go_quiet (fail)
  go_wp2
  go_quiet (fail)
  go_wp2
  go_end0
  exact ⟨rfl, _, World.drewN_drewN ..⟩
theorem joins_r {pa : Addr} (hb : Blk w b (nodeCells x (some ⟨bl, 0, none⟩) (some ⟨br, 0, none⟩)) 85) (hl : Blk w bl (nodeCells a none ql) 85) (hr : Blk w br (nodeCells c (some pa) qr) 85) :
    Calls Try.prog 52 #[.pointer (some ⟨b, 0, none⟩)] w fun e w' => e = .returned (.tuple #[]) ∧ ∃ n, w' = w.drewN n := by
  have c0 := hb.cell 0
  have c1 := hb.cell 1
  have c2 := hb.cell 2
  have l0 := hl.cell 0
  have l1 := hl.cell 1
  have r0 := hr.cell 0
  have r1 := hr.cell 1
  have f0 := hb.free 0
  have f1 := hb.free 1
  have f2 := hb.free 2
  simp [nodeCells] at c0 c1 c2 l0 l1 r0 r1
  go_enter Try.func52, Try.ntmps52
  go_wp2
  go_quiet (fail)
  go_wp2
  go_quiet (fail)
  go_wp2
  go_end0
  exact ⟨rfl, _, World.drewN_drewN ..⟩
end
def JoinsPost (w : World) (t : Tr) (b : Nat) (fp : List Nat) (e : Ending) (w' : World) : Prop :=
  e = .returned (.tuple #[]) ∧ ∃ fp', At w' t b fp' ∧ (∀ k ∈ fp', k ∈ fp) ∧ Mods (· ∈ fp) w w'
theorem At.cells {w : World} {t : Tr} {b : Nat} {fp : List Nat} (h : At w t b fp) : ∃ a p q, Blk w b (nodeCells a p q) 85 ∧ (p = none ↔ t = .leaf a) := by
  cases t with
  | leaf v => exact ⟨v, none, none, h.2, by simp⟩
  | node l r => obtain ⟨x, bl, br, fl, fr, _, hb, _⟩ := h; exact ⟨x, _, _, hb, by simp⟩
theorem joins_any (l r : Tr) (b : Nat) (fp : List Nat) (w : World) (h : At w (.node l r) b fp) :
    Calls Try.prog 52 #[.pointer (some ⟨b, 0, none⟩)] w (JoinsPost w (l.join r) b fp) := by
  have h' := h
  obtain ⟨x, bl, br, fl, fr, rfl, hb, hl, hr, hn⟩ := h'
  have stay : ∀ e w', (e = .returned (.tuple #[]) ∧ ∃ n, w' = w.drewN n) → l.join r = .node l r → JoinsPost w (l.join r) b (b :: (fl ++ fr)) e w' := by
    rintro e w' ⟨he, n, rfl⟩ hj
    rw [hj]
    exact ⟨he, _, h.move (fun _ _ => rfl), fun _ hk => hk, (Mods.refl _ _).drewN _⟩
  cases l with
  | node l1 l2 =>
    obtain ⟨a, p, q, hl1, hp⟩ := hl.cells
    obtain ⟨c, p', q', hr1, _⟩ := hr.cells
    cases p with
    | none => simp at hp
    | some pa => exact (joins_l hb hl1 hr1).mono fun e w' hh => stay e w' hh rfl
  | leaf a =>
    cases r with
    | node r1 r2 =>
      obtain ⟨c, p', q', hr1, hp⟩ := hr.cells
      cases p' with
      | none => simp at hp
      | some pa => exact (joins_r hb hl.2 hr1).mono fun e w' hh => stay e w' hh rfl
    | leaf c =>
      by_cases hac : a = c
      · subst hac
        refine (joins_same hb hl.2 hr.2).mono fun e w' ⟨he, hb', hm⟩ => ⟨he, [b], ?_, by simp, hm.mono (fun k _ hk => by simp [hk])⟩
        rw [show Tr.join (.leaf a) (.leaf a) = .leaf a from by simp [Tr.join]]
        exact ⟨rfl, hb'⟩
      · exact (joins_diff hac hb hl.2 hr.2).mono fun e w' hh => stay e w' hh (by simp [Tr.join, hac])
/-! parts -/
def PartsPost (w : World) (t : Tr) (b : Nat) (fp : List Nat) (e : Ending) (w' : World) : Prop :=
  e = .returned (.tuple #[]) ∧ ∃ fp', At w' (.node t.left t.right) b fp' ∧ (∀ k ∈ fp', k ∈ fp ∨ w.heap.size ≤ k) ∧ Mods (· ∈ fp) w w'
theorem parts_node {b : Nat} {x : Int} {pa : Addr} {q : Option Addr} {w : World} (hb : Blk w b (nodeCells x (some pa) q) 85) :
    Calls Try.prog 51 #[.pointer (some ⟨b, 0, none⟩)] w fun e w' => e = .returned (.tuple #[]) ∧ w = w' := by
  have c1 := hb.cell 1
  simp [nodeCells] at c1
  go_enter Try.func51, Try.ntmps51
  go_wp2
  go_end0
  exact ⟨rfl, rfl⟩
theorem keep0 {b : Nat} {x : Int} {p q : Option Addr} {w : World} (hb : Blk w b (nodeCells x p q) 85) (v1 v2 : Value) (o1 o2 : Obj) : ((((w.setCell ⟨b, 1, none⟩ v1).setCell ⟨b, 2, none⟩ v2).alloc o1).alloc o2).drew.cell? ⟨b, 0, none⟩ = some (.int .i64 x) :=
  ((((hb.set 1 v1).set 2 v2).alloc o1).alloc o2).drew.cell 0
theorem parts_leaf {b : Nat} {x : Int} {w : World} (hb : Blk w b (nodeCells x none none) 85) :
    Calls Try.prog 51 #[.pointer (some ⟨b, 0, none⟩)] w fun e w' => e = .returned (.tuple #[]) ∧ ∃ bl br, w.heap.size ≤ bl ∧ bl < br ∧ Blk w' bl (nodeCells x none none) 85 ∧ Blk w' br (nodeCells x none none) 85 ∧
      Blk w' b (nodeCells x (some ⟨bl, 0, none⟩) (some ⟨br, 0, none⟩)) 85 ∧ Mods (· = b) w w' := by
  have c0 := hb.cell 0
  have c1 := hb.cell 1
  have c2 := hb.cell 2
  have f1 := hb.free 1
  have f2 := hb.free 2
  have hlt := hb.lt
  simp [nodeCells] at c0 c1 c2
  have n0 : ¬ b = w.heap.size := by omega
  have n1 : ¬ b = w.heap.size + 1 := by omega
  go_enter Try.func51, Try.ntmps51
  go_wp2
  go_region_held3 (fun w' => w'.cell? ⟨b, 0, none⟩ = some (.int .i64 x)) (first | (with_reducible exact keep0 hb _ _ _ _) | go_keep)
    (first | (go_at_call 26; refine (leaf_any _ _).mono ?_; rintro e w' ⟨rfl, rfl⟩))
  go_wp2
  go_end0
  have H := ((hb.set 1 (.pointer (some ⟨w.heap.size, 0, none⟩))).set 2 (.pointer (some ⟨w.heap.size + 1, 0, none⟩)))
  have s0 : ((w.setCell ⟨b, 1, none⟩ (.pointer (some ⟨w.heap.size, 0, none⟩))).setCell ⟨b, 2, none⟩ (.pointer (some ⟨w.heap.size + 1, 0, none⟩))).heap.size = w.heap.size := by simp [World.setCell]
  refine ⟨rfl, w.heap.size, w.heap.size + 1, Nat.le_refl _, by omega, ?_, ?_, ?_, ?_⟩
  · have h := (Blk.new ((w.setCell ⟨b, 1, none⟩ (.pointer (some ⟨w.heap.size, 0, none⟩))).setCell ⟨b, 2, none⟩ (.pointer (some ⟨w.heap.size + 1, 0, none⟩))) (nodeCells x none none) 85)
    rw [s0] at h
    exact (h.alloc _).drew
  · have h := (Blk.new (((w.setCell ⟨b, 1, none⟩ (.pointer (some ⟨w.heap.size, 0, none⟩))).setCell ⟨b, 2, none⟩ (.pointer (some ⟨w.heap.size + 1, 0, none⟩))).alloc (.cells #[.int .i64 x, .pointer none, .pointer none] 85)) (nodeCells x none none) 85)
    have s1 : (((w.setCell ⟨b, 1, none⟩ (.pointer (some ⟨w.heap.size, 0, none⟩))).setCell ⟨b, 2, none⟩ (.pointer (some ⟨w.heap.size + 1, 0, none⟩))).alloc (.cells #[.int .i64 x, .pointer none, .pointer none] 85)).heap.size = w.heap.size + 1 := by
      rw [World.size_alloc, s0]
    rw [s1] at h
    exact h.drew
  · exact ((H.alloc _).alloc _).drew
  · exact (((((Mods.refl (· = b) w).setCell (fun _ => rfl) _).setCell (fun _ => rfl) _).alloc _).alloc _).drew
theorem parts_any (t : Tr) (b : Nat) (fp : List Nat) (w : World) (h : At w t b fp) :
    Calls Try.prog 51 #[.pointer (some ⟨b, 0, none⟩)] w (PartsPost w t b fp) := by
  cases t with
  | node l r =>
    have h' := h
    obtain ⟨x, bl, br, fl, fr, _, hb, _⟩ := h'
    exact (parts_node hb).mono fun e w' ⟨he, hw⟩ => ⟨he, fp, hw ▸ h, fun k hk => .inl hk, hw ▸ Mods.refl _ _⟩
  | leaf v =>
    obtain ⟨rfl, hb⟩ := h
    refine (parts_leaf hb).mono fun e w' ⟨he, bl, br, h1, h2, hl, hr, hb', hm⟩ => ⟨he, b :: ([bl] ++ [br]), ?_, ?_, hm.mono (fun k _ hk => by simp [hk])⟩
    · have := hb.lt
      exact ⟨v, bl, br, [bl], [br], rfl, hb', ⟨rfl, hl⟩, ⟨rfl, hr⟩, by simp; omega⟩
    · intro k hk
      simp at hk
      rcases hk with rfl | rfl | rfl
      · exact .inl (by simp)
      · exact .inr (by omega)
      · exact .inr (by omega)
/-! put -/
theorem i64_and1 (n : Int) (h0 : 0 ≤ n) (h1 : n ≤ 4294967295) : bits .and .i64 n 1 = n % 2 := by
  obtain ⟨m, rfl⟩ := Int.eq_ofNat_of_zero_le h0
  have h := (bits_nat .i64 63 (by decide) (fun n h0 h1 => by rw [IntKind.wrap_i64]; omega) m 1 (by omega) (by decide)).1
  rw [show ((m : Nat) : Int) = ((m : Nat) : Int) from rfl, show (1 : Int) = ((1 : Nat) : Int) from rfl, h, Nat.and_one_is_mod]
  omega
theorem shr_bounds (x : Int) (k : Nat) (h0 : 0 ≤ x) (h1 : x ≤ 4294967295) : 0 ≤ x / 2 ^ k ∧ x / 2 ^ k ≤ 4294967295 := by
  have hp : (0 : Int) < 2 ^ k := Int.pow_pos (by decide)
  exact ⟨Int.ediv_nonneg h0 (Int.le_of_lt hp), Int.le_trans (Int.ediv_le_self _ h0) h1⟩
theorem bit_raw (x : Int) (d : Nat) (h0 : 0 ≤ x) (h1 : x ≤ 4294967295) : bits .and .i64 (x / 2 ^ (31 - d)) 1 = Tr.bit x d := by
  have h := shr_bounds x (31 - d) h0 h1
  rw [i64_and1 _ h.1 h.2]
  rfl
theorem bit_01 (x : Int) (d : Nat) : Tr.bit x d = 0 ∨ Tr.bit x d = 1 := by unfold Tr.bit; omega
/-- the node behind what was put into its left half -/
theorem At.put_left {w1 w2 : World} {l r l' : Tr} {b bl br : Nat} {x : Int} {fl fr fl' : List Nat} (hb : Blk w1 b (nodeCells x (some ⟨bl, 0, none⟩) (some ⟨br, 0, none⟩)) 85) (hl : At w1 l bl fl) (hr : At w1 r br fr) (hn : (b :: (fl ++ fr)).Nodup)
    (h2 : At w2 l' bl fl') (hsub : ∀ k ∈ fl', k ∈ fl ∨ w1.heap.size ≤ k) (hm : Mods (· ∈ fl) w1 w2) : Blk w2 b (nodeCells x (some ⟨bl, 0, none⟩) (some ⟨br, 0, none⟩)) 85 ∧ At w2 (.node l' r) b (b :: (fl' ++ fr)) := by
  simp only [List.nodup_cons, List.mem_append, List.nodup_append, not_or] at hn
  obtain ⟨⟨hbl, hbr⟩, nl, nr, nlr⟩ := hn
  have hbs := hb.lt
  refine ⟨hb.mods hm hbl, x, bl, br, fl', fr, rfl, hb.mods hm hbl, h2, hr.mods hm (fun k hk hk2 => nlr k hk2 k hk rfl), ?_⟩
  simp only [List.nodup_cons, List.mem_append, List.nodup_append, not_or]
  refine ⟨⟨fun h => ?_, hbr⟩, h2.nodup, nr, ?_⟩
  · rcases hsub b h with h | h
    · exact hbl h
    · omega
  · intro a ha c hc e
    subst e
    rcases hsub a ha with h | h
    · exact nlr a h a hc rfl
    · have := hr.lt a hc; omega
theorem At.put_right {w1 w2 : World} {l r r' : Tr} {b bl br : Nat} {x : Int} {fl fr fr' : List Nat} (hb : Blk w1 b (nodeCells x (some ⟨bl, 0, none⟩) (some ⟨br, 0, none⟩)) 85) (hl : At w1 l bl fl) (hr : At w1 r br fr) (hn : (b :: (fl ++ fr)).Nodup)
    (h2 : At w2 r' br fr') (hsub : ∀ k ∈ fr', k ∈ fr ∨ w1.heap.size ≤ k) (hm : Mods (· ∈ fr) w1 w2) : Blk w2 b (nodeCells x (some ⟨bl, 0, none⟩) (some ⟨br, 0, none⟩)) 85 ∧ At w2 (.node l r') b (b :: (fl ++ fr')) := by
  simp only [List.nodup_cons, List.mem_append, List.nodup_append, not_or] at hn
  obtain ⟨⟨hbl, hbr⟩, nl, nr, nlr⟩ := hn
  have hbs := hb.lt
  refine ⟨hb.mods hm hbr, x, bl, br, fl, fr', rfl, hb.mods hm hbr, hl.mods hm (fun k hk hk2 => nlr k hk k hk2 rfl), h2, ?_⟩
  simp only [List.nodup_cons, List.mem_append, List.nodup_append, not_or]
  refine ⟨⟨hbl, fun h => ?_⟩, nl, h2.nodup, ?_⟩
  · rcases hsub b h with h | h
    · exact hbr h
    · omega
  · intro a ha c hc e
    subst e
    rcases hsub a hc with h | h
    · exact nlr a ha a h rfl
    · have := hl.lt a ha; omega
def PutPost (w : World) (t' : Tr) (b : Nat) (fp : List Nat) (e : Ending) (w' : World) : Prop :=
  e = .returned (.tuple #[]) ∧ ∃ fp', At w' t' b fp' ∧ (∀ k ∈ fp', k ∈ fp ∨ w.heap.size ≤ k) ∧ Mods (· ∈ fp) w w'
theorem put_end {b : Nat} {x v at_ : Int} {d : Int} {p q : Option Addr} {w : World} (hb : Blk w b (nodeCells x p q) 85) :
    Calls Try.prog 36 #[.pointer (some ⟨b, 0, none⟩), .int .i64 at_, .int .i64 d, .int .i64 d, .int .i64 v] w fun e w' => e = .returned (.tuple #[]) ∧ Blk w' b (nodeCells v none none) 85 ∧ Mods (· = b) w w' := by
  have c0 := hb.cell 0
  have c1 := hb.cell 1
  have c2 := hb.cell 2
  have f0 := hb.free 0
  have f1 := hb.free 1
  have f2 := hb.free 2
  simp [nodeCells] at c0 c1 c2
  go_enter Try.func36, Try.ntmps36
  go_wp2_with fail
  refine bodyPost_ret (results_none rfl _ _ _) rfl ⟨rfl, ?_, ?_⟩
  · exact ((hb.set 0 _).set 1 _).set 2 _
  · exact (((Mods.refl (· = b) w).setCell (fun _ => rfl) _).setCell (fun _ => rfl) _).setCell (fun _ => rfl) _
section
variable {w w1 w2 w3 : World} {b : Nat} {fp fl fr fl2 fp3 : List Nat}
theorem put_sub_l (hs : w.heap.size ≤ w1.heap.size) (hs2 : ∀ k ∈ fl2, k ∈ fl ∨ w1.drew.heap.size ≤ k) (hsub : ∀ k ∈ b :: (fl ++ fr), k ∈ fp ∨ w.heap.size ≤ k) (hs3 : ∀ k ∈ fp3, k ∈ b :: (fl2 ++ fr)) : ∀ k ∈ fp3, k ∈ fp ∨ w.heap.size ≤ k := by
  intro k hk
  have h := hs3 k hk
  simp only [List.mem_cons, List.mem_append] at h
  rcases h with h | h | h
  · exact hsub k (by simp [h])
  · rcases hs2 k h with h | h
    · exact hsub k (by simp [h])
    · exact .inr (Nat.le_trans hs h)
  · exact hsub k (by simp [h])
theorem put_sub_r (hs : w.heap.size ≤ w1.heap.size) (hs2 : ∀ k ∈ fl2, k ∈ fr ∨ w1.drew.heap.size ≤ k) (hsub : ∀ k ∈ b :: (fl ++ fr), k ∈ fp ∨ w.heap.size ≤ k) (hs3 : ∀ k ∈ fp3, k ∈ b :: (fl ++ fl2)) : ∀ k ∈ fp3, k ∈ fp ∨ w.heap.size ≤ k := by
  intro k hk
  have h := hs3 k hk
  simp only [List.mem_cons, List.mem_append] at h
  rcases h with h | h | h
  · exact hsub k (by simp [h])
  · exact hsub k (by simp [h])
  · rcases hs2 k h with h | h
    · exact hsub k (by simp [h])
    · exact .inr (Nat.le_trans hs h)
theorem put_mods_l (hm : Mods (· ∈ fp) w w1) (hsub : ∀ k ∈ b :: (fl ++ fr), k ∈ fp ∨ w.heap.size ≤ k) (hs2 : ∀ k ∈ fl2, k ∈ fl ∨ w1.drew.heap.size ≤ k) (hm2 : Mods (· ∈ fl) w1.drew w2) (hm3 : Mods (· ∈ b :: (fl2 ++ fr)) w2 w3) : Mods (· ∈ fp) w w3 := by
  have h12 : Mods (· ∈ fp) w w2 := hm.drew.trans hm2 fun k hk h => by
    rcases hsub k (by simp [h]) with h | h
    · exact h
    · omega
  refine h12.trans hm3 fun k hk h => ?_
  rcases put_sub_l (fp := fp) (fp3 := [k]) hm.size hs2 hsub (by simpa using h) k (by simp) with h | h
  · exact h
  · omega
theorem put_mods_r (hm : Mods (· ∈ fp) w w1) (hsub : ∀ k ∈ b :: (fl ++ fr), k ∈ fp ∨ w.heap.size ≤ k) (hs2 : ∀ k ∈ fl2, k ∈ fr ∨ w1.drew.heap.size ≤ k) (hm2 : Mods (· ∈ fr) w1.drew w2) (hm3 : Mods (· ∈ b :: (fl ++ fl2)) w2 w3) : Mods (· ∈ fp) w w3 := by
  have h12 : Mods (· ∈ fp) w w2 := hm.drew.trans hm2 fun k hk h => by
    rcases hsub k (by simp [h]) with h | h
    · exact h
    · omega
  refine h12.trans hm3 fun k hk h => ?_
  rcases put_sub_r (fp := fp) (fp3 := [k]) hm.size hs2 hsub (by simpa using h) k (by simp) with h | h
  · exact h
  · omega
end
theorem put_any (at_ v : Int) (a0 : 0 ≤ at_) (a1 : at_ ≤ 4294967295) : ∀ (n : Nat) (d : Nat) (t : Tr) (b : Nat) (fp : List Nat) (w : World) (B D : Int), d + n ≤ 32 → B = d + n → D = d → At w t b fp →
    Calls Try.prog 36 #[.pointer (some ⟨b, 0, none⟩), .int .i64 at_, .int .i64 B, .int .i64 D, .int .i64 v] w (PutPost w (Tr.put at_ v n d t) b fp)
  | 0, d, t, b, fp, w, B, D, hd, hB, hD, h => by
    obtain rfl : B = D := by omega
    obtain ⟨a, p, q, hb, _⟩ := h.cells
    refine (put_end hb).mono fun e w' ⟨he, hb', hm⟩ => ⟨he, [b], ⟨rfl, hb'⟩, ?_, hm.mono (fun k _ hk => hk ▸ h.mem)⟩
    intro k hk
    simp at hk
    exact .inl (hk ▸ h.mem)
  | n + 1, d, t, b, fp, w, B, D, hd, hB, hD, h => by
    have hne : ¬ (D = B) := by omega
    have hB1 : B ≤ d + (n + 1) := by omega
    have hB2 : d + (n + 1) ≤ B := by omega
    have hD1 : D ≤ d := by omega
    have hD2 : d ≤ D := by omega
    clear hB hD
    have e1 : IntKind.i64.wrap (31 - D) = ((31 - d : Nat) : Int) := by rw [IntKind.wrap_i64]; omega
    have e2 : IntKind.i64.wrap (D + 1) = D + 1 := by rw [IntKind.wrap_i64]; omega
    have eb := bit_raw at_ d a0 a1
    have ih := Hid.mk_ (put_any at_ v a0 a1 n (d + 1))
    go_enter Try.func36, Try.ntmps36
    go_wp2_with (go_at_call 51; refine (parts_any t b fp _ h).mono ?_; rintro e w1 ⟨rfl, fp1, hA, hsub, hm⟩; obtain ⟨x, bl, br, fl, fr, rfl, hb, hl, hr, hn⟩ := hA; have c0 := hb.cell 0; have c1 := hb.cell 1; have c2 := hb.cell 2; simp [nodeCells] at c0 c1 c2)
    rcases bit_01 at_ d with hbit | hbit
    · rw [hbit] at eb
      have HB := Hid.mk_ hbit
      clear hbit
      go_region_held3 (fun w' => w'.cell? ⟨b, 1, none⟩ = some (.pointer (some ⟨bl, 0, none⟩)) ∧ w'.cell? ⟨b, 2, none⟩ = some (.pointer (some ⟨br, 0, none⟩))) (first | assumption | go_keep)
        (first | (go_at_call 36; refine (ih.out t.left bl fl w1.drew B (D + 1) (by omega) (by omega) (by omega) (hl.move (fun _ _ => rfl))).mono ?_; rintro e w2 ⟨rfl, fl2, hl2, hs2, hm2⟩; have hA2 := At.put_left hb.drew (hl.move (fun _ _ => rfl)) (hr.move (fun _ _ => rfl)) hn hl2 hs2 hm2; obtain ⟨hb2, hA2⟩ := hA2; have hK := And.intro (hb2.cell 1) (hb2.cell 2)))
      go_wp2_with (go_at_call 52; refine (joins_any _ _ _ _ _ hA2).mono ?_; rintro e w3 ⟨rfl, fp3, h3, hs3, hm3⟩)
      go_end0
      exact ⟨rfl, fp3, by rw [Tr.put, if_pos HB.out]; exact h3, put_sub_l hm.size hs2 hsub hs3, put_mods_l hm hsub hs2 hm2 hm3⟩
    · rw [hbit] at eb
      have HB := Hid.mk_ hbit
      clear hbit
      go_region_held3 (fun w' => w'.cell? ⟨b, 1, none⟩ = some (.pointer (some ⟨bl, 0, none⟩)) ∧ w'.cell? ⟨b, 2, none⟩ = some (.pointer (some ⟨br, 0, none⟩))) (first | assumption | go_keep)
        (first | (go_at_call 36; refine (ih.out t.right br fr w1.drew B (D + 1) (by omega) (by omega) (by omega) (hr.move (fun _ _ => rfl))).mono ?_; rintro e w2 ⟨rfl, fl2, hl2, hs2, hm2⟩; have hA2 := At.put_right hb.drew (hl.move (fun _ _ => rfl)) (hr.move (fun _ _ => rfl)) hn hl2 hs2 hm2; obtain ⟨hb2, hA2⟩ := hA2; have hK := And.intro (hb2.cell 1) (hb2.cell 2)))
      go_wp2_with (go_at_call 52; refine (joins_any _ _ _ _ _ hA2).mono ?_; rintro e w3 ⟨rfl, fp3, h3, hs3, hm3⟩)
      go_end0
      exact ⟨rfl, fp3, by rw [Tr.put, if_neg (by rw [HB.out]; decide)]; exact h3, put_sub_r hm.size hs2 hsub hs3, put_mods_r hm hsub hs2 hm2 hm3⟩
#print axioms put_any
end Go.Proofs.Ytphmmpdeehfhjaa
