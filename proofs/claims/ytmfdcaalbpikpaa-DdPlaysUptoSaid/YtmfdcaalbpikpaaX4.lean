/- The document's operation at work: its memory; leaf, kid, found. -/
import Derived.Test.YtmfdcaalbpikpaaW3
import Derived.Test.YtmfdcaalbpikpaaC4
import Derived.Test.YtmfdcaalbpikpaaC6
namespace Go.Proofs.Ytmfdcaalbpikpaa
open Go.RowKit Go.Maps
set_option linter.unusedVariables false
set_option linter.unusedSimpArgs false
section
variable {w w' : World} {b : Nat} {S : List Int} {M : Int} {N : List Nd} {z : List Nat} {A : Option Addr} {c : Nat} {ks : List Int}
theorem RAt.good (h : RAt w b S M N z) : Good S M N := by obtain ⟨L, nv, sv, lv, rows, cz, h1, rfl, rfl⟩ := h; exact h1.good
theorem RAt.move (h : RAt w b S M N z) (hs : w.heap.size ≤ w'.heap.size) (hm : ∀ k ∈ z, w'.heap[k]? = w.heap[k]?) : RAt w' b S M N z := by obtain ⟨L, nv, sv, lv, rows, cz, h1, e1, rfl⟩ := h; exact ⟨L, nv, sv, lv, rows, cz, h1.move hs hm, e1, rfl⟩
theorem RAt.zlt (h : RAt w b S M N z) {k : Nat} (hk : k ∈ z) : k < w.heap.size := by obtain ⟨L, nv, sv, lv, rows, cz, h1, e1, rfl⟩ := h; exact h1.zlt hk
theorem RAt.new (h : RAt w b S M N z) (hb : Below w.heap.size w w') : RAt w' b S M N z := h.move hb.size fun k hk => hb.block k (h.zlt hk)
theorem RAt.bz (h : RAt w b S M N z) : b ∈ z := by obtain ⟨L, nv, sv, lv, rows, cz, h1, e1, rfl⟩ := h; exact mem_rz.2 (.inl rfl)
theorem rhas_at (h : RAt w b S M N z) (f : Int) : Calls Try.prog 48 #[.pointer (some ⟨b, 0, none⟩), .int .i64 f] w fun e w' => e = .returned (.bool (hasA N f)) ∧ w = w' := by
  obtain ⟨L, nv, sv, lv, rows, cz, h1, rfl, e2⟩ := h; exact has_ra h1 f
theorem rlevel_at (h : RAt w b S M N z) (f : Int) : Calls Try.prog 49 #[.pointer (some ⟨b, 0, none⟩), .int .i64 f] w fun e w' => e = .returned (.int .i64 (lvl S.length N f)) ∧ w = w' := by
  obtain ⟨L, nv, sv, lv, rows, cz, h1, rfl, e2⟩ := h; exact level_ra h1 f
theorem rlen_at (h : RAt w b S M N z) : Calls Try.prog 19 #[.pointer (some ⟨b, 0, none⟩)] w fun e w' => e = .returned (.int .i64 (N.length : Int)) ∧ w = w' := by
  obtain ⟨L, nv, sv, lv, rows, cz, h1, rfl, e2⟩ := h; exact len_ra h1
theorem rback_at (h : RAt w b S M N z) (n : Int) : Calls Try.prog 15 #[.pointer (some ⟨b, 0, none⟩), .int .i64 n] w fun e w' => e = .returned (.int .i64 (backA N n).2) ∧ RGrew w w' b S M (backA N n).1 z := by
  obtain ⟨L, nv, sv, lv, rows, cz, h1, rfl, rfl⟩ := h; exact back_ra h1 n
theorem rmake_at (h : RAt w b S M N z) {i : Nat} (hi : i < S.length) (hx : (ks.length : Int) = S[i]'hi) (hA : IntsIn w A ks) : Calls Try.prog 18 #[.pointer (some ⟨b, 0, none⟩), .int .i64 (i : Int), .slice A ks.length c] w (RMakePost w b S M N z (i : Int) ks) := by
  obtain ⟨L, nv, sv, lv, rows, cz, h1, rfl, rfl⟩ := h; exact rmake_ok h1 i hi hA hx
theorem rkid_at {f l : Int} {n : Nat} (h : RAt w b S M N z) (ha : At S N f l ks) (hn : n < ks.length) : Calls Try.prog 66 #[.pointer (some ⟨b, 0, none⟩), .int .i64 f, .int .i64 (n : Int)] w fun e w' => e = .returned (.int .i64 (ks[n]'hn)) ∧ w = w' := by
  obtain ⟨L, nv, sv, lv, rows, cz, h1, rfl, rfl⟩ := h
  have hlt := ha.lt
  rw [nds_length] at hlt
  obtain ⟨i, rfl⟩ : ∃ i : Nat, f = (i : Int) + 2 := ⟨(f - 2).toNat, by omega⟩
  have hi : i < L.length := by omega
  have hi1 : (i : Int) < L.length := by omega
  obtain ⟨gn, cn, rfl, hgn, hv0, hv1⟩ := row_lv h1.row i hi
  obtain ⟨gk, ck, ekv, hck, hgz2, hgkl, hints⟩ := (h1.kid _ (List.getElem_mem hi)).ints
  rw [ekv] at hv1
  have e := ha.nd
  have e2 : ((i : Int) + 2 - 2).toNat = i := by omega
  have e3 : (⟨l, ks⟩ : Nd) = (L[i]'hi).1 := by
    have : ∀ j (hj : j < (nds L).length), j = i → (nds L)[j]'hj = (L[i]'hi).1 := fun j hj ej => by subst ej; exact nds_get L j hi
    rw [e]; exact this _ _ e2
  have e4 : ks = (L[i]'hi).1.ks := by rw [← e3]
  rw [← e4] at hv1 hints
  obtain ⟨g', o', e5, hg', hcs⟩ := hints.2 (by omega)
  cases e5
  have c0 := hcs n hn
  rw [Nat.zero_add] at c0
  have hn1 : (n : Int) < ks.length := by omega
  obtain ⟨y, hy⟩ : ∃ y, y = ks[n]'hn := ⟨_, rfl⟩
  rw [← hy] at c0 ⊢
  have c2 := h1.c2
  have hbl := h1.blk.lt
  have l8 := len8 h1.good
  have hw1 : (i : Int) + 2 - 2 = i := by omega
  have hks := h1.good.kids i (by rw [nds_length]; exact hi)
  clear hcs hints ekv e e3 e4 h1 ha hy hv0 hks
  go_enter Try.func66, Try.ntmps66
  go_wp2_with fail
  go_ret
  exact ⟨rfl, rfl⟩
end
end Go.Proofs.Ytmfdcaalbpikpaa
namespace Go.Proofs.Ytmfdcaalbpikpaa
open Go.RowKit Go.Maps
set_option linter.unusedVariables false
set_option linter.unusedSimpArgs false
def prs (l : List (Int × Int)) : List Value := l.flatMap fun p => [.int .i64 p.1, .int .i64 p.2]
theorem prs_length : ∀ l : List (Int × Int), (prs l).length = l.length * 2
  | [] => rfl
  | p :: l => by have := prs_length l; simp only [prs, List.flatMap_cons, List.length_append, List.length_cons, List.length_nil] at this ⊢; omega
theorem prs_get : ∀ (l : List (Int × Int)) (i : Nat) (h : i < l.length), (prs l)[i * 2]? = some (.int .i64 (l[i]'h).1) ∧ (prs l)[i * 2 + 1]? = some (.int .i64 (l[i]'h).2)
  | p :: l, 0, _ => by simp [prs]
  | p :: l, i + 1, h => by
    have ih := prs_get l i (by simpa using h)
    rw [show (i + 1) * 2 = i * 2 + 1 + 1 by omega]
    simp only [prs, List.flatMap_cons, List.cons_append, List.nil_append, List.getElem?_cons_succ, List.getElem_cons_succ] at ih ⊢
    exact ih
theorem prs_snoc (l : List (Int × Int)) (p : Int × Int) : prs (l ++ [p]) = prs l ++ [.int .i64 p.1, .int .i64 p.2] := by simp [prs]
structure RM (w : World) (b rb : Nat) (what e : Int) (S : List Int) (M : Int) (N : List Nd) (z : List Nat) (lv : Value) (rows : List Value) (R : List (List (Int × Int))) : Prop where
  blk : Blk w b [.pointer (some ⟨rb, 0, none⟩), .int .i64 what, lv, .int .i64 e] 119
  ra : RAt w rb S M N z
  lrow : Row w 124 1 lv rows.length rows
  rl : rows.length = R.length
  rws : ∀ i (h : i < rows.length) (h2 : i < R.length), Row w 125 2 (rows[i]'h) (R[i]'h2).length (prs (R[i]'h2))
  apart : ∀ i j (hi : i < rows.length) (hj : j < rows.length), i ≠ j → ∀ k, (rows[i]'hi).ownBlock = some k → (rows[j]'hj).ownBlock ≠ some k
  cold : ∀ k, (k = b ∨ lv.ownBlock = some k ∨ ∃ v ∈ rows, v.ownBlock = some k) → k ∉ z
section
variable {w w' : World} {b rb : Nat} {what e : Int} {S : List Int} {M : Int} {N : List Nd} {z : List Nat} {lv : Value} {rows : List Value} {R : List (List (Int × Int))} {f g : Int}
theorem RM.lt (h : RM w b rb what e S M N z lv rows R) {k : Nat} (hk : k = b ∨ lv.ownBlock = some k ∨ ∃ v ∈ rows, v.ownBlock = some k) : k < w.heap.size := by
  rcases hk with rfl | e | ⟨v, hv, e⟩
  · exact h.blk.lt
  · exact h.lrow.lt k e
  · obtain ⟨i, hi, rfl⟩ := List.getElem_of_mem hv
    exact (h.rws i hi (by rw [← h.rl]; exact hi)).lt k e
theorem RM.move (h : RM w b rb what e S M N z lv rows R) (hs : w.heap.size ≤ w'.heap.size) (hm : ∀ k, (k = b ∨ lv.ownBlock = some k ∨ ∃ v ∈ rows, v.ownBlock = some k) → w'.heap[k]? = w.heap[k]?) (hz : ∀ k ∈ z, w'.heap[k]? = w.heap[k]?) : RM w' b rb what e S M N z lv rows R where
  blk := h.blk.move (hm b (.inl rfl))
  ra := h.ra.move hs hz
  lrow := h.lrow.move fun k hk => hm k (.inr (.inl hk))
  rl := h.rl
  rws := fun i hi hi2 => (h.rws i hi hi2).move fun k hk => hm k (.inr (.inr ⟨_, List.getElem_mem hi, hk⟩))
  apart := h.apart
  cold := h.cold
theorem RM.new (h : RM w b rb what e S M N z lv rows R) (hb : Below w.heap.size w w') : RM w' b rb what e S M N z lv rows R := h.move hb.size (fun k hk => hb.block k (h.lt hk)) (fun k hk => hb.block k (h.ra.zlt hk))
theorem rleaf_any (h : RM w b rb what e S M N z lv rows R) (hw : 1 ≤ what ∧ what ≤ 3) (hf : f = 0 ∨ f = 1) (hg : g = 0 ∨ g = 1) :
    Calls Try.prog 79 #[.pointer (some ⟨b, 0, none⟩), .int .i64 f, .int .i64 g] w fun e w' => e = .returned (.int .i64 (leafV (what - 1) f g)) ∧ w = w' := by
  have x1 := h.blk.cell 1
  have hbl := h.blk.lt
  clear h
  rcases (by omega : what = 1 ∨ what = 2 ∨ what = 3) with rfl | rfl | rfl
  all_goals (
    rcases hf with rfl | rfl
    all_goals (
      rcases hg with rfl | rfl
      all_goals (
        go_enter Try.func79, Try.ntmps79
        go_wp2_with fail
        go_ret
        exact ⟨rfl, rfl⟩)))
theorem rkid_any {l : Int} {n : Nat} (h : RM w b rb what e S M N z lv rows R) (hf : hasA N f = true) (hl : l ≤ lvl S.length N f) (hl0 : 0 ≤ l ∧ l < S.length) (hc : n < (S.getD l.toNat 0).toNat) :
    Calls Try.prog 81 #[.pointer (some ⟨b, 0, none⟩), .int .i64 f, .int .i64 l, .int .i64 (n : Int)] w fun e w' => e = .returned (.int .i64 (kidA S.length N f l n)) ∧ w = w' := by
  have x0 := h.blk.cell 0
  have hG := h.ra.good
  have HL := Hid.mk_ (rlevel_at h.ra f)
  obtain ⟨q, hq⟩ : ∃ q, q = lvl S.length N f := ⟨_, rfl⟩
  rw [← hq] at HL hl
  have hbl := h.blk.lt
  by_cases e1 : q = l
  · obtain ⟨l', ks, ha⟩ := hG.spot hf (by omega)
    have e3 : l' = l := by have := ha.lv; omega
    subst e3
    have ek : kidA S.length N f l' n = ks.getD n 0 := by unfold kidA; rw [if_pos (by omega), ha.kse]
    have hn : n < ks.length := by have := ha.len; omega
    rw [ek, getD_mem hn]
    subst e1
    have HK := Hid.mk_ (rkid_at h.ra ha hn)
    have hlt : ¬ q < q := by omega
    clear hq hf ha ek h hG hc hl0 hl
    go_enter Try.func81, Try.ntmps81
    go_wp2_with (first
      | (go_at_call 49; (with_reducible refine HL.out.mono ?_); rintro e w' ⟨rfl, rfl⟩)
      | (go_at_call 66; (with_reducible refine HK.out.mono ?_); rintro e w' ⟨rfl, rfl⟩))
    go_ret
    exact ⟨rfl, rfl⟩
  · have ek : kidA S.length N f l n = f := by unfold kidA; rw [if_neg (by omega)]
    rw [ek]
    have hlt : l < q := by omega
    clear hq hf ek h hG hc hl0 hl e1
    go_enter Try.func81, Try.ntmps81
    go_wp2_with (go_at_call 49; (with_reducible refine HL.out.mono ?_); rintro e w' ⟨rfl, rfl⟩)
    go_ret
    exact ⟨rfl, rfl⟩
/-- what a list of pairs has for a number -/
def fnd (l : List (Int × Int)) (g : Int) : Int × Bool := match l.find? (fun p => decide (p.1 = g)) with | some p => (p.2, true) | none => (0, false)
theorem fnd_at {l : List (Int × Int)} {i : Nat} (hi : i < l.length) (hb : ∀ j (hj : j < i), (l[j]'(by omega)).1 ≠ g) (he : (l[i]'hi).1 = g) : fnd l g = ((l[i]'hi).2, true) := by
  induction l generalizing i with
  | nil => simp at hi
  | cons p l ih =>
    cases i with
    | zero =>
      simp only [List.getElem_cons_zero] at he ⊢
      unfold fnd
      rw [List.find?_cons_of_pos (by simpa using he)]
    | succ i =>
      have h0 := hb 0 (by omega)
      simp only [List.getElem_cons_zero] at h0
      have := ih (i := i) (by simpa using hi) (fun j hj => by have := hb (j + 1) (by omega); simpa using this) (by simpa using he)
      unfold fnd at this ⊢
      rw [List.find?_cons_of_neg (by simpa using h0)]
      simpa using this
theorem fnd_none {l : List (Int × Int)} (hb : ∀ j (hj : j < l.length), (l[j]'hj).1 ≠ g) : fnd l g = (0, false) := by
  unfold fnd
  rw [List.find?_eq_none.2]
  intro p hp
  obtain ⟨j, hj, rfl⟩ := List.getElem_of_mem hp
  simpa using hb j hj
theorem found_any {fn : Nat} (h : RM w b rb what e S M N z lv rows R) (hf : fn < R.length) :
    Calls Try.prog 80 #[.pointer (some ⟨b, 0, none⟩), .int .i64 (fn : Int), .int .i64 g] w fun e w' => e = .returned (.tuple #[.int .i64 (fnd (R[fn]'hf) g).1, .bool (fnd (R[fn]'hf) g).2]) ∧ w = w' := by
  have x2 := h.blk.cell 2
  have hbl := h.blk.lt
  have hfr : fn < rows.length := by rw [h.rl]; exact hf
  have hfr1 : (fn : Int) < rows.length := by omega
  obtain ⟨gl, cl, rfl, hgl, _⟩ := h.lrow.some_ (by omega)
  have y0 : w.cell? ⟨gl, fn, none⟩ = some (rows[fn]'hfr) := by rw [h.lrow.cell fn (by omega)]; exact List.getElem?_eq_getElem hfr
  have hrow := h.rws fn hfr hf
  obtain ⟨l, hl⟩ : ∃ l, l = R[fn]'hf := ⟨_, rfl⟩
  rw [← hl] at hrow ⊢
  obtain ⟨v, hv⟩ : ∃ v, v = rows[fn]'hfr := ⟨_, rfl⟩
  rw [← hv] at hrow y0
  obtain ⟨A, c, rfl⟩ := hrow.shape
  have HR := Hid.mk_ hrow
  have hll : l.length ≤ 9223372036854775807 := by
    rcases hrow.2 with ⟨e1, e2⟩ | ⟨g1, cap, cur, e1, _, h3, h4, _⟩
    · omega
    · cases e1; unfold maxLen at h4; omega
  clear h hl hv hrow
  go_enter Try.func80, Try.ntmps80
  go_wp2_with fail
  go_loopw [8] (fun x8 wr => ∃ (i : Nat), i ≤ l.length ∧ x8 = .int .i64 (i : Int) ∧ wr = w ∧ Hid (∀ j (hj : j < i) (h2 : j < l.length), (l[j]'h2).1 ≠ g)) (fun x8 _ => l.length - (intOf x8).toNat)
  case atStart => exact ⟨0, Nat.zero_le _, rfl, by first | rfl | trivial, fun j hj => by omega⟩
  case round =>
    obtain ⟨i, hi, rfl, rfl, HB⟩ := hrel
    by_cases hlt : i < l.length
    · have hlt1 : (i : Int) < l.length := by omega
      obtain ⟨g1, c1, e1, hg1, _⟩ := HR.out.some_ (by omega)
      cases e1
      obtain ⟨p0, p1⟩ := prs_get l i hlt
      have c0 : wr.cell? ⟨g1, i * 2, none⟩ = some (.int .i64 (l[i]'hlt).1) := (HR.out.cell _ (by omega)).trans p0
      have c1' : wr.cell? ⟨g1, i * 2 + 1, none⟩ = some (.int .i64 (l[i]'hlt).2) := (HR.out.cell _ (by omega)).trans p1
      obtain ⟨q, hq⟩ : ∃ q, q = l[i]'hlt := ⟨_, rfl⟩
      rw [← hq] at c0 c1'
      have HQ := Hid.mk_ hq
      clear p0 p1 hq
      by_cases he : q.1 = g
      · have hfd := fnd_at (g := g) hlt (fun j hj => HB.out j hj (by omega)) (by rw [← HQ.out]; exact he)
        rw [← HQ.out] at hfd
        have t1 : (q.1 == g) = true := by simpa using he
        have t2 : decide (q.1 = g) = true := by simpa using he
        have HFD := Hid.mk_ hfd
        clear hfd he
        go_wp2_with fail
        go_ret2
        exact ⟨by rw [HFD.out]; rfl, rfl⟩
      · have t1 : (q.1 == g) = false := by simpa using he
        have t2 : decide (q.1 = g) = false := by simpa using he
        have HE := Hid.mk_ he
        clear he
        go_wp2_with fail
        refine ⟨⟨i + 1, by omega, by go_num, by first | rfl | trivial, Hid.mk_ fun j hj h2 => ?_⟩, by simp [intOf]; omega⟩
        by_cases ej : j = i
        · subst ej; rw [← HQ.out]; exact HE.out
        · exact HB.out j (by omega) h2
    · have hie : i = l.length := by omega
      subst hie
      have hlt1 : ¬ ((l.length : Nat) : Int) < l.length := by omega
      have HFD := Hid.mk_ (fnd_none (g := g) (fun j hj => HB.out j hj hj))
      go_wp2_with fail
      go_ret2
      exact ⟨by rw [HFD.out]; rfl, rfl⟩
end
end Go.Proofs.Ytmfdcaalbpikpaa
namespace Go.Proofs.Ytmfdcaalbpikpaa
open Go.RowKit Go.Maps
set_option linter.unusedVariables false
set_option linter.unusedSimpArgs false
def rmz (b : Nat) (lv : Value) (rows : List Value) (z : List Nat) (k : Nat) : Prop := k ∈ z ∨ k = b ∨ lv.ownBlock = some k ∨ ∃ v ∈ rows, v.ownBlock = some k
section
variable {w w' : World} {b rb : Nat} {what e : Int} {S : List Int} {M : Int} {N N' : List Nd} {z : List Nat} {lv : Value} {rows : List Value} {R : List (List (Int × Int))} {f g : Int}
theorem RM.grew (h : RM w b rb what e S M N z lv rows R) (hg : RGrew w w' rb S M N' z) : ∃ z', RM w' b rb what e S M N' z' lv rows R ∧ Mods (· ∈ z) w w' ∧ ∀ k ∈ z', k ∈ z ∨ w.heap.size ≤ k := by
  obtain ⟨z', hp, hm, hz⟩ := hg
  have hh : ∀ k, (k = b ∨ lv.ownBlock = some k ∨ ∃ v ∈ rows, v.ownBlock = some k) → w'.heap[k]? = w.heap[k]? := fun k hk => hm.block k (h.lt hk) (h.cold k hk)
  exact ⟨z', ⟨h.blk.move (hh b (.inl rfl)), hp, h.lrow.move (fun k hk => hh k (.inr (.inl hk))), h.rl, fun i hi hi2 => (h.rws i hi hi2).move (fun k hk => hh k (.inr (.inr ⟨_, List.getElem_mem hi, hk⟩))), h.apart, fun k hk hkz => by
    rcases hz k hkz with e | e
    · exact h.cold k hk e
    · have := h.lt hk; omega⟩, hm, hz⟩
theorem RM.setE (h : RM w b rb what e S M N z lv rows R) (e' : Int) : RM (w.setCell ⟨b, 3, none⟩ (.int .i64 e')) b rb what e' S M N z lv rows R := by
  have hk : ∀ k, k ≠ b → (w.setCell ⟨b, 3, none⟩ (.int .i64 e')).heap[k]? = w.heap[k]? := fun k hk => Below.heap_setCell _ _ _ _ hk
  refine ⟨h.blk.set 3 _, h.ra.move (by simp [World.setCell]) (fun k hkz => hk k (fun e => h.cold b (.inl rfl) (e ▸ hkz))), h.lrow.move (fun k hk' => hk k (fun e => row_blk h.lrow h.blk (by decide) (e ▸ hk'))), h.rl, fun i hi hi2 => (h.rws i hi hi2).move (fun k hk' => hk k (fun e => row_blk (h.rws i hi hi2) h.blk (by decide) (e ▸ hk'))), h.apart, h.cold⟩
theorem RM.append {w1 : World} {fn gl cl g9 c9 : Nat} {x : Int} {o : Obj} {n : Nat} (h : RM w b rb what e S M N z (.slice (some ⟨gl, 0, none⟩) n cl) rows R) (hf : fn < rows.length) (hf2 : fn < R.length)
    (hrow : Row w1 125 2 (.slice (some ⟨g9, 0, none⟩) ((R[fn]'hf2).length + 1) c9) ((R[fn]'hf2).length + 1) (prs (R[fn]'hf2) ++ [.int .i64 g, .int .i64 x])) (hg : (w.alloc o).grownBy w1 (rows[fn]'hf).ownBlock) (hl : (rows[fn]'hf).ownBlock = some g9 ∨ g9 = w.heap.size + 1) :
    RM (w1.setCell ⟨gl, fn, none⟩ (.slice (some ⟨g9, 0, none⟩) ((R[fn]'hf2).length + 1) c9)) b rb what e S M N z (.slice (some ⟨gl, 0, none⟩) n cl) (rows.set fn (.slice (some ⟨g9, 0, none⟩) ((R[fn]'hf2).length + 1) c9)) (R.set fn (R[fn]'hf2 ++ [(g, x)])) ∧
    Mods (rmz b (.slice (some ⟨gl, 0, none⟩) n cl) rows z) w (w1.setCell ⟨gl, fn, none⟩ (.slice (some ⟨g9, 0, none⟩) ((R[fn]'hf2).length + 1) c9)) ∧
    ∀ k, rmz b (.slice (some ⟨gl, 0, none⟩) n cl) (rows.set fn (.slice (some ⟨g9, 0, none⟩) ((R[fn]'hf2).length + 1) c9)) z k → rmz b (.slice (some ⟨gl, 0, none⟩) n cl) rows z k ∨ w.heap.size ≤ k := by
  obtain ⟨v', hv'⟩ : ∃ v', v' = Value.slice (some ⟨g9, 0, none⟩) ((R[fn]'hf2).length + 1) c9 := ⟨_, rfl⟩
  have hvo : ∀ k, v'.ownBlock = some k → k = g9 := fun k hk => by rw [hv'] at hk; exact (Option.some.inj hk).symm
  rw [← hv'] at hrow ⊢
  have hrf := h.rws fn hf hf2
  have keep : ∀ k, k < w.heap.size → (rows[fn]'hf).ownBlock ≠ some k → w1.heap[k]? = w.heap[k]? := fun k hk hne => (hg.block k (by simp; omega) (fun e => hne e.symm)).trans (Below.heap_alloc w o k hk)
  have keep2 : ∀ k, k < w.heap.size → (rows[fn]'hf).ownBlock ≠ some k → k ≠ gl → (w1.setCell ⟨gl, fn, none⟩ v').heap[k]? = w.heap[k]? := fun k hk hne hne2 => (Below.heap_setCell _ _ _ _ hne2).trans (keep k hk hne)
  have hs : w.heap.size + 1 ≤ w1.heap.size := by have := hg.size; simpa using this
  have glt := h.lrow.lt gl rfl
  have hgl : (rows[fn]'hf).ownBlock ≠ some gl := fun e => row_type h.lrow hrf (by decide) rfl e
  have hbn : (rows[fn]'hf).ownBlock ≠ some b := row_blk hrf h.blk (by decide)
  have hbg : b ≠ gl := fun e => row_blk h.lrow h.blk (by decide) (by rw [e]; rfl)
  have hg9 : g9 ≠ gl := by
    rcases hl with e | e
    · exact fun e2 => hgl (by rw [← e2]; exact e)
    · omega
  have hzc : ∀ k ∈ z, (w1.setCell ⟨gl, fn, none⟩ v').heap[k]? = w.heap[k]? := fun k hk => keep2 k (h.ra.zlt hk) (fun e => h.cold k (.inr (.inr ⟨_, List.getElem_mem hf, e⟩)) hk) (fun e => h.cold k (.inr (.inl (by rw [e]; rfl))) hk)
  have hl1 : Row w1 124 1 (.slice (some ⟨gl, 0, none⟩) n cl) rows.length rows := h.lrow.move fun k hk => by
    have e : gl = k := Option.some.inj hk
    subst e
    exact keep gl glt hgl
  refine ⟨⟨h.blk.move (keep2 b h.blk.lt hbn hbg), h.ra.move (by simp [World.setCell]; omega) hzc, ?_, by rw [List.length_set, List.length_set]; exact h.rl, fun i hi hi2 => ?_, fun i j hi hj hij k hk => ?_, fun k hk => ?_⟩, ?_, fun k hk => ?_⟩
  · rw [List.length_set]
    have hn : n = rows.length := by
      rcases hl1.2 with ⟨e1, _⟩ | ⟨g1, cap, cur, e1, _⟩
      · cases e1
      · cases e1; rfl
    subst hn
    exact hl1.set fn v'
  · rw [List.length_set] at hi hi2
    by_cases e1 : fn = i
    · subst e1
      rw [List.getElem_set_self, List.getElem_set_self, List.length_append, prs_snoc]
      exact hrow.move fun k hk => Below.heap_setCell _ _ _ _ (by rw [hvo k hk]; exact hg9)
    · rw [List.getElem_set_ne e1, List.getElem_set_ne e1]
      refine (h.rws i hi hi2).move fun k hk => keep2 k ((h.rws i hi hi2).lt k hk) (fun e2 => h.apart fn i hf hi e1 k e2 hk) (fun e2 => row_type h.lrow (h.rws i hi hi2) (by decide) rfl (by rw [← e2]; exact hk))
  · rw [List.length_set] at hi hj
    by_cases e1 : fn = i
    · subst e1
      rw [List.getElem_set_self] at hk
      rw [List.getElem_set_ne hij]
      have := hvo k hk
      subst this
      rcases hl with e2 | e2
      · exact h.apart fn j hf hj hij k e2
      · intro e3
        have := (h.rws j hj (by rw [← h.rl]; exact hj)).lt k e3
        omega
    · rw [List.getElem_set_ne e1] at hk
      by_cases e3 : fn = j
      · subst e3
        rw [List.getElem_set_self]
        intro e4
        have := hvo k e4
        subst this
        rcases hl with e2 | e2
        · exact h.apart i fn hi hf (fun e => e1 e.symm) k hk e2
        · have := (h.rws i hi (by rw [← h.rl]; exact hi)).lt k hk
          omega
      · rw [List.getElem_set_ne e3]
        exact h.apart i j hi hj hij k hk
  · rcases hk with e1 | e1 | ⟨u, hu, e1⟩
    · exact h.cold k (.inl e1)
    · exact h.cold k (.inr (.inl e1))
    · rcases List.mem_or_eq_of_mem_set hu with hu | hu
      · exact h.cold k (.inr (.inr ⟨u, hu, e1⟩))
      · subst hu
        have := hvo k e1
        subst this
        rcases hl with e2 | e2
        · exact h.cold k (.inr (.inr ⟨_, List.getElem_mem hf, e2⟩))
        · intro hz; have := h.ra.zlt hz; omega
  · have m1 : Mods (rmz b (.slice (some ⟨gl, 0, none⟩) n cl) rows z) w w1 := ((Mods.refl _ w).alloc o).grown hg (fun k e1 _ => .inr (.inr (.inr ⟨_, List.getElem_mem hf, e1⟩)))
    exact m1.setCell (p := ⟨gl, fn, none⟩) (fun _ => .inr (.inr (.inl rfl))) v'
  · rcases hk with e1 | e1 | e1 | ⟨u, hu, e1⟩
    · exact .inl (.inl e1)
    · exact .inl (.inr (.inl e1))
    · exact .inl (.inr (.inr (.inl e1)))
    · rcases List.mem_or_eq_of_mem_set hu with hu | hu
      · exact .inl (.inr (.inr (.inr ⟨u, hu, e1⟩)))
      · subst hu
        have := hvo k e1
        subst this
        rcases hl with e2 | e2
        · exact .inl (.inr (.inr (.inr ⟨_, List.getElem_mem hf, e2⟩)))
        · exact .inr (by omega)
end
end Go.Proofs.Ytmfdcaalbpikpaa
