/- Scripts: their size; what a step may change. -/
import Derived.Test.YtdccgmfhnofabaaDoorE3
namespace Go.Proofs.YtdccgmfhnofabaaDoor
open Go.RowKit
set_option linter.unusedVariables false
set_option linter.unusedSimpArgs false
/-- what several steps may have changed: blocks of those that P names, and new ones -/
structure Ch (P : Nat → Prop) (o o' : Nat → Nat) (w w' : World) : Prop where
  mods : Mods (fun k => P (o k)) w w'
  keep : ∀ k, k < w.heap.size → o' k = o k
section
variable {w0 w w' w2 : World} {o o' o2 : Nat → Nat} {i j b : Nat} {r : Wr} {rr : Rd} {P Q : Nat → Prop}
theorem Ch.refl (P : Nat → Prop) (o : Nat → Nat) (w : World) : Ch P o o w w := ⟨Mods.refl _ _, fun _ _ => rfl⟩
theorem Ch.one (hm : Mods (fun k => o k = i) w w') : Ch (· = i) o (upd o w.heap.size i) w w' := ⟨hm, fun k hk => upd_old hk⟩
theorem Ch.quiet (P : Nat → Prop) (hb : Below w.heap.size w w') : Ch P o o w w' := ⟨Mods.of_new hb, fun _ _ => rfl⟩
theorem Ch.fresh (P : Nat → Prop) (t : Nat) (hb : Below w.heap.size w w') : Ch P o (upd o w.heap.size t) w w' := ⟨Mods.of_new hb, fun _ hk => upd_old hk⟩
theorem Ch.mono (h : Ch P o o' w w') (hp : ∀ x, P x → Q x) : Ch Q o o' w w' := ⟨h.mods.mono (fun k _ e => hp _ e), h.keep⟩
theorem Ch.trans (h : Ch P o o' w w') (h2 : Ch P o' o2 w' w2) : Ch P o o2 w w2 :=
  ⟨h.mods.trans h2.mods (fun k hk e => by rw [h.keep k hk] at e; exact e), fun k hk => (h2.keep k (Nat.lt_of_lt_of_le hk h.mods.size)).trans (h.keep k hk)⟩
theorem Sys.ch (h : Sys w0 w o) (hc : Ch P o o' w w') (hp : ¬ P 0) : Sys w0 w' o' := by
  have hs := h.below.size
  have hpos := h.pos
  refine ⟨h.below.trans (hc.mods.below hs (fun k _ e => ?_)), fun k hk => ?_, h.glob.move (hc.mods.block 0 (by omega) (fun e => ?_)), hpos⟩
  · rcases Nat.lt_or_ge k w0.heap.size with h1 | h1
    · rw [h.out k h1] at e; exact absurd e hp
    · exact h1
  · rw [hc.keep k (by omega)]; exact h.out k hk
  · rw [h.out 0 hpos] at e; exact hp e
theorem WSt.ch (h : WSt w o j b r) (hc : Ch P o o' w w') (hp : ¬ P j) : WSt w' o' j b r := by
  obtain ⟨p, v, ev, h1, h2, h3⟩ := h
  have e1 : ∀ g, errB ev = some g → g < w.heap.size := fun g hg => by
    rcases h1.err with ⟨_, e⟩ | ⟨_, g', e, hk⟩
    · rw [e] at hg; simp [errB] at hg
    · rw [e] at hg; simp [errB] at hg; subst hg; exact hk.lt
  have hz : ∀ k, zW b v k → w'.heap[k]? = w.heap[k]? := fun k hk => hc.mods.block k (h1.lt k hk) (by rw [h2 k hk]; exact hp)
  refine ⟨p, v, ev, ⟨h1.blk.move (hz b (.inl rfl)), h1.ptr, ownF_move h1.own (fun k hk => hz k (.inr hk)), h1.err.move' (fun g hg hl => hc.mods.block g hl (by rw [h3 g hg]; exact hp)), h1.room0, h1.room1, h1.b0, h1.own0⟩, fun k hk => ?_, fun g hg => ?_⟩
  · rw [hc.keep k (h1.lt k hk)]; exact h2 k hk
  · rw [hc.keep g (e1 g hg)]; exact h3 g hg
theorem XWSt.ch (h : XWSt w o j b r) (hc : Ch P o o' w w') (hp : ¬ P j) : XWSt w' o' j b r := by
  obtain ⟨v, h1, h2⟩ := h
  refine ⟨v, h1.move (fun k hk => hc.mods.block k (h1.lt k hk) (by rw [h2 k hk]; exact hp)), fun k hk => ?_⟩
  rw [hc.keep k (h1.lt k hk)]; exact h2 k hk
theorem RSt.ch (h : RSt w o j b rr) (hc : Ch P o o' w w') (hp : ¬ P j) : RSt w' o' j b rr := by
  obtain ⟨ev, h1, h2, h3⟩ := h
  refine ⟨ev, ⟨h1.blk.move (hc.mods.block b h1.blk.lt (by rw [h2]; exact hp)), h1.err.move' (fun g hg hl => hc.mods.block g hl (by rw [h3 g hg]; exact hp)), h1.len, h1.b0⟩, ?_, fun g hg => ?_⟩
  · rw [hc.keep b h1.blk.lt]; exact h2
  · rw [hc.keep g (h1.elt g hg)]; exact h3 g hg
theorem XSt.ch (h : XSt w o j b rr) (hc : Ch P o o' w w') (hp : ¬ P j) : XSt w' o' j b rr :=
  ⟨⟨h.1.blk.move (hc.mods.block b h.1.blk.lt (by rw [h.2]; exact hp)), h.1.len, h.1.b0⟩, by rw [hc.keep b h.1.blk.lt]; exact h.2⟩
/-- a block of pointers that nobody changes -/
def PBlk (w : World) (o : Nat → Nat) (g : Nat) (cs : List Value) (t : TypeId) : Prop := Blk w g cs t ∧ o g = 9
theorem PBlk.ch {g : Nat} {cs : List Value} {t : TypeId} (h : PBlk w o g cs t) (hc : Ch P o o' w w') (hp : ¬ P 9) : PBlk w' o' g cs t :=
  ⟨h.1.move (hc.mods.block g h.1.lt (by rw [h.2]; exact hp)), by rw [hc.keep g h.1.lt]; exact h.2⟩
end
/-! scripts -/
structure OpC where
  kind : Int
  on : Int
  size : Int
  n : Int
  s : List UInt8
def OpC.cells (o : OpC) : List Value := [.int .i64 o.kind, .int .i64 o.on, .int .i64 o.size, .int .i64 o.n, str o.s]
def OpC.agg (o : OpC) : Value := .agg #[.int .i64 o.kind, .int .i64 o.on, .int .i64 o.size, .int .i64 o.n, str o.s]
structure OpOk (o : OpC) : Prop where
  kind : i64 o.kind
  on : i64 o.on
  size : i64 o.size
  n : i64 o.n
  len : o.s.length ≤ 9223372036854775807
structure OpsIn (w : World) (B : Nat) (A : Option Addr) (ops : List OpC) : Prop where
  len : ops.length ≤ 9223372036854775807
  at_ : 0 < ops.length → ∃ g p, A = some ⟨g, p, none⟩ ∧ g < B ∧ ∀ j (h : j < ops.length), w.cell? ⟨g, p + j * 5, none⟩ = some (.int .i64 (ops[j]'h).kind) ∧ w.cell? ⟨g, p + j * 5 + 1, none⟩ = some (.int .i64 (ops[j]'h).on) ∧ w.cell? ⟨g, p + j * 5 + 2, none⟩ = some (.int .i64 (ops[j]'h).size) ∧ w.cell? ⟨g, p + j * 5 + 3, none⟩ = some (.int .i64 (ops[j]'h).n) ∧ w.cell? ⟨g, p + j * 5 + 4, none⟩ = some (str (ops[j]'h).s)
  each : ∀ o ∈ ops, OpOk o
theorem OpsIn.new {w w' : World} {B : Nat} {A : Option Addr} {ops : List OpC} (h : OpsIn w B A ops) (hb : Below B w w') : OpsIn w' B A ops := by
  refine ⟨h.len, fun h0 => ?_, h.each⟩
  obtain ⟨g, p, e, hg, hc⟩ := h.at_ h0
  refine ⟨g, p, e, hg, fun j hj => ?_⟩
  obtain ⟨c0, c1, c2, c3, c4⟩ := hc j hj
  exact ⟨(hb.cell (p := ⟨g, _, none⟩) hg).trans c0, (hb.cell (p := ⟨g, _, none⟩) hg).trans c1, (hb.cell (p := ⟨g, _, none⟩) hg).trans c2, (hb.cell (p := ⟨g, _, none⟩) hg).trans c3, (hb.cell (p := ⟨g, _, none⟩) hg).trans c4⟩
def addV (n m : Int) : Int := if 2147483647 - n < m then 2147483648 else n + m
theorem add_any (n m : Int) (h0 : 0 ≤ n) (h1 : n ≤ 9223372036854775807) (hm0 : 0 ≤ m) (hm1 : m ≤ 9223372036854775807) (w : World) : Calls Tryd.prog 18 #[.int .i64 n, .int .i64 m] w fun e w' => e = .returned (.int .i64 (addV n m)) ∧ w = w' := by
  by_cases h : 2147483647 - n < m
  · have E := Hid.mk_ (show addV n m = 2147483648 from if_pos h)
    go_enter Tryd.func18, Tryd.ntmps18
    go_wp2_with fail
    go_ret
    exact ⟨by rw [E.out]; rfl, rfl⟩
  · have E := Hid.mk_ (show addV n m = n + m from if_neg h)
    have hs : n + m ≤ 2147483647 := by omega
    go_enter Tryd.func18, Tryd.ntmps18
    go_wp2_with fail
    go_ret
    exact ⟨by rw [E.out]; rfl, rfl⟩
def tot : List OpC → Nat
  | [] => 0
  | o :: l => 100 + o.s.length + tot l
theorem tot_append : ∀ a b : List OpC, tot (a ++ b) = tot a + tot b
  | [], b => by simp [tot]
  | o :: a, b => by simp only [List.cons_append, tot, tot_append a b]; omega
theorem tot_take (l : List OpC) (k : Nat) (h : k < l.length) : tot (l.take (k + 1)) = tot (l.take k) + 100 + (l[k]'h).s.length := by
  rw [List.take_succ_eq_append_getElem h, tot_append]; simp only [tot]; omega
theorem tot_le (l : List OpC) (k : Nat) : tot (l.take k) ≤ tot l := by
  conv => rhs; rw [← List.take_append_drop k l, tot_append]
  omega
def capT (t : Int) : Int := if t ≤ 2147483647 then t else 2147483648
theorem cap_step {N l : Int} (h0 : 0 ≤ N) (h : N ≤ 2147483647) (hl : 0 ≤ l) : addV (addV N 100) l = capT (N + 100 + l) := by
  unfold addV capT
  by_cases h1 : 2147483647 - N < 100
  · rw [if_pos h1, if_pos (by omega), if_neg (by omega)]
  · rw [if_neg h1]
    by_cases h2 : 2147483647 - (N + 100) < l
    · rw [if_pos h2, if_neg (by omega)]
    · rw [if_neg h2, if_pos (by omega)]
theorem addV_range {n m : Int} (h0 : 0 ≤ n) (hm : 0 ≤ m) : 0 ≤ addV n m ∧ addV n m ≤ 2147483648 := by
  unfold addV; split <;> omega
def SizePost (w : World) (ops : List OpC) (e : Ending) (w' : World) : Prop := ∃ R : Int, e = .returned (.int .i64 R) ∧ 0 ≤ R ∧ R ≤ 2147483648 ∧ (R ≤ 2147483647 → R = (tot ops : Int)) ∧ Below w.heap.size w w'
theorem quietly2 {f : Nat} {args : Array Value} {v : Value} {w : World} (n k : Nat) (h : Calls Tryd.prog f args (w.drewN (n + k)) fun e w' => e = .returned v ∧ w.drewN (n + k) = w') :
    Calls Tryd.prog f args (w.drewN (n + k)) fun e w'' => e = .returned v ∧ ∃ m, w'' = w.drewN (n + m) := h.mono fun _ _ ⟨he, hm⟩ => ⟨he, k, hm.symm⟩
set_option maxHeartbeats 2000000 in
theorem size_any {w : World} {A : Option Addr} {c : Nat} {ops : List OpC} (h : OpsIn w w.heap.size A ops) : Calls Tryd.prog 12 #[.slice A ops.length c] w (SizePost w ops) := by
  have H := Hid.mk_ h
  have hlen := h.len
  clear h
  go_enter Tryd.func12, Tryd.ntmps12
  go_wp2_with fail
  go_loopw [3, 4] (fun x3 x4 wr => ∃ (k m : Nat) (N : Int), k ≤ ops.length ∧ x4 = .int .i64 (k : Int) ∧ x3 = .int .i64 N ∧ 0 ≤ N ∧ N ≤ 2147483648 ∧ Hid (N ≤ 2147483647 → N = (tot (ops.take k) : Int)) ∧ wr = w.drewN m) (fun _ x4 _ => ops.length - (intOf x4).toNat)
  case atStart => exact ⟨0, 0, 0, Nat.zero_le _, rfl, rfl, by omega, by omega, Hid.mk_ (fun _ => by simp [tot]), rfl⟩
  case round =>
    obtain ⟨k, m, N, hk, rfl, rfl, hN0, hN1, HN, rfl⟩ := hrel
    by_cases hlt : k < ops.length
    · have hlt1 : (k : Int) < ops.length := by omega
      by_cases hNb : N ≤ 2147483647
      · obtain ⟨g, p, rfl, hg, hc⟩ := H.out.at_ (by omega)
        obtain ⟨_, _, _, _, c4⟩ := hc k hlt
        have hok := H.out.each _ (List.getElem_mem hlt)
        have hol := hok.len
        have ht := tot_take ops k hlt
        obtain ⟨l, hl⟩ : ∃ l, l = (ops[k]'hlt).s := ⟨_, rfl⟩
        rw [← hl] at c4 hol ht
        have hst := cap_step (l := (l.length : Int)) hN0 hNb (by omega)
        have hr1 := addV_range (n := N) (m := 100) hN0 (by omega)
        have HA1 := Hid.mk_ (fun q => quietly2 m q (add_any N 100 hN0 (by omega) (by omega) (by omega) (w.drewN (m + q))))
        have HA2 := Hid.mk_ (fun q => quietly2 m q (add_any (addV N 100) (l.length : Int) hr1.1 (by omega) (by omega) (by omega) (w.drewN (m + q))))
        rw [hst] at HA2
        have hcap : 0 ≤ capT (N + 100 + l.length) ∧ capT (N + 100 + l.length) ≤ 2147483648 := by unfold capT; split <;> omega
        have HT : Hid (capT (N + 100 + l.length) ≤ 2147483647 → capT (N + 100 + l.length) = (tot (ops.take (k + 1)) : Int)) := fun h => by
          have e := HN.out hNb
          unfold capT at h ⊢
          split
          · rw [ht]; omega
          · rename_i h2; rw [if_neg h2] at h; omega
        obtain ⟨a, ha⟩ : ∃ a, a = addV N 100 := ⟨_, rfl⟩
        obtain ⟨d, hd⟩ : ∃ d, d = capT (N + 100 + l.length) := ⟨_, rfl⟩
        rw [← ha] at HA1 HA2
        rw [← hd] at HA2 hcap HT
        clear ha hd hl ht hst hc hok hr1
        go_wp2_with fail
        go_big_quiet ((first
          | (go_at_call 18; with_reducible exact HA1.out _)
          | (go_at_call 18; with_reducible exact HA2.out _)))
        go_wp2_with fail
        refine ⟨⟨k + 1, _, d, by omega, by go_num, rfl, hcap.1, hcap.2, HT, rfl⟩, by simp [intOf]; omega⟩
      · have hNb1 : ¬ N ≤ 2147483647 := hNb
        go_wp2_with fail
        go_ret
        exact ⟨N, rfl, hN0, hN1, fun h => by omega, Drawn_below _ _⟩
    · have hlt1 : ¬ (k : Int) < ops.length := by omega
      have e : tot (ops.take k) = tot ops := by rw [List.take_of_length_le (by omega)]
      rw [e] at HN
      clear e
      go_wp2_with fail
      go_ret
      exact ⟨N, rfl, hN0, hN1, HN.out, Drawn_below _ _⟩
end Go.Proofs.YtdccgmfhnofabaaDoor
