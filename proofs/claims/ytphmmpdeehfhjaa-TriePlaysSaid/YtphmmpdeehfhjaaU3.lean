/- TriePlays: the state between steps, and a step. -/
import Derived.Test.YtphmmpdeehfhjaaR8
namespace Go.Proofs.Ytphmmpdeehfhjaa
open Go.RowKit
set_option linter.unusedVariables false
set_option linter.unusedSimpArgs false
/-- two sides, a book, a block that stays -/
structure ST (base : Nat) (w0 wr : World) (bb gl : Nat) (O : Obj) (m : Nat) (s0 a0 b0 : Nat) (t0 : Tr) (fp0 fr0 : List Nat) (l0 : List Cut) (s1 a1 b1 : Nat) (t1 : Tr) (fp1 fr1 : List Nat) (l1 : List Cut)
    (fv wv av : Value) (fl : List (Nat × List Row)) (ws es : List Value) (wz dz : List Nat) (N : Nat) : Prop where
  x : Side wr s0 t0 a0 fp0 b0 fr0 l0
  y : Side wr s1 t1 a1 fp1 b1 fr1 l1
  book : Book wr bb fv wv av fl ws es wz dz N
  xy : ∀ k ∈ sz s0 fp0 fr0, k ∉ sz s1 fp1 fr1
  xb : ∀ k ∈ sz s0 fp0 fr0, ¬ bz bb fv wv av fl wz dz k
  yb : ∀ k ∈ sz s1 fp1 fr1, ¬ bz bb fv wv av fl wz dz k
  gx : gl ∉ sz s0 fp0 fr0
  gy : gl ∉ sz s1 fp1 fr1
  gb : ¬ bz bb fv wv av fl wz dz gl
  gle : wr.heap[gl]? = some O
  lo : ∀ k, k ∈ sz s0 fp0 fr0 ∨ k ∈ sz s1 fp1 fr1 ∨ bz bb fv wv av fl wz dz k → base ≤ k
  B : Below base w0 wr
  bs : base ≤ wr.heap.size
  num : N + fl.length ≤ m
def STE (base : Nat) (w0 wr : World) (bb gl : Nat) (O : Obj) (s0 s1 m : Nat) : Prop :=
  ∃ a0 b0 t0 fp0 fr0 l0 a1 b1 t1 fp1 fr1 l1 fv wv av fl ws es wz dz N, ST base w0 wr bb gl O m s0 a0 b0 t0 fp0 fr0 l0 s1 a1 b1 t1 fp1 fr1 l1 fv wv av fl ws es wz dz N
section
variable {base : Nat} {w0 wr w' : World} {bb gl : Nat} {O : Obj} {m : Nat} {s0 a0 b0 : Nat} {t0 : Tr} {fp0 fr0 : List Nat} {l0 : List Cut} {s1 a1 b1 : Nat} {t1 : Tr} {fp1 fr1 : List Nat} {l1 : List Cut}
variable {fv wv av : Value} {fl : List (Nat × List Row)} {ws es : List Value} {wz dz : List Nat} {N : Nat}
theorem ST.swap (h : ST base w0 wr bb gl O m s0 a0 b0 t0 fp0 fr0 l0 s1 a1 b1 t1 fp1 fr1 l1 fv wv av fl ws es wz dz N) : ST base w0 wr bb gl O m s1 a1 b1 t1 fp1 fr1 l1 s0 a0 b0 t0 fp0 fr0 l0 fv wv av fl ws es wz dz N :=
  ⟨h.y, h.x, h.book, fun k hk hk2 => h.xy k hk2 hk, h.yb, h.xb, h.gy, h.gx, h.gb, h.gle, fun k hk => h.lo k (by rcases hk with h1 | h1 | h1; exact .inr (.inl h1); exact .inl h1; exact .inr (.inr h1)), h.B, h.bs, h.num⟩
theorem STE.swap (h : STE base w0 wr bb gl O s0 s1 m) : STE base w0 wr bb gl O s1 s0 m := by
  obtain ⟨a0, b0, t0, fp0, fr0, l0, a1, b1, t1, fp1, fr1, l1, fv, wv, av, fl, ws, es, wz, dz, N, h⟩ := h
  exact ⟨_, _, _, _, _, _, _, _, _, _, _, _, _, _, _, _, _, _, _, _, _, h.swap⟩
theorem STE.mono (h : STE base w0 wr bb gl O s0 s1 m) {m' : Nat} (hm : m ≤ m') : STE base w0 wr bb gl O s0 s1 m' := by
  obtain ⟨a0, b0, t0, fp0, fr0, l0, a1, b1, t1, fp1, fr1, l1, fv, wv, av, fl, ws, es, wz, dz, N, h⟩ := h
  exact ⟨_, _, _, _, _, _, _, _, _, _, _, _, _, _, _, _, _, _, _, _, _, { h with num := Nat.le_trans h.num hm }⟩
theorem ST.new (h : ST base w0 wr bb gl O m s0 a0 b0 t0 fp0 fr0 l0 s1 a1 b1 t1 fp1 fr1 l1 fv wv av fl ws es wz dz N) (hb : Below wr.heap.size wr w') : ST base w0 w' bb gl O m s0 a0 b0 t0 fp0 fr0 l0 s1 a1 b1 t1 fp1 fr1 l1 fv wv av fl ws es wz dz N :=
  { h with
    x := h.x.new hb
    y := h.y.new hb
    book := h.book.move hb.size (fun k hk => hb.block k (h.book.lt k hk))
    gle := (hb.block gl (Array.getElem?_eq_some_iff.1 h.gle).1).trans h.gle
    B := h.B.trans (hb.mono h.bs)
    bs := Nat.le_trans h.bs hb.size }
theorem STE.new (h : STE base w0 wr bb gl O s0 s1 m) (hb : Below wr.heap.size wr w') : STE base w0 w' bb gl O s0 s1 m := by
  obtain ⟨a0, b0, t0, fp0, fr0, l0, a1, b1, t1, fp1, fr1, l1, fv, wv, av, fl, ws, es, wz, dz, N, h⟩ := h
  exact ⟨_, _, _, _, _, _, _, _, _, _, _, _, _, _, _, _, _, _, _, _, _, h.new hb⟩
/-- the first side has changed -/
theorem ST.side (h : ST base w0 wr bb gl O m s0 a0 b0 t0 fp0 fr0 l0 s1 a1 b1 t1 fp1 fr1 l1 fv wv av fl ws es wz dz N) {e : Ending} (hs : SideEnd wr s0 fp0 fr0 e w') : e = .returned (.bool true) ∧ STE base w0 w' bb gl O s0 s1 m := by
  obtain ⟨he, t', a', fp', b', fr', l', r1, r2, r3⟩ := hs
  have hsz := r3.size
  have hlt : ∀ k, k ∈ sz s1 fp1 fr1 → k < wr.heap.size := h.y.lt
  have hbl : ∀ k, bz bb fv wv av fl wz dz k → k < wr.heap.size := h.book.lt
  have hgl := (Array.getElem?_eq_some_iff.1 h.gle).1
  refine ⟨he, _, _, _, _, _, _, _, _, _, _, _, _, _, _, _, _, _, _, _, _, _, ⟨r1, h.y.move fun k hk => r3.block k (hlt k hk) (fun e => h.xy k e hk), h.book.move hsz (fun k hk => r3.block k (hbl k hk) (fun e => h.xb k e hk)), fun k hk hk2 => ?_, fun k hk hk2 => ?_, h.yb, fun e => ?_, h.gy, h.gb, (r3.block gl hgl h.gx).trans h.gle, fun k hk => ?_, h.B.trans (r3.below h.bs (fun k _ hk => h.lo k (.inl hk))), Nat.le_trans h.bs hsz, h.num⟩⟩
  · rcases r2 k hk with h1 | h1
    · exact h.xy k h1 hk2
    · have := hlt k hk2; omega
  · rcases r2 k hk with h1 | h1
    · exact h.xb k h1 hk2
    · have := hbl k hk2; omega
  · rcases r2 gl e with h1 | h1
    · exact h.gx h1
    · omega
  · rcases hk with hk | hk | hk
    · rcases r2 k hk with h1 | h1
      · exact h.lo k (.inl h1)
      · have := h.bs; omega
    · exact h.lo k (.inr (.inl hk))
    · exact h.lo k (.inr (.inr hk))
/-- the book has changed -/
theorem ST.booked (h : ST base w0 wr bb gl O m s0 a0 b0 t0 fp0 fr0 l0 s1 a1 b1 t1 fp1 fr1 l1 fv wv av fl ws es wz dz N) {fv' wv' av' : Value} {fl' : List (Nat × List Row)} {ws' es' : List Value} {wz' dz' : List Nat} {N' m' : Nat}
    (hb : Book w' bb fv' wv' av' fl' ws' es' wz' dz' N') (hsub : ∀ k, bz bb fv' wv' av' fl' wz' dz' k → bz bb fv wv av fl wz dz k ∨ wr.heap.size ≤ k) (hm : Mods (fun k => bz bb fv wv av fl wz dz k) wr w') (hn : N' + fl'.length ≤ m') : STE base w0 w' bb gl O s0 s1 m' := by
  have hsz := hm.size
  have hgl := (Array.getElem?_eq_some_iff.1 h.gle).1
  refine ⟨_, _, _, _, _, _, _, _, _, _, _, _, _, _, _, _, _, _, _, _, _, ⟨h.x.move fun k hk => hm.block k (h.x.lt k hk) (h.xb k hk), h.y.move fun k hk => hm.block k (h.y.lt k hk) (h.yb k hk), hb, h.xy, fun k hk hk2 => ?_, fun k hk hk2 => ?_, h.gx, h.gy, fun e => ?_, (hm.block gl hgl h.gb).trans h.gle, fun k hk => ?_, h.B.trans (hm.below h.bs (fun k _ hk => h.lo k (.inr (.inr hk)))), Nat.le_trans h.bs hsz, hn⟩⟩
  · rcases hsub k hk2 with h1 | h1
    · exact h.xb k hk h1
    · have := h.x.lt k hk; omega
  · rcases hsub k hk2 with h1 | h1
    · exact h.yb k hk h1
    · have := h.y.lt k hk; omega
  · rcases hsub gl e with h1 | h1
    · exact h.gb h1
    · omega
  · rcases hk with hk | hk | hk
    · exact h.lo k (.inl hk)
    · exact h.lo k (.inr (.inl hk))
    · rcases hsub k hk with h1 | h1
      · exact h.lo k (.inr (.inr h1))
      · have := h.bs; omega
theorem STE.still (h : STE base w0 wr bb gl O s0 s1 m) (hm : m ≤ 1000000) : Calls Try.prog 13 #[.pointer (some ⟨bb, 0, none⟩)] wr fun e w' => e = .returned (.bool true) ∧ STE base w0 w' bb gl O s0 s1 m := by
  obtain ⟨a0, b0, t0, fp0, fr0, l0, a1, b1, t1, fp1, fr1, l1, fv, wv, av, fl, ws, es, wz, dz, N, h⟩ := h
  have hn := h.num
  refine (still_any h.book (by omega)).mono ?_
  rintro e w' ⟨he, av', es', D, hb, hsub, hmo⟩
  refine ⟨he, h.booked hb (fun k hk => ?_) (hmo.mono fun k _ hk => hk.elim .inl (fun h => .inr (.inl h))) (by simpa using hn)⟩
  rcases hk with hk | hk | hk | hk
  · exact (hsub k (.inl hk)).imp_left (fun h => by rcases h with h | h | h; exact .inl h; exact .inr (.inl h); exact .inr (.inr (.inl h)))
  · simp at hk
  · exact (hsub k (.inr hk)).imp_left (fun h => by rcases h with h | h | h; exact .inl h; exact .inr (.inl h); exact .inr (.inr (.inl h)))
  · simp at hk
/-- what a step's op leads to -/
structure OpIn (base : Nat) (w0 : World) (o : OpV) : Prop where
  n : i64 o.n
  xs : ∀ W, Below base w0 W → base ≤ W.heap.size → IntsIn W o.LA o.xs
  lo : ∀ g q, o.LA = some ⟨g, q, none⟩ → 0 < o.xs.length → g < base
  rows : ∀ W, Below base w0 W → RowsIn W o.RA o.rows
  len : o.rows.length ≤ 2147483647
theorem STE.step (h : STE base w0 wr bb gl O s0 s1 m) (o : OpV) (ho : OpIn base w0 o) (hm : m ≤ 900000) : Calls Try.prog 12 #[.pointer (some ⟨s0, 0, none⟩), o.val, .pointer (some ⟨bb, 0, none⟩)] wr fun e w' => e = .returned (.bool true) ∧ STE base w0 w' bb gl O s0 s1 (m + 2) := by
  obtain ⟨a0, b0, t0, fp0, fr0, l0, a1, b1, t1, fp1, fr1, l1, fv, wv, av, fl, ws, es, wz, dz, N, h⟩ := h
  have hn := h.num
  have side : ∀ e w', SideEnd wr s0 fp0 fr0 e w' → e = .returned (.bool true) ∧ STE base w0 w' bb gl O s0 s1 (m + 2) := fun e w' hs => by
    obtain ⟨h1, h2⟩ := h.side hs
    exact ⟨h1, h2.mono (by omega)⟩
  have hA : ∀ g q, o.LA = some ⟨g, q, none⟩ → 0 < o.xs.length → g ∉ sz s0 fp0 fr0 := fun g q e h0 hk => by
    have h1 := ho.lo g q e h0
    have h2 := h.lo g (.inl hk)
    omega
  by_cases k1 : o.kind = 1
  · exact (step_put h.x o k1 _).mono side
  by_cases k2 : o.kind = 2
  · exact (step_find h.x o k2 _).mono side
  by_cases k3 : o.kind = 3
  · exact (step_map h.x o k3 _ (ho.xs wr h.B h.bs) hA).mono side
  by_cases k4 : o.kind = 4
  · refine (step_rows h.x h.book (fun k hk e => h.xb k hk (.inl e)) (by omega) o k4).mono ?_
    rintro e w' ⟨he, fv', wv', fl', ws', wz', hg⟩
    exact ⟨he, h.booked hg.book hg.sub (hg.m.mono fun k _ hk => .inl hk) (by rw [hg.len]; omega)⟩
  by_cases k5 : o.kind = 5
  · exact (step_new h.x o k5 _).mono side
  by_cases k6 : o.kind = 6
  · exact (step_make h.x o k6 _ (ho.rows wr h.B) ho.len).mono side
  by_cases k7 : o.kind = 7
  · exact (step_each h.x o k7 _ ho.n).mono side
  · exact (step_none h.x o (by omega) _).mono side
end
end Go.Proofs.Ytphmmpdeehfhjaa
namespace Go.Proofs.Ytphmmpdeehfhjaa
open Go.RowKit
set_option linter.unusedVariables false
set_option linter.unusedSimpArgs false
def addU (x y : Int) : Int := if 2147483647 < x ∨ 2147483647 < y then 2147483648 else x + y
theorem addU_any (x y : Int) (x0 : 0 ≤ x) (y0 : 0 ≤ y) (w : World) : Calls Try.prog 24 #[.int .i64 x, .int .i64 y] w fun e w' => e = .returned (.int .i64 (addU x y)) ∧ w = w' := by
  by_cases h1 : 2147483647 < x
  · have e : addU x y = 2147483648 := if_pos (.inl h1)
    rw [e]
    clear e
    go_enter Try.func24, Try.ntmps24
    go_wp2
    go_ret
    exact ⟨rfl, rfl⟩
  · by_cases h2 : 2147483647 < y
    · have e : addU x y = 2147483648 := if_pos (.inr h2)
      rw [e]
      clear e
      go_enter Try.func24, Try.ntmps24
      go_wp2
      go_ret
      exact ⟨rfl, rfl⟩
    · have e : addU x y = x + y := if_neg (by omega)
      have hw : IntKind.i64.wrap (x + y) = x + y := by rw [IntKind.wrap_i64]; omega
      rw [e]
      clear e
      go_enter Try.func24, Try.ntmps24
      go_wp2
      go_ret
      exact ⟨rfl, rfl⟩
theorem addU_range (x y : Int) (x0 : 0 ≤ x) (y0 : 0 ≤ y) : 0 ≤ addU x y ∧ addU x y ≤ 4294967294 ∧ (addU x y ≤ 2147483647 → x ≤ 2147483647 ∧ y ≤ 2147483647 ∧ addU x y = x + y) := by
  unfold addU
  split <;> omega
theorem addU_quiet {x y r : Int} (hr : r = addU x y) (x0 : 0 ≤ x) (y0 : 0 ≤ y) (w : World) (m : Nat) : Calls Try.prog 24 #[.int .i64 x, .int .i64 y] (w.drewN m) fun e w'' => e = .returned (.int .i64 r) ∧ ∃ k, w'' = w.drewN k := by
  subst hr
  exact (addU_any x y x0 y0 _).mono fun _ _ ⟨he, hm⟩ => ⟨he, m, hm.symm⟩
theorem addU_quiet2 {x y r : Int} (hr : r = addU x y) (x0 : 0 ≤ x) (y0 : 0 ≤ y) (w : World) (j m : Nat) : Calls Try.prog 24 #[.int .i64 x, .int .i64 y] (w.drewN (j + m)) fun e w'' => e = .returned (.int .i64 r) ∧ ∃ k, w'' = w.drewN (j + k) := by
  subst hr
  exact (addU_any x y x0 y0 _).mono fun _ _ ⟨he, hm⟩ => ⟨he, m, hm.symm⟩
def LabRaw (w : World) (A : Option Addr) (xs : List Int) : Prop := xs.length ≤ 9223372036854775807 ∧ (0 < xs.length → ∃ g o, A = some ⟨g, o, none⟩ ∧ ∀ j (hj : j < xs.length), w.cell? ⟨g, o + j, none⟩ = some (.int .i64 (xs[j]'hj)))
structure OpOk (w : World) (o : OpV) : Prop where
  n : i64 o.n
  on : i64 o.on
  xs : LabRaw w o.LA o.xs
  rows : RowsIn w o.RA o.rows
/-- a script's ops, as they come in -/
def OpsIn (w : World) (A : Option Addr) (ops : List OpV) : Prop :=
  ops.length ≤ 9223372036854775807 ∧ (0 < ops.length → ∃ g o, A = some ⟨g, o, none⟩ ∧ ∀ j (hj : j < ops.length) i, i < 7 → w.cell? ⟨g, o + j * 7 + i, none⟩ = (ops[j]'hj).cells[i]?) ∧ ∀ o ∈ ops, OpOk w o
def Light (ops : List OpV) : Prop := 70000 * ops.length ≤ 2147483647 ∧ ∀ o ∈ ops, o.xs.length ≤ 2147483647 ∧ o.rows.length ≤ 2147483647
theorem OpOk.in_ {w : World} {o : OpV} (h : OpOk w o) (h1 : o.xs.length ≤ 2147483647) (h2 : o.rows.length ≤ 2147483647) : OpIn w.heap.size w o where
  n := h.n
  xs := fun W hb hs => ⟨by omega, fun h0 => by
    obtain ⟨g, q, e, hc⟩ := h.xs.2 h0
    have hg : g < w.heap.size := World.block_lt_of_cell? w _ (hc 0 h0)
    exact ⟨g, q, e, by omega, fun j hj => (hb.cell (p := ⟨g, q + j, none⟩) hg).trans (hc j hj)⟩⟩
  lo := fun g q e h0 => by
    obtain ⟨g', q', e', hc⟩ := h.xs.2 h0
    rw [e] at e'; cases e'
    exact World.block_lt_of_cell? w _ (hc 0 h0)
  rows := fun W hb => h.rows.new hb
  len := h2
def WeighI (w : World) (ops : List OpV) (x3 x4 : Value) (wr : World) : Prop :=
  ∃ (i m : Nat) (n : Int), i ≤ ops.length ∧ x4 = .int .i64 (i : Int) ∧ x3 = .int .i64 n ∧ 0 ≤ n ∧ n ≤ 4294967294 ∧ Hid (n ≤ 2147483647 → 70000 * (i : Int) ≤ n ∧ ∀ j (hj : j < ops.length), j < i → (ops[j]'hj).xs.length ≤ 2147483647 ∧ (ops[j]'hj).rows.length ≤ 2147483647) ∧ wr = w.drewN m
set_option maxHeartbeats 8000000 in
set_option maxRecDepth 100000 in
theorem weighs_any (A : Option Addr) (c : Nat) (ops : List OpV) (w : World) (h : OpsIn w A ops) :
    Calls Try.prog 7 #[.slice A ops.length c] w fun e w' => ∃ n : Int, e = .returned (.int .i64 n) ∧ (n ≤ 2147483647 → Light ops) ∧ ∃ m, w' = w.drewN m := by
  have hlen := h.1
  have H := Hid.mk_ h
  obtain ⟨n0, hn0⟩ : ∃ n, n = addU 0 ops.length := ⟨_, rfl⟩
  have hr0 := addU_range 0 ops.length (by decide) (by omega)
  have hc0 := addU_any 0 ops.length (by decide) (by omega) w
  rw [← hn0] at hr0 hc0
  obtain ⟨r0, r1, r2⟩ := hr0
  have HC0 := Hid.mk_ hc0
  clear h hn0 hc0
  go_enter Try.func7, Try.ntmps7
  go_wp2_with (first | (go_at_call 24; (with_reducible refine HC0.out.mono ?_); rintro e w' ⟨rfl, rfl⟩))
  go_loopw [3, 4] (fun x3 x4 wr => WeighI w ops x3 x4 wr) (fun _ x _ => ops.length - (intOf x).toNat)
  case atStart => exact ⟨0, 0, n0, Nat.zero_le _, rfl, rfl, r0, r1, fun _ => ⟨by omega, fun j hj h => by omega⟩, rfl⟩
  case round =>
    clear r2 r0 r1
    obtain ⟨i, m, n, hi, rfl, rfl, hn, hn2, HL, rfl⟩ := hrel
    by_cases hlt : i < ops.length
    · have hlt1 : (i : Int) < ops.length := by omega
      by_cases hnb : n ≤ 2147483647
      · obtain ⟨g, q, rfl, hc⟩ := H.out.2.1 (by omega)
        have hop := H.out.2.2 _ (List.getElem_mem hlt)
        have c5 : w.cell? ⟨g, q + i * 7 + 5, none⟩ = some (.slice (ops[i]'hlt).LA (ops[i]'hlt).xs.length (ops[i]'hlt).lc) := hc i hlt 5 (by omega)
        have c6 : w.cell? ⟨g, q + i * 7 + 6, none⟩ = some (.slice (ops[i]'hlt).RA (ops[i]'hlt).rows.length (ops[i]'hlt).rc) := hc i hlt 6 (by omega)
        have hx := hop.xs.1
        have hy := hop.rows.1
        have HNEXT := Hid.mk_ (fun (n' : Int) (h1 : n' ≤ 2147483647 → 70000 * ((i : Int) + 1) ≤ n' ∧ (ops[i]'hlt).xs.length ≤ 2147483647 ∧ (ops[i]'hlt).rows.length ≤ 2147483647) => show n' ≤ 2147483647 → 70000 * ((i + 1 : Nat) : Int) ≤ n' ∧ ∀ j (hj : j < ops.length), j < i + 1 → (ops[j]'hj).xs.length ≤ 2147483647 ∧ (ops[j]'hj).rows.length ≤ 2147483647 by
          intro h2
          obtain ⟨h3, h4, h5⟩ := h1 h2
          refine ⟨by omega, fun j hj hji => ?_⟩
          by_cases e : j = i
          · subst e; exact ⟨h4, h5⟩
          · exact (HL.out hnb).2 j hj (by omega))
        obtain ⟨o, ho⟩ : ∃ o, o = ops[i]'hlt := ⟨_, rfl⟩
        rw [← ho] at c5 c6 hx hy HNEXT
        obtain ⟨u1, hu1⟩ : ∃ u, u = addU o.xs.length o.rows.length := ⟨_, rfl⟩
        obtain ⟨p0, p1, p2⟩ := addU_range o.xs.length o.rows.length (by omega) (by omega)
        obtain ⟨u2, hu2⟩ : ∃ u, u = addU 70000 u1 := ⟨_, rfl⟩
        rw [← hu1] at p0 p1 p2
        obtain ⟨q0, q1, q2⟩ := addU_range 70000 u1 (by decide) p0
        rw [← hu2] at q0 q1 q2
        obtain ⟨u3, hu3⟩ : ∃ u, u = addU n u2 := ⟨_, rfl⟩
        obtain ⟨v0, v1, v2⟩ := addU_range n u2 hn q0
        rw [← hu3] at v0 v1 v2
        have hl70 := (HL.out hnb).1
        have HFIN := Hid.mk_ (HNEXT.out u3 (fun h3 => by
          obtain ⟨z1, z2, z3⟩ := v2 h3
          obtain ⟨z4, z5, z6⟩ := q2 z2
          obtain ⟨z7, z8, z9⟩ := p2 z5
          omega))
        have Q1 := Hid.mk_ (fun W m => addU_quiet (w := W) (m := m) hu1 (by omega) (by omega))
        have Q2 := Hid.mk_ (fun W m => addU_quiet (w := W) (m := m) hu2 (by decide) p0)
        have Q3 := Hid.mk_ (fun W m => addU_quiet (w := W) (m := m) hu3 hn q0)
        have R1 := Hid.mk_ (fun W j m => addU_quiet2 (w := W) (j := j) (m := m) hu1 (by omega) (by omega))
        have R2 := Hid.mk_ (fun W j m => addU_quiet2 (w := W) (j := j) (m := m) hu2 (by decide) p0)
        have R3 := Hid.mk_ (fun W j m => addU_quiet2 (w := W) (j := j) (m := m) hu3 hn q0)
        clear ho hu1 hu2 hu3 p2 q2 v2 hop hc HNEXT hl70
        go_wp2_with fail
        go_big_quiet (first
          | (go_at_call 24; with_reducible exact Q1.out _ _) | (go_at_call 24; with_reducible exact Q2.out _ _) | (go_at_call 24; with_reducible exact Q3.out _ _)
          | (go_at_call 24; with_reducible exact R1.out _ _ _) | (go_at_call 24; with_reducible exact R2.out _ _ _) | (go_at_call 24; with_reducible exact R3.out _ _ _))
        go_wp2_with fail
        exact ⟨⟨i + 1, _, u3, by omega, by go_num, rfl, v0, v1, HFIN, rfl⟩, by simp [intOf]; omega⟩
      · have hnb2 : 2147483647 < n := by omega
        go_wp2_with fail
        go_ret
        exact ⟨n, rfl, fun h => absurd h (by omega), m, rfl⟩
    · have hge : ¬ ((i : Int) < ops.length) := by omega
      have hie : i = ops.length := by omega
      have HLL := Hid.mk_ (fun (hnb : n ≤ 2147483647) => show Light ops by
        obtain ⟨h1, h2⟩ := HL.out hnb
        refine ⟨by omega, fun o ho => ?_⟩
        obtain ⟨j, hj, rfl⟩ := List.getElem_of_mem ho
        exact h2 j hj (by omega))
      clear hie
      go_wp2_with fail
      go_ret
      exact ⟨n, rfl, HLL.out, m, rfl⟩
end Go.Proofs.Ytphmmpdeehfhjaa
namespace Go.Proofs.Ytphmmpdeehfhjaa
open Go.RowKit
set_option linter.unusedVariables false
set_option linter.unusedSimpArgs false
structure SD where
  s : Nat
  a : Nat
  b : Nat
  t : Tr
  fp : List Nat
  fr : List Nat
  l : List Cut
def SD.ptr (d : SD) : Value := .pointer (some ⟨d.s, 0, none⟩)
structure Lot (base : Nat) (w0 wr : World) (bb : Nat) (x : Value) (ds : List SD) : Prop where
  own : wr.ownsRow (bb + 1) 37 1 x ds.length (ds.map SD.ptr)
  side : ∀ d ∈ ds, Side wr d.s d.t d.a d.fp d.b d.fr d.l
  ap : ds.Pairwise fun d e => ∀ k ∈ sz d.s d.fp d.fr, k ∉ sz e.s e.fp e.fr
  lo : ∀ d ∈ ds, ∀ k ∈ sz d.s d.fp d.fr, bb < k ∧ x.ownBlock ≠ some k
  blk : Blk wr bb [.slice none 0 0, .slice none 0 0, .slice none 0 0, .int .i64 0] 28
  B : Below base w0 wr
  bl : base ≤ bb
section
variable {base : Nat} {w0 wr w1 w2 w4 : World} {bb : Nat} {x x2 : Value} {ds : List SD}
theorem Lot.start (h : Blk wr bb [.slice none 0 0, .slice none 0 0, .slice none 0 0, .int .i64 0] 28) (hB : Below base w0 wr) (hb : base ≤ bb) : Lot base w0 wr bb (.slice none 0 0) [] :=
  ⟨World.ownsRow_nil _ _ _ _, by simp, List.Pairwise.nil, by simp, h, hB, hb⟩
theorem Lot.new (h : Lot base w0 wr bb x ds) (hb : Below wr.heap.size wr w1) : Lot base w0 w1 bb x ds :=
  { h with
    own := own_move h.own fun k hk => hb.block k (h.own.lt k hk).2
    side := fun d hd => (h.side d hd).new hb
    blk := h.blk.below hb h.blk.lt
    B := h.B.trans (hb.mono (by have := h.blk.lt; have := h.bl; omega)) }
theorem Lot.add (h : Lot base w0 wr bb x ds) {d : SD} (hd : Side wr d.s d.t d.a d.fp d.b d.fr d.l) (hlo : ∀ k ∈ sz d.s d.fp d.fr, bb < k ∧ x.ownBlock ≠ some k ∧ ∀ e ∈ ds, k ∉ sz e.s e.fp e.fr)
    (hown : w4.ownsRow (bb + 1) 37 1 x2 (ds.length + 1) (ds.map SD.ptr ++ [d.ptr])) (hg : wr.grownBy w4 x.ownBlock) (hl : x2.ownBlock = x.ownBlock ∨ x2.ownBlock = some wr.heap.size) : Lot base w0 w4 bb x2 (ds ++ [d]) := by
  have hxb : x.ownBlock ≠ some bb := fun e => by have := (h.own.lt bb e).1; omega
  have hmv : ∀ k, k < wr.heap.size → x.ownBlock ≠ some k → w4.heap[k]? = wr.heap[k]? := fun k h1 h2 => hg.block k h1 (fun e => h2 e.symm)
  refine ⟨by simpa using hown, fun e he => ?_, ?_, fun e he k hk => ?_, h.blk.grown hg (fun e => hxb e.symm), h.B.grown hg (by have := h.blk.lt; have := h.bl; omega) (fun k hk => by have := (h.own.lt k hk).1; have := h.bl; omega), h.bl⟩
  · rcases List.mem_append.1 he with he | he
    · exact (h.side e he).move fun k hk => hmv k ((h.side e he).lt k hk) (h.lo e he k hk).2
    · simp at he; subst he
      exact hd.move fun k hk => hmv k (hd.lt k hk) (hlo k hk).2.1
  · refine List.pairwise_append.2 ⟨h.ap, by simp, fun e he f hf k hk hk2 => ?_⟩
    simp at hf; subst hf
    exact (hlo k hk2).2.2 e he hk
  · have hlt : k < wr.heap.size ∧ bb < k ∧ x.ownBlock ≠ some k := by
      rcases List.mem_append.1 he with he | he
      · exact ⟨(h.side e he).lt k hk, h.lo e he k hk⟩
      · simp at he; subst he
        exact ⟨hd.lt k hk, (hlo k hk).1, (hlo k hk).2.1⟩
    refine ⟨hlt.2.1, fun e2 => ?_⟩
    rcases hl with hl | hl
    · exact hlt.2.2 (hl ▸ e2)
    · rw [hl] at e2; cases e2; exact absurd hlt.1 (Nat.lt_irrefl _)
theorem Lot.done {d0 d1 : SD} (h : Lot base w0 wr bb x [d0, d1]) (hbs : base ≤ wr.heap.size) : ∃ gl c O, x = .slice (some ⟨gl, 0, none⟩) 2 c ∧ (∀ W : World, W.heap[gl]? = some O → W.cell? ⟨gl, 0, none⟩ = some d0.ptr ∧ W.cell? ⟨gl, 1, none⟩ = some d1.ptr) ∧ STE base w0 wr bb gl O d0.s d1.s 0 := by
  obtain ⟨gl, c, rfl, hgb, hgl⟩ := h.own.form (by simp)
  obtain ⟨O, hO⟩ : ∃ O, wr.heap[gl]? = some O := ⟨_, Array.getElem?_eq_getElem hgl⟩
  have c0 := h.own.cellAt 0 (by simp)
  have c1 := h.own.cellAt 1 (by simp)
  refine ⟨gl, c, O, rfl, fun W hW => ⟨(World.cell?_of_block (w := wr) (w' := W) (a := ⟨gl, 0, none⟩) (hW.trans hO.symm)).trans (by rw [c0]; rfl), (World.cell?_of_block (w := wr) (w' := W) (a := ⟨gl, 1, none⟩) (hW.trans hO.symm)).trans (by rw [c1]; rfl)⟩, ?_⟩
  have hx := h.side d0 (by simp)
  have hy := h.side d1 (by simp)
  have lx := h.lo d0 (by simp)
  have ly := h.lo d1 (by simp)
  have hap := (List.pairwise_cons.1 h.ap).1 d1 (by simp)
  have hh : hz bb (.slice none 0 0) (.slice none 0 0) (.slice none 0 0) = [bb] := by simp [hz, Value.ownBlock]
  have hbz : ∀ k, bz bb (.slice none 0 0) (.slice none 0 0) (.slice none 0 0) [] [] [] k ↔ k = bb := fun k => by unfold bz; rw [hh]; simp
  have hbk : Book wr bb (.slice none 0 0) (.slice none 0 0) (.slice none 0 0) [] [] [] [] [] 0 :=
    ⟨⟨h.blk, World.ownsRow_nil _ _ _ _, World.ownsRow_nil _ _ _ _, World.ownsRow_nil _ _ _ _⟩, rfl, by simp, by simp, rfl, by simp, by rw [hh]; simp, by simp, by simp, fun k hk => by
      have := (hbz k).1 hk
      subst this
      exact h.blk.lt⟩
  exact ⟨_, _, _, _, _, _, _, _, _, _, _, _, _, _, _, _, _, _, _, _, _, ⟨hx, hy, hbk, hap, fun k hk e => by have := (lx k hk).1; have := (hbz k).1 e; omega, fun k hk e => by have := (ly k hk).1; have := (hbz k).1 e; omega, fun e => (lx gl e).2 rfl, fun e => (ly gl e).2 rfl, fun e => by have := (hbz gl).1 e; omega, hO, fun k hk => by
      have hbl := h.bl
      rcases hk with hk | hk | hk
      · have := (lx k hk).1; omega
      · have := (ly k hk).1; omega
      · have := (hbz k).1 hk; omega, h.B, hbs, by simp⟩⟩
end
end Go.Proofs.Ytphmmpdeehfhjaa
