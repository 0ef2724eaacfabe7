/- world.step: sizes. -/
import Derived.Test.YtccgamaijjeafaaE7
namespace Go.Proofs.Ytccgamaijjeafaa
open Go.RowKit
set_option linter.unusedVariables false
set_option linter.unusedSimpArgs false
section
variable {w w' w0 w1 w2 : World} {a b bw B : Nat} {S : List Int} {M : Int} {N : List Nd} {z : List Nat} {hd lv : Value} {es : List Value} {o : OpV}
/-- nothing but the book has changed -/
theorem Left.of_book {lv' : Value} {es' : List Value} (h : SideAt w a b S M N z) (hb : LBook w bw hd lv es) (hd0 : ∀ k ∈ z, ¬ bookZ bw lv k ∧ ¬ OwnB es k) (h1 : Below w.heap.size w w1) (hb2 : LBook w2 bw hd lv' es') (hm : Mods (bookZ bw lv) w1 w2)
    (hl : ∀ k, lv'.ownBlock = some k → lv.ownBlock = some k ∨ w1.heap.size ≤ k) (he : ∀ k, OwnB es' k → OwnB es k ∨ w.heap.size ≤ k) (hlen : es'.length ≤ es.length + 1) : Left w w2 a b S M z bw hd lv es N z lv' es' := by
  have s1 := h1.size
  have hl' : ∀ k, lv'.ownBlock = some k → lv.ownBlock = some k ∨ w.heap.size ≤ k := fun k e => by
    rcases hl k e with e | e
    · exact .inl e
    · exact .inr (by omega)
  refine ⟨h.move (by have := hm.size; omega) (fun k hk => ?_), hb2, ?_, fun k hk => .inl hk, hl', he, fun k hk => ⟨fun e => ?_, fun e => ?_⟩, hlen⟩
  · have h2 := h.zlt k hk
    rw [hm.block k (by omega) (hd0 k hk).1, h1.block k h2]
  · have t1 : Mods (fun k => k ∈ z ∨ bookZ bw lv k) w w1 := Mods.of_new h1
    exact t1.trans hm (fun k _ e => .inr e)
  · have h2 := h.zlt k hk
    rcases e with e | e
    · exact (hd0 k hk).1 (.inl e)
    · rcases hl' k e with e2 | e2
      · exact (hd0 k hk).1 (.inr e2)
      · omega
  · have h2 := h.zlt k hk
    rcases he k e with e2 | e2
    · exact (hd0 k hk).2 e2
    · omega
theorem Left.drew {N' : List Nd} {z' : List Nat} {lv' : Value} {es' : List Value} (h : Left w w2 a b S M z bw hd lv es N' z' lv' es') (q : Nat) : Left w (w2.drewN q) a b S M z bw hd lv es N' z' lv' es' :=
  ⟨h.side.move (Nat.le_refl _) (fun _ _ => rfl), h.book.move (fun _ _ => rfl), h.mods.drewN q, h.zs, h.ls, h.es_, h.dis, h.len⟩
/-- what quiet calls say of both -/
structure Says (w : World) (a b : Nat) (S : List Int) (M : Int) (N : List Nd) : Prop where
  lenP : ∀ q, Calls Try.prog 12 #[.pointer (some ⟨a, 0, none⟩)] (w.drewN q) fun e w'' => e = .returned (.int .i64 (N.length : Int)) ∧ ∃ m, w'' = w.drewN m
  lenR : ∀ q, Calls Try.prog 10 #[.pointer (some ⟨b, 0, none⟩)] (w.drewN q) fun e w'' => e = .returned (.int .i64 (N.length : Int)) ∧ ∃ m, w'' = w.drewN m
  mostP : ∀ q, Calls Try.prog 13 #[.pointer (some ⟨a, 0, none⟩)] (w.drewN q) fun e w'' => e = .returned (.int .i64 M) ∧ ∃ m, w'' = w.drewN m
  levP : ∀ f q, Calls Try.prog 15 #[.pointer (some ⟨a, 0, none⟩), .int .i64 f] (w.drewN q) fun e w'' => e = .returned (.int .i64 (lvl S.length N f)) ∧ ∃ m, w'' = w.drewN m
  levR : ∀ f q, Calls Try.prog 24 #[.pointer (some ⟨b, 0, none⟩), .int .i64 f] (w.drewN q) fun e w'' => e = .returned (.int .i64 (lvl S.length N f)) ∧ ∃ m, w'' = w.drewN m
  hasP : ∀ f q, Calls Try.prog 25 #[.pointer (some ⟨a, 0, none⟩), .int .i64 f] (w.drewN q) fun e w'' => e = .returned (.bool (hasA N f)) ∧ ∃ m, w'' = w.drewN m
  hasR : ∀ f q, Calls Try.prog 26 #[.pointer (some ⟨b, 0, none⟩), .int .i64 f] (w.drewN q) fun e w'' => e = .returned (.bool (hasA N f)) ∧ ∃ m, w'' = w.drewN m
  mostR : w.cell? ⟨b, 1, none⟩ = some (.int .i64 M)
  sizesR : ∃ g c, w.cell? ⟨b, 0, none⟩ = some (.slice (some ⟨g, 0, none⟩) S.length c) ∧ IntsIn w (some ⟨g, 0, none⟩) S
theorem SideAt.says (h : SideAt w a b S M N z) : Says w a b S M N := by
  obtain ⟨za, zx, ⟨L, nv, sv, mb, cz, p, e1, e2⟩, ⟨L', nv', sv', v', rows', cz', r, e3, e4⟩, _⟩ := h.ex
  have hs := r.s
  obtain ⟨g, c, e5, h5, h6, h7, hi⟩ := hs.ints
  have hc0 := r.c0
  rw [e5] at hc0
  refine ⟨fun q => ?_, fun q => ?_, fun q => quietly q (most_pa (p.quiet q)), fun f q => ?_, fun f q => ?_, fun f q => ?_, fun f q => ?_, r.c1, ⟨g, c, hc0, hi⟩⟩
  · rw [← e1]; exact quietly q (len_pa (p.quiet q))
  · rw [← e3]; exact quietly q (len_ra (r.quiet q))
  · rw [← e1]; exact quietly q (level_pa (p.quiet q) f)
  · rw [← e3]; exact quietly q (level_ra (r.quiet q) f)
  · rw [← e1]; exact quietly q (has_pa (p.quiet q) f)
  · rw [← e3]; exact quietly q (has_ra (r.quiet q) f)
theorem SideAt.sizes (h : SideAt w a b S M N z) : Calls Try.prog 29 #[.pointer (some ⟨a, 0, none⟩)] w fun e w' => ∃ v, e = .returned v ∧ Fresh w w' v S ∧ Below w.heap.size w w' := by
  obtain ⟨za, zx, ⟨L, nv, sv, mb, cz, p, e1, e2⟩, _⟩ := h.ex
  exact sizes_pa p
theorem Row.intsIn {v : Value} {ks : List Int} (h : Row w 3 1 v ks.length (ks.map (Value.int .i64))) (hl : ks.length ≤ 1000000) : ∃ A c, v = .slice A ks.length c ∧ IntsIn w A ks := by
  obtain ⟨A, c, rfl⟩ := h.shape
  refine ⟨A, c, rfl, by omega, fun h0 => ?_⟩
  obtain ⟨g, c', e, hg, _⟩ := h.some_ h0
  cases e
  exact ⟨g, 0, rfl, hg, fun j hj => by rw [Nat.zero_add]; exact h.cellsIn j hj⟩
set_option maxRecDepth 100000 in
set_option maxHeartbeats 4000000 in
theorem step_sizes (hB : B ≤ w.heap.size) (h : SideAt w a b S M N z) (ho : OpOk w B o) (hb : LBook w bw hd lv es) (hd0 : ∀ k ∈ z, ¬ bookZ bw lv k ∧ ¬ OwnB es k) (hlen : es.length ≤ 10000000)
    (hw : ¬ o.what = 0 ∧ ¬ o.what = 1 ∧ ¬ o.what = 2 ∧ ¬ o.what = 3 ∧ ¬ o.what = 4 ∧ ¬ o.what = 5 ∧ ¬ o.what = 7) :
    Calls Try.prog 8 #[.pointer (some ⟨bw, 0, none⟩), .agg #[.pointer (some ⟨a, 0, none⟩), .pointer (some ⟨b, 0, none⟩)], o.agg] w (LeftPost w a b S M z bw hd lv es) := by
  have hbx := Boxed.mk_ w a b o
  obtain ⟨ot, nr, wh, n, A, c, ks⟩ := o
  unfold OpV.agg
  simp only at hbx hw
  obtain ⟨g0, g1, g2, g3, g4, g5, g7⟩ := hw
  obtain ⟨w1, hw1⟩ : ∃ w1, w1 = (w.alloc (.cells #[.pointer (some ⟨a, 0, none⟩), .pointer (some ⟨b, 0, none⟩)] 34)).alloc (.cells #[.bool ot, .bool nr, .int .i64 wh, .int .i64 n, .slice A ks.length c] 40) := ⟨_, rfl⟩
  obtain ⟨bs, hbs⟩ : ∃ bs, bs = w.heap.size := ⟨_, rfl⟩
  obtain ⟨bo, hbo⟩ : ∃ bo, bo = w.heap.size + 1 := ⟨_, rfl⟩
  rw [← hw1, ← hbo, ← hbs] at hbx
  have HBX := Hid.mk_ hbx
  have HW1 := Hid.mk_ hw1
  have HBS := Hid.mk_ hbs
  have HBO := Hid.mk_ hbo
  have HSZ := Hid.mk_ (h.new hbx.below).sizes
  obtain ⟨x0, x1⟩ := hbx.s w1 (Below.refl _ _)
  obtain ⟨x2, x3, x4, x5, x6⟩ := hbx.o w1 (Below.refl _ _)
  have HH := Hid.mk_ h
  have HBK := Hid.mk_ hb
  have HD0 := Hid.mk_ hd0
  obtain ⟨Al, cl, hlv⟩ := hb.row.shape
  subst hlv
  have hsz2 := h.sized.s2
  clear hbx hw1 hbs hbo h ho hb hd0 hB
  simp only at x2 x3 x4 x5 x6
  obtain ⟨i22, hi22, hb0, hb1, hb2⟩ := info_parts Try.info22
  go_enter Try.func8, Try.ntmps8
  go_upto_region 1 with fail
  rw [← HBO.out, ← HBS.out, ← HW1.out]
  go_upto_region 23 with (go_at_call 29; (with_reducible refine HSZ.out.mono ?_); rintro e w2 ⟨v, rfl, hfr, hb2⟩)
  have hb12 := HBX.out.below.trans (hb2.mono HBX.out.below.size)
  obtain ⟨gv, hve, hgv, hrv⟩ := hfr
  have hs1 := HBX.out.below.size
  have HBK2 := Hid.mk_ (HBK.out.new hb12)
  have hgnew : w.heap.size ≤ gv := Nat.le_trans hs1 hgv
  have HRV := Hid.mk_ hrv
  have k1 := HBK2.out.blk.cell 1
  have f1 := HBK2.out.blk.free 1
  have l1 := HBK2.out.blk.lt
  have HBX2 := Hid.mk_ (HBX.out.s w2 hb2)
  have HB12 := Hid.mk_ hb12
  have HNB := Hid.mk_ (And.intro HBX.out.new hb2.size)
  subst hve
  have hfresh : ∀ q, (Value.slice (some ⟨gv, 0, none⟩) S.length S.length).ownBlock = some q → ¬ OwnB es q := fun q e e2 => by
    have h1 := HBK.out.elt q e2
    have h2 : gv = q := Option.some.inj e
    omega
  have HFR := Hid.mk_ hfresh
  have hS1m : S.length ≤ 1000000 := by omega
  clear hfresh hb12 hrv hb2 x0 x1 x2 x3 x4 x5 x6
  go_upto_region 24 with (at_builtin; go_loud (refine wpList_append_row _ rfl _ _ 36 rfl 22 i22 (.slice none 0 0) 1 24 Try.underlying36 hi22 hb0 hb1 hb2 rfl (by omega) (.slice Al es.length cl) es.length es rfl (HBK2.out.row.alloc _) ⟨w2.heap.size, 0, none⟩ 1 1 [.slice (some ⟨gv, 0, none⟩) S.length S.length] rfl rfl (one_cells_at w2 _ _ rfl) (by simp [Value.oneCell']) (by omega) (by unfold maxLen; omega) (by omega) (w2.heap.size + 1) (by simp) ?_; intro g9 c9 w9 hrow9 hgrow9 hloc9 hlt9; have hadd := HBK2.out.add (ks := S) HRV.out hS1m HFR.out hrow9 rfl hgrow9 hloc9; have HADD := Hid.mk_ hadd; have y1 := hadd.2.2.2.cell 1; have f9 := hadd.2.2.2.free 1; have l9 := hadd.2.2.2.lt; clear hadd))
  obtain ⟨hbk3, hm3, hl3, _⟩ := HADD.out
  have hleft : Left w (w9.setCell ⟨bw, 1, none⟩ (.slice (some ⟨g9, 0, none⟩) (es.length + 1) c9)) a b S M z bw hd (.slice Al es.length cl) es N z (.slice (some ⟨g9, 0, none⟩) (es.length + 1) c9) (es ++ [.slice (some ⟨gv, 0, none⟩) S.length S.length]) :=
    Left.of_book HH.out HBK.out HD0.out HB12.out hbk3 hm3 hl3 (fun k ⟨v, hv, e⟩ => by
      rcases List.mem_append.1 hv with hv | hv
      · exact .inl ⟨v, hv, e⟩
      · simp at hv
        subst hv
        have h2 : gv = k := Option.some.inj e
        exact .inr (by omega)) (by simp)
  have hsy := hleft.side.says
  have hrv3 := hbk3.r (.slice (some ⟨gv, 0, none⟩) S.length S.length) (by simp)
  have hgvb : ¬ bookZ bw (.slice Al es.length cl) gv := fun e => by
    rcases e with e | e
    · have := HBK.out.blk.lt; omega
    · have := HBK.out.row.lt gv e; omega
  have hint : IntsIn (w9.setCell ⟨bw, 1, none⟩ (.slice (some ⟨g9, 0, none⟩) (es.length + 1) c9)) (some ⟨gv, 0, none⟩) S := by
    have h1 : Row (w9.setCell ⟨bw, 1, none⟩ (.slice (some ⟨g9, 0, none⟩) (es.length + 1) c9)) 3 1 (.slice (some ⟨gv, 0, none⟩) S.length S.length) S.length (S.map (Value.int .i64)) := HRV.out.move fun k hk => by
      cases hk
      exact hm3.block gv (HRV.out.lt gv rfl) hgvb
    obtain ⟨A', c', e, hi⟩ := h1.intsIn hS1m
    cases e
    exact hi
  have hbs9 : (w9.setCell ⟨bw, 1, none⟩ (.slice (some ⟨g9, 0, none⟩) (es.length + 1) c9)).heap[bs]? = w2.heap[bs]? := by
    obtain ⟨⟨n1, n2, n3, n4⟩, n5⟩ := HNB.out
    refine hm3.block bs (by omega) (fun e => ?_)
    rcases e with e | e
    · have := HBK.out.blk.lt; omega
    · have := HBK.out.row.lt bs e; omega
  obtain ⟨w10, hw10⟩ : ∃ w10, w10 = w9.setCell ⟨bw, 1, none⟩ (.slice (some ⟨g9, 0, none⟩) (es.length + 1) c9) := ⟨_, rfl⟩
  rw [← hw10] at hleft hsy hint hbs9 ⊢
  have z0 : w10.cell? ⟨bs, 0, none⟩ = some (.pointer (some ⟨a, 0, none⟩)) := (World.cell?_of_block (a := ⟨bs, 0, none⟩) hbs9).trans HBX2.out.1
  have z1 : w10.cell? ⟨bs, 1, none⟩ = some (.pointer (some ⟨b, 0, none⟩)) := (World.cell?_of_block (a := ⟨bs, 1, none⟩) hbs9).trans HBX2.out.2
  obtain ⟨gx, cx, sx, hix⟩ := hsy.sizesR
  have mx := hsy.mostR
  have HL := Hid.mk_ hleft
  have HSM := Hid.mk_ (same_any (some ⟨gv, 0, none⟩) (some ⟨gx, 0, none⟩) S.length cx S S w10 hint hix)
  rw [decide_eq_true rfl] at HSM
  have HSY := Hid.mk_ hsy
  have HSY2 := Hid.mk_ (fun q => (hleft.drew q).side.says)
  obtain ⟨Nl, hNl⟩ : ∃ l : Int, l = (N.length : Int) := ⟨_, rfl⟩
  have t1 : (Nl == Nl) = true := by simp
  have t2 : (M == M) = true := by simp
  have t3 : decide (Nl = Nl) = true := decide_eq_true rfl
  have HLP := Hid.mk_ (fun q1 q => (HSY2.out q1).lenP q)
  have HLR := Hid.mk_ (fun q1 q => (HSY2.out q1).lenR q)
  have HMP := Hid.mk_ (fun q1 q => (HSY2.out q1).mostP q)
  rw [← hNl] at HLP HLR
  have HMR := Hid.mk_ mx
  clear hw10 hleft hsy hint hbs9 hix hrv3 hgvb hbk3 hm3 hl3 y1 f9 l9 k1 f1 l1 HSY hNl mx
  go_upto_region 25 with (go_at_call 16; (with_reducible refine HSM.out.mono ?_); rintro e w11 ⟨rfl, q11, hw11⟩; have HW11 := Hid.mk_ hw11; clear hw11)
  have hw11 := HW11.out
  have mx : w11.cell? ⟨b, 1, none⟩ = some (.int .i64 M) := by rw [hw11]; exact HMR.out
  have z0' : w11.cell? ⟨bs, 0, none⟩ = some (.pointer (some ⟨a, 0, none⟩)) := by rw [hw11]; exact z0
  have z1' : w11.cell? ⟨bs, 1, none⟩ = some (.pointer (some ⟨b, 0, none⟩)) := by rw [hw11]; exact z1
  have HLP1 := Hid.mk_ (HLP.out q11)
  have HLR1 := Hid.mk_ (HLR.out q11)
  have HMP1 := Hid.mk_ (HMP.out q11)
  rw [← hw11] at HLP1 HLR1 HMP1
  have HL11 := Hid.mk_ (HL.out.drew q11)
  rw [← hw11] at HL11
  clear hw11 z0 z1
  go_big_quiet ((first | (go_at_call 12; with_reducible exact HLP1.out _) | (go_at_call 10; with_reducible exact HLR1.out _) | (go_at_call 13; with_reducible exact HMP1.out _)))
  go_wp2_with fail
  go_ret
  exact ⟨rfl, N, z, _, _, HL11.out.drew _⟩
end
end Go.Proofs.Ytccgamaijjeafaa
