/- world.makes. -/
import Derived.Test.YtccgamaijjeafaaE4
import Derived.Deep.OwnRows
import Derived.Laws.CopyOwn
namespace Go.Proofs.Ytccgamaijjeafaa
open Go.RowKit
set_option linter.unusedVariables false
set_option linter.unusedSimpArgs false
/-- a step answers true; the sides have the same nodes again -/
def StepPost (w : World) (a b : Nat) (S : List Int) (M : Int) (z : List Nat) (e : Ending) (w' : World) : Prop := e = .returned (.bool true) ∧ ∃ N', SideGrew w w' a b S M N' z
theorem make_row' {P : Program} (w : World) {ops : Array Oper} {rest : List Oper} {o : Oper} {a : Act} {Q : Exit → Act → World → Prop}
    (hg : o.guard = none) (l c : Operand) (t : TypeId) (hop : o.op = Op.makeSlice t l c)
    (e : TypeId) (i : TypeInfo) (z : Value) (ht : P.underlying t = some (.slice e)) (hi : P.info? e = some i) (hz : i.zero = some z) (hsize : i.size = 1) (hz1 : z.cells = #[z])
    (kl kc : IntKind) (n : Nat) (x : Int) (hx : x = (n : Int)) (hl : a.eval l = .int kl x) (hc : a.eval c = .int kc x) (hbytes : i.bytes * n ≤ 281474976710656) (h63 : n ≤ 9223372036854775807)
    (hK : wpList P ops Q rest (a.put o.dst (.slice (some ⟨w.heap.size, 0, none⟩) n n)) (w.alloc (.cells (List.replicate n z).toArray e))) : wpList P ops Q (o :: rest) a w := by
  subst hx
  refine wpList_make_row w hg l c t hop e i z ht hi hz hsize hz1 kl kc n hl hc hbytes h63 ?_
  have e : madeCells #[z] n = (List.replicate n z).toArray := by
    refine Array.ext' ?_
    simp [toList_madeCells_one]
  rw [e]
  exact hK
theorem size3 : (Try.prog.info? 3).map (·.size) = some 1 := by kernel_rfl
section
variable {w : World} {a b bw B : Nat} {S : List Int} {M : Int} {N : List Nd} {z : List Nat} {o : OpV}
set_option maxRecDepth 100000 in
set_option maxHeartbeats 8000000 in
theorem makes_any (hB : B ≤ w.heap.size) (h : SideAt w a b S M N z) (hz : ∀ k ∈ z, B ≤ k) (ho : OpOk w B o) :
    Calls Try.prog 22 #[.pointer (some ⟨bw, 0, none⟩), .agg #[.pointer (some ⟨a, 0, none⟩), .pointer (some ⟨b, 0, none⟩)], o.agg] w (StepPost w a b S M z) := by
  obtain ⟨za, zx, hP, hR, hd, hzz⟩ := h.ex
  have hon := ho.n0
  have HO := Hid.mk_ ho
  obtain ⟨ot, nr, wh, n, A, c, ks⟩ := o
  have hb1 : Below w.heap.size w ((w.alloc (.cells #[.pointer (some ⟨a, 0, none⟩), .pointer (some ⟨b, 0, none⟩)] 34)).alloc (.cells #[.bool ot, .bool nr, .int .i64 wh, .int .i64 n, .slice A ks.length c] 40)) := ((Below.refl _ _).alloc (Nat.le_refl _) _).alloc (by simp) _
  have hx2 := (Blk.new w [.pointer (some ⟨a, 0, none⟩), .pointer (some ⟨b, 0, none⟩)] 34).alloc (.cells #[.bool ot, .bool nr, .int .i64 wh, .int .i64 n, .slice A ks.length c] 40)
  have hx3 := Blk.new (w.alloc (.cells #[.pointer (some ⟨a, 0, none⟩), .pointer (some ⟨b, 0, none⟩)] 34)) [.bool ot, .bool nr, .int .i64 wh, .int .i64 n, .slice A ks.length c] 40
  rw [show (w.alloc (.cells #[.pointer (some ⟨a, 0, none⟩), .pointer (some ⟨b, 0, none⟩)] 34)).heap.size = w.heap.size + 1 by simp] at hx3
  obtain ⟨w1, hw1⟩ : ∃ w1, w1 = (w.alloc (.cells #[.pointer (some ⟨a, 0, none⟩), .pointer (some ⟨b, 0, none⟩)] 34)).alloc (.cells #[.bool ot, .bool nr, .int .i64 wh, .int .i64 n, .slice A ks.length c] 40) := ⟨_, rfl⟩
  rw [← hw1] at hb1 hx2 hx3
  have HX2 := Hid.mk_ (fun (W : World) (hW : Below w1.heap.size w1 W) => hx2.below hW hx2.lt)
  have HX3 := Hid.mk_ (fun (W : World) (hW : Below w1.heap.size w1 W) => hx3.below hW hx3.lt)
  have HB1 := Hid.mk_ hb1
  have HW1 := Hid.mk_ hw1
  have HP := Hid.mk_ hP
  have HR := Hid.mk_ hR
  have HD := Hid.mk_ (And.intro hd hzz)
  have HZ := Hid.mk_ (And.intro hz h.zlt)
  have hS1 := h.sized.s1
  have hS2 := h.sized.s2
  obtain ⟨bs, hbs⟩ : ∃ bs, bs = w.heap.size := ⟨_, rfl⟩
  obtain ⟨bo, hbo⟩ : ∃ bo, bo = w.heap.size + 1 := ⟨_, rfl⟩
  rw [← hbs] at HX2
  rw [← hbo] at HX3
  have HBS := Hid.mk_ hbs
  have HBO := Hid.mk_ hbo
  have HBB := Hid.mk_ hB
  have c21 := (HX2.out w1 (Below.refl _ _)).cell 1
  have c31 := (HX3.out w1 (Below.refl _ _)).cell 1
  have c33 := (HX3.out w1 (Below.refl _ _)).cell 3
  have HPK := Hid.mk_ (fun (q : Nat) => pick_quiet (p := pickI n S.length) rfl (by omega) hon w1 q)
  have hpi := pickI_range n S.length (by omega)
  obtain ⟨pn, hpn⟩ : ∃ pn, pn = pickI n S.length := ⟨_, rfl⟩
  rw [← hpn] at HPK hpi
  have hr0 : ∃ gs cs, w1.cell? ⟨b, 0, none⟩ = some (.slice (some ⟨gs, 0, none⟩) S.length cs) := by
    obtain ⟨L, nv, sv, lv, rows, cz, hra, _, _⟩ := hR
    have hra1 := hra.new hb1
    obtain ⟨gs, cs, e, _⟩ := hra1.s
    exact ⟨gs, cs, by rw [← e]; exact hra1.c0⟩
  obtain ⟨gs, cs, r0⟩ := hr0
  unfold OpV.agg
  clear h hz ho hb1 hx2 hx3 hw1 hP hR hd hzz hbs hbo hB hpn
  go_enter Try.func22, Try.ntmps22
  go_upto_region 1 with fail
  rw [← HBO.out, ← HBS.out, ← HW1.out]
  go_upto_if 20 with fail
  go_cut [7] from 19 to 29 (fun x7 wx => ∃ (m : Int) (q : Nat), i64 m ∧ x7 = .int .i64 m ∧ wx = w1.drewN q)
  case first =>
    cases nr with
    | true =>
      go_wp2_with fail
      go_big_quiet ((go_at_call 11; with_reducible exact HPK.out _))
      go_wp2_with fail
      go_meet
      exact ⟨pn, _, by unfold i64; omega, rfl, rfl⟩
    | false =>
      go_wp2_with fail
      go_meet
      exact ⟨n, 0, hon, rfl, rfl⟩
  case rest =>
    obtain ⟨m, q, hm, rfl, hwc⟩ := hcut
    have hbw : Below w1.heap.size w1 wc := by rw [hwc]; exact Drawn_below _ _
    have HBW := Hid.mk_ (HB1.out.trans (hbw.mono HB1.out.size))
    have x20 := (HX2.out wc hbw).cell 0
    have x21 := (HX2.out wc hbw).cell 1
    have x30 := (HX3.out wc hbw).cell 0
    have x31 := (HX3.out wc hbw).cell 1
    have x32 := (HX3.out wc hbw).cell 2
    have x33 := (HX3.out wc hbw).cell 3
    have x34 := (HX3.out wc hbw).cell 4
    have HKI := Hid.mk_ (kids_any (a := a) (o := ⟨ot, nr, wh, n, A, c, ks⟩) (Nat.le_trans HBB.out HBW.out.size) (HR.out.move HBW.out.size (fun k hk => HBW.out.block k (HR.out.zlt k hk))) (HO.out.new (HBW.out.mono HBB.out)))
    unfold OpV.agg at HKI
    have HBWc := Hid.mk_ hbw
    clear hwc hbw c21 c31 c33 r0 HPK hpi
    obtain ⟨i3, hi3, ha0, ha1, ha2⟩ := info_parts Try.info3
    go_upto_region 5 with (first
      | (go_at_call 35; (with_reducible refine HKI.out.mono ?_); rintro e w3 ⟨v3, ls, rfl, hle3, hb3⟩; obtain ⟨⟨A3, c3, rfl, hc3, hi3', hA3⟩, hl3⟩ := hle3; have HI3 := Hid.mk_ hi3'; have HA3 := Hid.mk_ hA3; have HB3 := Hid.mk_ (HBW.out.trans (hb3.mono HBW.out.size)); have HBc3 := Hid.mk_ (HBWc.out.trans (hb3.mono HBWc.out.size)); clear hi3' hA3 x20 x21 x30 x31 x32 x33 x34))
    have hi8 : i3.bytes = 8 := ha2
    obtain ⟨go, hgo⟩ : ∃ go, go = w3.heap.size := ⟨_, rfl⟩
    obtain ⟨w4, hw4⟩ : ∃ w4, w4 = w3.alloc (.cells (List.replicate (ls.length + 2) (Value.int .i64 0)).toArray 3) := ⟨_, rfl⟩
    have hb4 : Below w3.heap.size w3 w4 := by rw [hw4]; exact (Below.refl _ _).alloc (Nat.le_refl _) _
    have hblk4 : Blk w4 go (List.replicate (ls.length + 2) (.int .i64 0)) 3 := by rw [hw4, hgo]; exact Blk.new w3 _ 3
    have hi4 := HI3.out.new hb4
    have HGO := Hid.mk_ hgo
    have HW4 := Hid.mk_ hw4
    have hpos : 0 < (ls.map (Value.int .i64)).length → (some (⟨go, 0, none⟩ : Addr)) = some ⟨go, 0, none⟩ ∧ ∃ ad, A3 = some ad ∧ ∀ j v, (ls.map (Value.int .i64))[j]? = some v → w4.cell? (ad.add j) = some v := fun h0 => by
      obtain ⟨g, p, e, hg, hc⟩ := hi4.2 (by simpa using h0)
      refine ⟨rfl, ⟨g, p, none⟩, e, fun j v hv => ?_⟩
      rw [Addr.add_lit]
      obtain ⟨hjl, e2⟩ := List.getElem?_eq_some_iff.1 hv
      rw [List.length_map] at hjl
      rw [List.getElem_map] at e2
      rw [← e2]
      exact hc j hjl
    have HPOS := Hid.mk_ hpos
    have HBLK4 := Hid.mk_ hblk4
    have HB4 := Hid.mk_ hb4
    have hsp : splice (List.replicate (ls.length + 2) (Value.int .i64 0)) 0 (ls.map (Value.int .i64)) = ls.map (Value.int .i64) ++ [.int .i64 0, .int .i64 0] := by
      simp [splice]
    have HSP := Hid.mk_ hsp
    clear hpos hblk4 hb4 hi4 hgo hw4 hsp
    go_upto_region 6 with (at_make; refine make_row' _ rfl (.tmp 35) (.tmp 35) 22 rfl 3 i3 (.int .i64 0) Try.underlying22 hi3 ha0 ha1 rfl .i64 .i64 (ls.length + 2) ((ls.length : Int) + 2) (by omega) rfl rfl (by rw [hi8]; omega) (by omega) ?_; rw [← HGO.out, ← HW4.out])
    go_upto_region 7 with (refine wpList_copy_splice (o := ⟨some 39, _, _, _, _, _⟩) rfl (.tmp 37) (.tmp 38) 22 22 rfl 3 Try.underlying22 size3 (some ⟨go, 0, none⟩) A3 (ls.length + 2) (ls.length + 2) ls.length c3 ?_ ?_ go 0 _ 3 HBLK4.out (ls.map (Value.int .i64)) (by rw [List.length_map]; exact (Nat.min_eq_left (by omega)).symm) (fun h0 => ⟨rfl, (HPOS.out h0).2⟩) (by simp only [List.length_map, List.length_replicate]; omega) (by simp [Value.oneCell']) w3.heap.size w3 HB4.out (by rw [HGO.out]; exact Nat.le_refl _) ?_; rfl; rfl; intro w5 hcell5 hb5; have hk5 : Blk w5 go (ls.map (Value.int .i64) ++ [.int .i64 0, .int .i64 0]) 3 := (by rw [← HSP.out]; exact hcell5.out); have q0 := hk5.cell ls.length; have q1 := hk5.cell (ls.length + 1); simp at q0 q1; have f0 := hk5.free ls.length; have f1 := hk5.free (ls.length + 1); have HK5 := Hid.mk_ hk5; clear hk5)
    go_wp2_with fail
    have hk6 := (HK5.out.set ls.length (.int .i64 (-77))).set (ls.length + 1) (.int .i64 (-77))
    have hls6 : ((ls.map (Value.int .i64) ++ [Value.int .i64 0, Value.int .i64 0]).set ls.length (Value.int .i64 (-77))).set (ls.length + 1) (Value.int .i64 (-77)) = ls.map (Value.int .i64) ++ [Value.int .i64 (-77), Value.int .i64 (-77)] := by
      rw [List.set_append_right _ _ (by simp), List.set_append_right _ _ (by simp)]
      simp
    rw [hls6] at hk6
    have hb6 : Below w3.heap.size w3 ((w5.setCell ⟨go, ls.length, none⟩ (.int .i64 (-77))).setCell ⟨go, ls.length + 1, none⟩ (.int .i64 (-77))) := (hb5.setCell (by rw [HGO.out]; exact Nat.le_refl _) _).setCell (by rw [HGO.out]; exact Nat.le_refl _) _
    obtain ⟨w6, hw6⟩ : ∃ w6, w6 = (w5.setCell ⟨go, ls.length, none⟩ (.int .i64 (-77))).setCell ⟨go, ls.length + 1, none⟩ (.int .i64 (-77)) := ⟨_, rfl⟩
    rw [← hw6] at hk6 hb6 ⊢
    have HK6 := Hid.mk_ hk6
    have HB6 := Hid.mk_ hb6
    have hBc6 := HBc3.out.trans (hb6.mono HBc3.out.size)
    have x20 := (HX2.out w6 hBc6).cell 0
    have HBc6 := Hid.mk_ hBc6
    clear hls6 hw6 hk6 hb6 q0 q1 f0 f1 hBc6
    -- what the two arenas make
    have hsw3 := HB3.out.size
    have hsz6 := HB6.out.size
    have hgow : w.heap.size ≤ go := by rw [HGO.out]; exact hsw3
    have hgo6 : go < w6.heap.size := HK6.out.lt
    have hbw6 : Below w.heap.size w w6 := HB3.out.trans (HB6.out.mono hsw3)
    have hP6 : PAt w6.drew a S M N za := HP.out.move hbw6.size (fun k hk => hbw6.block k (HP.out.zlt k hk))
    have hR6 : RAt w6.drew b S M N zx := HR.out.move hbw6.size (fun k hk => hbw6.block k (HR.out.zlt k hk))
    have hown : ∀ W : World, W.heap[go]? = w6.heap[go]? → w6.heap.size ≤ W.heap.size → IntsIn W (some ⟨go, 0, none⟩) ls := fun W hW hs => ⟨by omega, fun _ => ⟨go, 0, rfl, by omega, fun j hj => by
      rw [Nat.zero_add, World.cell?_of_block (a := ⟨go, j, none⟩) hW]
      have := HK6.out.cell j
      rw [List.getElem?_append_left (by simpa using hj)] at this
      simpa [hj] using this⟩⟩
    have hzB := HZ.out.1
    have hzl := HZ.out.2
    have hd := HD.out.1
    have hzz := HD.out.2
    have hA3z : ∀ g p, A3 = some ⟨g, p, none⟩ → 0 < ls.length → g ∉ z ∧ g < w3.heap.size := fun g p e h0 => by
      obtain ⟨h1, h2⟩ := HA3.out g p e h0
      refine ⟨fun hk => ?_, h2⟩
      have h3 := hzB g hk
      have h4 := hzl g hk
      have h5 := HBW.out.size
      rcases h1 with h1 | h1 <;> omega
    have HA3Z := Hid.mk_ hA3z
    have hgoz : go ∉ z := fun hk => by have := hzl go hk; omega
    have HMK := Hid.mk_ (make_at (c := ls.length + 2) hP6 m (hown w6.drew rfl (Nat.le_refl _)) (fun g o e => by cases e; exact hgo6))
    obtain ⟨mk, hmk⟩ : ∃ mk, mk = makeA S M N m ls := ⟨_, rfl⟩
    rw [← hmk] at HMK
    have HMKE := Hid.mk_ hmk
    have HR6 := Hid.mk_ hR6
    have HOWN := Hid.mk_ hown
    have HGZ := Hid.mk_ (And.intro hgoz hgow)
    have HBW6 := Hid.mk_ hbw6
    clear hsw3 hsz6 hbw6 hP6 hR6 hown hzB hzl hd hzz hA3z hmk hgoz hgow
    have hle2 : (ls.length : Int) ≤ ls.length + 2 := by omega
    go_region_law ((go_simp; go_at_call 18; (with_reducible refine HMK.out.mono ?_); rintro e w7 ⟨rfl, hg7⟩))
    obtain ⟨hd, hzz⟩ := HD.out
    obtain ⟨hgoz, hgow⟩ := HGZ.out
    obtain ⟨za', p7, m7, s7⟩ := hg7
    have hs7 := m7.size
    have hs7' : w6.heap.size ≤ w7.heap.size := hs7
    have hgo6 := HK6.out.lt
    have hbsz : bs ∉ za := fun hk => by have := HP.out.zlt bs hk; rw [HBS.out] at this; omega
    have hk7 : w7.heap[bs]? = w6.heap[bs]? := m7.block bs (HX2.out w6 HBc6.out).lt hbsz
    have x21 : w7.cell? ⟨bs, 1, none⟩ = some (.pointer (some ⟨b, 0, none⟩)) := (World.cell?_of_block (a := ⟨bs, 1, none⟩) hk7).trans ((HX2.out w6 HBc6.out).cell 1)
    have hR7 : RAt w7 b S M N zx := HR6.out.move hs7 (fun k hk => m7.block k (HR6.out.zlt k hk) (fun e => hd k e hk))
    have hI7 : IntsIn w7 A3 ls := ((HI3.out.new HB6.out).move0 (w' := w7) hs7' (fun g p e h0 hg => m7.block g hg (fun hk => (HA3Z.out g p e h0).1 ((hzz g).2 (.inl hk)))))
    have hgo7 : w7.heap[go]? = w6.heap[go]? := m7.block go hgo6 (fun hk => hgoz ((hzz go).2 (.inl hk)))
    have HRM := Hid.mk_ (rmake_at (c := c3) hR7 m hI7)
    rw [← HMKE.out] at HRM
    have HI7 := Hid.mk_ hI7
    have HG7 := Hid.mk_ (show Grew w6.drew w7 a S M mk.1 za from ⟨za', p7, m7, s7⟩)
    have HGO7 := Hid.mk_ (And.intro hgo7 hs7')
    clear hd hzz hgoz hgow p7 m7 s7 hs7 hs7' hgo6 hbsz hk7 hR7 hI7 hgo7 x20 hle2
    go_upto_region 11 with (go_at_call 36; (with_reducible refine HRM.out.mono ?_); rintro e w8 ⟨rfl, hg8⟩; have HG8 := Hid.mk_ hg8; clear hg8)
    obtain ⟨hd, hzz⟩ := HD.out
    obtain ⟨hgoz, hgow⟩ := HGZ.out
    obtain ⟨zx', r8, m8, s8⟩ := HG8.out
    have hgo6 := HK6.out.lt
    have hs8 := m8.size
    have hg8 : w8.heap[go]? = w6.heap[go]? := (m8.block go (by have := HGO7.out.2; omega) (fun hk => hgoz ((hzz go).2 (.inr hk)))).trans HGO7.out.1
    have hI8 : IntsIn w8 A3 ls := HI7.out.move0 hs8 (fun g p e h0 hg => m8.block g hg (fun hk => (HA3Z.out g p e h0).1 ((hzz g).2 (.inr hk))))
    have hO8 := HOWN.out w8 hg8 (by have := HGO7.out.2; omega)
    have HSM := Hid.mk_ (same_any (some ⟨go, 0, none⟩) A3 (ls.length + 2) c3 ls ls w8 hO8 hI8)
    rw [decide_eq_true rfl] at HSM
    have k8 := HK6.out.move hg8
    have q0 := k8.cell ls.length
    have q1 := k8.cell (ls.length + 1)
    simp at q0 q1
    have HK8 := Hid.mk_ k8
    obtain ⟨r1, hr1⟩ : ∃ r, r = mk.2.1 := ⟨_, rfl⟩
    obtain ⟨r2, hr2⟩ : ∃ r, r = mk.2.2 := ⟨_, rfl⟩
    rw [← hr1, ← hr2]
    have t1 : (r1 == r1) = true := by simp
    have t2 : (r2 == r2) = true := by simp
    have hg8l : go < w8.heap.size := k8.lt
    clear hd hzz hgoz hgow r8 m8 s8 hgo6 hs8 hg8 hI8 hO8 k8 hr1 hr2 x21
    go_wp2_with (go_at_call 16; (with_reducible refine HSM.out.mono ?_); rintro e w9 ⟨rfl, q9, rfl⟩)
    clear q0 q1
    go_loopw [16] (fun x16 wr => ∃ (k : Nat) (cs : List Value), k ≤ ls.length + 2 ∧ x16 = .int .i64 (k : Int) ∧ Hid (cs.length = ls.length + 2) ∧ Hid (Blk wr go cs 3) ∧ Hid (Mods (· = go) w8 wr)) (fun x16 _ => (ls.length + 2) - (intOf x16).toNat)
    case atStart => exact ⟨0, _, Nat.zero_le _, rfl, Hid.mk_ (by simp), HK8.out.drewN q9, (Mods.refl _ _).drewN _⟩
    case round =>
      obtain ⟨k, cs, hk, rfl, HCL, HKR, HMR⟩ := hrel
      by_cases hlt : k < ls.length + 2
      · have hlt1 : (k : Int) < ls.length + 2 := by omega
        have y0 := HKR.out.cell k
        rw [List.getElem?_eq_getElem (by rw [HCL.out]; exact hlt)] at y0
        have f0 := HKR.out.free k
        have l0 := HKR.out.lt
        obtain ⟨y, hy⟩ : ∃ y, y = cs[k]'(by rw [HCL.out]; exact hlt) := ⟨_, rfl⟩
        rw [← hy] at y0
        clear hy
        go_wp2_with fail
        go_roundw
        case rel => exact ⟨k + 1, cs.set k (.int .i64 (-5)), by omega, by go_num, Hid.mk_ (by rw [List.length_set, HCL.out]), HKR.out.set k _, HMR.out.setCell (p := ⟨go, k, none⟩) (fun _ => rfl) _⟩
        case measure => simp [intOf]; omega
      · have hge : ¬ (k : Int) < ls.length + 2 := by omega
        go_wp2_with fail
        go_ret
        refine ⟨rfl, mk.1, ?_⟩
        have h1 := HBW6.out
        have hs := h1.size
        obtain ⟨hd, hzz⟩ := HD.out
        have h2 : SideGrew w6.drew w8 a b S M mk.1 z := SideAt.both (HP.out.move (w' := w6.drew) hs (fun k hk => h1.block k (HP.out.zlt k hk))) HR6.out hd hzz (Below.refl _ _) HG7.out (Below.refl _ _) HG8.out
        exact SideGrew.end_ (w1 := w6.drew) (h1.trans (Drawn_below w6 1)) h2 HZ.out.2 HMR.out HGZ.out.2 HK6.out.lt
end
end Go.Proofs.Ytccgamaijjeafaa
