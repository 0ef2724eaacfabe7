/- side.kids. -/
import Derived.Test.YtccgamaijjeafaaC6
import Derived.Test.YtccgamaijjeafaaC8
import Derived.Test.YtccgamaijjeafaaE1
namespace Go.Proofs.Ytccgamaijjeafaa
open Go.RowKit
set_option linter.unusedVariables false
set_option linter.unusedSimpArgs false
theorem IntsIn.move0 {w w' : World} {A : Option Addr} {xs : List Int} (h : IntsIn w A xs) (hs : w.heap.size ≤ w'.heap.size) (hm : ∀ g o, A = some ⟨g, o, none⟩ → 0 < xs.length → g < w.heap.size → w'.heap[g]? = w.heap[g]?) : IntsIn w' A xs := by
  refine ⟨h.1, fun h0 => ?_⟩
  obtain ⟨g, o, e, hg, hc⟩ := h.2 h0
  exact ⟨g, o, e, by omega, fun j hj => (World.cell?_of_block (a := ⟨g, o + j, none⟩) (hm g o e h0 hg)).trans (hc j hj)⟩
/-- a step of a script, as it came in -/
structure OpV where
  other : Bool
  near : Bool
  what : Int
  n : Int
  A : Option Addr
  c : Nat
  ks : List Int
def OpV.agg (o : OpV) : Value := .agg #[.bool o.other, .bool o.near, .int .i64 o.what, .int .i64 o.n, .slice o.A o.ks.length o.c]
structure OpOk (w : World) (B : Nat) (o : OpV) : Prop where
  n0 : i64 o.n
  w0 : i64 o.what
  ints : IntsIn w o.A o.ks
  each : ∀ k ∈ o.ks, i64 k
  cap : o.ks.length ≤ o.c
  len : o.ks.length ≤ 17592186043904
  lo : 0 < o.ks.length → ∀ g p, o.A = some ⟨g, p, none⟩ → g < B
theorem OpOk.new {w w' : World} {B : Nat} {o : OpV} (h : OpOk w B o) (hb : Below B w w') : OpOk w' B o :=
  ⟨h.n0, h.w0, h.ints.move0 hb.size (fun g p e h0 _ => hb.block g (h.lo h0 g p e)), h.each, h.cap, h.len, h.lo⟩
/-- numbers that are handed on: their block is old or new -/
structure Lent (w w' : World) (B : Nat) (v : Value) (ks : List Int) : Prop where
  sh : ∃ A c, v = .slice A ks.length c ∧ ks.length ≤ c ∧ IntsIn w' A ks ∧ ∀ g p, A = some ⟨g, p, none⟩ → 0 < ks.length → (g < B ∨ w.heap.size ≤ g) ∧ g < w'.heap.size
  len : ks.length ≤ 17592186043904
section
variable {w : World} {b a B : Nat} {S : List Int} {M : Int} {L : List (Nd × Value)} {nv sv lv : Value} {rows : List Value} {cz : List Nat} {o : OpV}
theorem kids_far (hB : B ≤ w.heap.size) (ho : OpOk w B o) (hn : o.near = false) : Calls Try.prog 35 #[.agg #[.pointer (some ⟨a, 0, none⟩), .pointer (some ⟨b, 0, none⟩)], o.agg] w fun e w' => ∃ v, e = .returned v ∧ Lent w w' B v o.ks ∧ Below w.heap.size w w' := by
  obtain ⟨ot, nr, wh, n, A, c, ks⟩ := o
  simp only at hn
  subst hn
  unfold OpV.agg
  have HO := Hid.mk_ ho
  clear ho
  go_enter Try.func35, Try.ntmps35
  go_wp2_with fail
  go_ret
  have hb : Below w.heap.size w ((w.alloc (.cells #[.pointer (some ⟨a, 0, none⟩), .pointer (some ⟨b, 0, none⟩)] 34)).alloc (.cells #[.bool ot, .bool false, .int .i64 wh, .int .i64 n, .slice A ks.length c] 40)) := ((Below.refl _ _).alloc (Nat.le_refl _) _).alloc (by simp) _
  have h2 := HO.out.new (hb.mono hB)
  exact ⟨_, rfl, ⟨⟨A, c, rfl, HO.out.cap, h2.ints, fun g p e h0 => ⟨.inl (HO.out.lo h0 g p e), by have := HO.out.lo h0 g p e; have h3 := hb.size; exact Nat.lt_of_lt_of_le this (Nat.le_trans hB h3)⟩⟩, HO.out.len⟩, hb⟩
theorem pick_quiet {c n p : Int} (hp : p = pickI c n) (hn : 0 < n) (h : i64 c) (w : World) (q : Nat) : Calls Try.prog 11 #[.int .i64 c, .int .i64 n] (w.drewN q) fun e w'' => e = .returned (.int .i64 p) ∧ ∃ m, w'' = w.drewN m :=
  quietly q (pick_at hp hn h (w.drewN q))
def KidsPost (w : World) (B : Nat) (e : Ending) (w' : World) : Prop := ∃ v ks, e = .returned v ∧ Lent w w' B v ks ∧ Below w.heap.size w w'
set_option maxHeartbeats 4000000 in
theorem kids_near (hB : B ≤ w.heap.size) (h : RA w b S M L nv sv lv rows cz) (ho : OpOk w B o) (hn : o.near = true) : Calls Try.prog 35 #[.agg #[.pointer (some ⟨a, 0, none⟩), .pointer (some ⟨b, 0, none⟩)], o.agg] w (KidsPost w B) := by
  obtain ⟨ot, nr, wh, n, A, c, ks⟩ := o
  simp only at hn
  subst hn
  unfold OpV.agg
  have hb1 : Below w.heap.size w ((w.alloc (.cells #[.pointer (some ⟨a, 0, none⟩), .pointer (some ⟨b, 0, none⟩)] 34)).alloc (.cells #[.bool ot, .bool true, .int .i64 wh, .int .i64 n, .slice A ks.length c] 40)) := ((Below.refl _ _).alloc (Nat.le_refl _) _).alloc (by simp) _
  have hx2 := (Blk.new w [.pointer (some ⟨a, 0, none⟩), .pointer (some ⟨b, 0, none⟩)] 34).alloc (.cells #[.bool ot, .bool true, .int .i64 wh, .int .i64 n, .slice A ks.length c] 40)
  have hx3 := Blk.new (w.alloc (.cells #[.pointer (some ⟨a, 0, none⟩), .pointer (some ⟨b, 0, none⟩)] 34)) [.bool ot, .bool true, .int .i64 wh, .int .i64 n, .slice A ks.length c] 40
  rw [show (w.alloc (.cells #[.pointer (some ⟨a, 0, none⟩), .pointer (some ⟨b, 0, none⟩)] 34)).heap.size = w.heap.size + 1 by simp] at hx3
  obtain ⟨w1, hw1⟩ : ∃ w1, w1 = (w.alloc (.cells #[.pointer (some ⟨a, 0, none⟩), .pointer (some ⟨b, 0, none⟩)] 34)).alloc (.cells #[.bool ot, .bool true, .int .i64 wh, .int .i64 n, .slice A ks.length c] 40) := ⟨_, rfl⟩
  rw [← hw1] at hb1 hx2 hx3
  have HRA := Hid.mk_ (fun (W : World) (hW : Below w1.heap.size w1 W) => h.new (hb1.trans (hW.mono hb1.size)))
  have HOP := Hid.mk_ (fun (W : World) (hW : Below w1.heap.size w1 W) => ho.new ((hb1.trans (hW.mono hb1.size)).mono hB))
  have HX2 := Hid.mk_ (fun (W : World) (hW : Below w1.heap.size w1 W) => hx2.below hW hx2.lt)
  have HX3 := Hid.mk_ (fun (W : World) (hW : Below w1.heap.size w1 W) => hx3.below hW hx3.lt)
  have HB1 := Hid.mk_ hb1
  have HW1 := Hid.mk_ hw1
  have hS1 := h.good.toSized.s1
  have hS2 := h.good.toSized.s2
  have hN := h.good.len2
  have hn0 : i64 n := ho.n0
  have ho_each : ∀ k ∈ ks, i64 k := ho.each
  have hlv := pickI_range n S.length (by omega)
  obtain ⟨lvl_, hle⟩ : ∃ l : Nat, (l : Int) = pickI n S.length := ⟨(pickI n S.length).toNat, by omega⟩
  rw [← hle] at hlv
  have hl1 : lvl_ < S.length := by omega
  have hcnt := h.good.toSized.at_ lvl_ hl1
  obtain ⟨gs, cs, hsv, hcs, hgz, hgs, hsl, hsc⟩ := h.s
  subst hsv
  have hHS := Hid.mk_ (fun (W : World) (hW : Below w1.heap.size w1 W) => show W.cell? ⟨gs, lvl_, none⟩ = some (.int .i64 (S[lvl_]'hl1)) from ((hb1.trans (hW.mono hb1.size)).cell (p := ⟨gs, lvl_, none⟩) hgs).trans (hsc lvl_ hl1))
  obtain ⟨cnt, hce⟩ : ∃ c : Nat, (c : Int) = S[lvl_]'hl1 := ⟨(S[lvl_]'hl1).toNat, by omega⟩
  rw [← hce] at hHS hcnt
  have HPK := Hid.mk_ (fun (W : World) (q : Nat) => pick_quiet hle (by omega) hn0 W q)
  obtain ⟨bs, hbs⟩ : ∃ bs, bs = w.heap.size := ⟨_, rfl⟩
  obtain ⟨bo, hbo⟩ : ∃ bo, bo = w.heap.size + 1 := ⟨_, rfl⟩
  rw [← hbs] at HX2
  rw [← hbo] at HX3
  have HBS := Hid.mk_ hbs
  have HBO := Hid.mk_ hbo
  have c20 := (HX2.out w1 (Below.refl _ _)).cell 0
  have c21 := (HX2.out w1 (Below.refl _ _)).cell 1
  have c31 := (HX3.out w1 (Below.refl _ _)).cell 1
  have c33 := (HX3.out w1 (Below.refl _ _)).cell 3
  have c34 := (HX3.out w1 (Below.refl _ _)).cell 4
  have r0 := (HRA.out w1 (Below.refl _ _)).c0
  clear h ho hb1 hx2 hx3 hw1 hsc hle hce hbs hbo hgz hn0
  go_enter Try.func35, Try.ntmps35
  go_upto_region 1 with fail
  rw [← HBO.out, ← HBS.out, ← HW1.out]
  go_wp2_with fail
  go_big_quiet ((go_at_call 11; with_reducible exact HPK.out _ _))
  go_wp2_with fail
  obtain ⟨i3, hi3, ha0, ha1, ha2⟩ := info_parts Try.info3
  clear c20 c21 c31 c33 c34 r0
  go_loopw [5, 7] (fun x5 x7 wr => ∃ (k : Nat) (v : Value) (ls : List Int), k ≤ cnt ∧ x7 = .int .i64 (k : Int) ∧ x5 = v ∧ Hid (ls.length = k) ∧ Hid (Row wr 3 1 v k (ls.map (Value.int .i64))) ∧ Hid (∀ q, v.ownBlock = some q → w1.heap.size ≤ q) ∧ Hid (Below w1.heap.size w1 wr)) (fun _ x7 _ => cnt - (intOf x7).toNat)
  case atStart => exact ⟨0, _, [], Nat.zero_le _, rfl, rfl, rfl, Row.nil _ _ _, by simp [Value.ownBlock, Hid], Drawn_below _ _⟩
  case round =>
    obtain ⟨k, v, ls, hk, rfl, rfl, HLS, HRW, HOW, HBr⟩ := hrel
    obtain ⟨Av, cv2, hv⟩ := HRW.out.shape
    subst hv
    have c21 := (HX2.out wr HBr.out).cell 1
    have c34 := (HX3.out wr HBr.out).cell 4
    have r0 := (HRA.out wr HBr.out).c0
    have s0 := hHS.out wr HBr.out
    by_cases hlt : k < cnt
    · have hlt1 : (k : Int) < cnt := by omega
      have HLEN0 := Hid.mk_ (fun (q : Nat) => len_ra (HRA.out _ (HBr.out.trans (Drawn_below wr q))))
      have HLEN00 := Hid.mk_ (len_ra (HRA.out _ HBr.out))
      by_cases hk0 : 0 < ks.length
      · have hk01 : (0 : Int) < ks.length := by omega
        obtain ⟨g, p, rfl, hg, hc⟩ := (HOP.out wr HBr.out).ints.2 hk0
        obtain ⟨m, hme⟩ : ∃ m, m = k % ks.length := ⟨_, rfl⟩
        have hm : m < ks.length := by rw [hme]; exact Nat.mod_lt _ hk0
        have hm1 : (m : Int) < ks.length := by omega
        have htm : Int.tmod (k : Int) (ks.length : Int) = (m : Int) := by rw [hme, Int.tmod_eq_emod_of_nonneg (by omega), Int.natCast_emod]
        have hkz : ¬ (ks.length : Int) = 0 := by omega
        have d0 := hc m hm
        have hce := ho_each _ (List.getElem_mem hm)
        obtain ⟨cv, hcv⟩ : ∃ cv, cv = ks[m]'hm := ⟨_, rfl⟩
        rw [← hcv] at d0 hce
        have hpr := pickI_range cv ((nds L).length + 3) (by omega)
        have HPK2 := Hid.mk_ (fun (W : World) => pick_at (c := cv) (n := ((nds L).length : Int) + 3) rfl (by omega) hce W)
        obtain ⟨f0, hf0⟩ : ∃ f0, f0 = pickI cv (((nds L).length : Int) + 3) := ⟨_, rfl⟩
        rw [← hf0] at hpr HPK2
        clear hf0 hcv hc hme
        go_wp2_with fail
        go_wp2_with fail
        go_big_quiet (fail)
        have HBt := Hid.mk_ (HBr.out.trans (Drawn_below wr nq))
        have HRWt := Hid.mk_ (show Row (wr.drewN nq) 3 1 (.slice Av k cv2) k (ls.map (Value.int .i64)) from HRW.out)
        obtain ⟨wt, hwt⟩ : ∃ wt, wt = (wr.drewN nq) := ⟨_, rfl⟩
        rw [← hwt] at HBt HRWt ⊢
        have HLEN := Hid.mk_ (len_ra (HRA.out wt HBt.out))
        have e21 := (HX2.out wt HBt.out).cell 1
        have e34 := (HX3.out wt HBt.out).cell 4
        have hN1 : (((nds L).length : Int)) ≤ 8192 := by omega
        clear c21 c34 r0 s0 hwt
        go_wp2_with (first
          | (go_at_call 10; (with_reducible refine HLEN.out.mono ?_); rintro e w' ⟨rfl, rfl⟩)
          | (go_at_call 11; (with_reducible refine (HPK2.out _).mono ?_); rintro e w' ⟨rfl, rfl⟩))
        go_loop [9] (fun x9 => ∃ f : Int, 0 ≤ f ∧ f ≤ (nds L).length + 2 ∧ x9 = .int .i64 f) (fun x9 => (intOf x9).toNat)
        case atStart => exact ⟨_, hpr.1, by omega, rfl⟩
        case round =>
          obtain ⟨f, hf0, hf1, rfl⟩ := hrel
          have HLV := Hid.mk_ (level_ra (HRA.out _ HBt.out) f)
          obtain ⟨y, hy⟩ : ∃ y, y = lvl S.length (nds L) f := ⟨_, rfl⟩
          rw [← hy] at HLV
          clear hy
          have hcase : (0 ≤ cv ∧ 1 < f ∧ y ≤ (lvl_ : Int) ∧ f < (nds L).length + 2) ∨ (¬ 0 ≤ cv) ∨ (0 ≤ cv ∧ ¬ 1 < f) ∨ (0 ≤ cv ∧ 1 < f ∧ ¬ y ≤ (lvl_ : Int)) ∨ (0 ≤ cv ∧ 1 < f ∧ y ≤ (lvl_ : Int) ∧ ¬ f < (nds L).length + 2) := by omega
          rcases hcase with ⟨a1, a2, a3, a4⟩ | a1 | ⟨a1, a2⟩ | ⟨a1, a2, a3⟩ | ⟨a1, a2, a3, a4⟩
          · go_wp2_with (first
              | (go_at_call 24; (with_reducible refine HLV.out.mono ?_); rintro e w' ⟨rfl, rfl⟩)
              | (go_at_call 10; (with_reducible refine HLEN.out.mono ?_); rintro e w' ⟨rfl, rfl⟩))
            go_round
            case rel => exact ⟨f - 1, by omega, by omega, rfl⟩
            case measure => simp [intOf]; omega
          all_goals first
            | (exfalso; omega)
            | (go_wp2_with (first
                | (go_at_call 24; (with_reducible refine HLV.out.mono ?_); rintro e w' ⟨rfl, rfl⟩)
                | (go_at_call 10; (with_reducible refine HLEN.out.mono ?_); rintro e w' ⟨rfl, rfl⟩)
                | (at_builtin; refine wpList_append_row _ rfl (.tmp 79) (.tmp 81) 22 rfl 3 i3 (.int .i64 0) 1 8 Try.underlying22 hi3 ha0 ha1 ha2 rfl (by omega) (.slice Av k cv2) k (ls.map (Value.int .i64)) rfl (HRWt.out.alloc _) ⟨wt.heap.size, 0, none⟩ 1 1 [.int .i64 f] rfl rfl (one_cells_at wt _ _ rfl) (by simp [Value.oneCell']) (by omega) (by unfold maxLen; omega) (by omega) (wt.heap.size + 1) (by simp) ?_; intro g7 c7 w7 hrow7 hgrow7 hloc7 hlt7))
               have hbs := HBt.out.size
               refine ⟨⟨k + 1, _, ls ++ [f], by omega, by go_num, rfl, Hid.mk_ (by simp [HLS.out]), by rw [List.map_append]; exact hrow7, ?_, (HBt.out.alloc hbs _).grown hgrow7 (by simp; omega) (fun q hq => HOW.out q hq)⟩, by simp [intOf]; omega⟩
               intro q hq
               have e3 : g7 = q := Option.some.inj hq
               rcases hloc7 with e | e
               · exact e3 ▸ HOW.out g7 e
               · rw [← e3, e]; omega)
      · have hk01 : ¬ (0 : Int) < ks.length := by omega
        have hce : i64 (0 : Int) := by unfold i64; omega
        have hpr := pickI_range 0 ((nds L).length + 3) (by omega)
        have HPK2 := Hid.mk_ (fun (W : World) => pick_at (c := 0) (n := ((nds L).length : Int) + 3) rfl (by omega) hce W)
        obtain ⟨f0, hf0⟩ : ∃ f0, f0 = pickI 0 (((nds L).length : Int) + 3) := ⟨_, rfl⟩
        rw [← hf0] at hpr HPK2
        clear hf0 hce
        go_upto_region 11 with fail
        have HBt := Hid.mk_ (HBr.out)
        have HRWt := Hid.mk_ (show Row wr 3 1 (.slice Av k cv2) k (ls.map (Value.int .i64)) from HRW.out)
        obtain ⟨wt, hwt⟩ : ∃ wt, wt = wr := ⟨_, rfl⟩
        rw [← hwt] at HBt HRWt ⊢
        have HLEN := Hid.mk_ (len_ra (HRA.out wt HBt.out))
        have e21 := (HX2.out wt HBt.out).cell 1
        have e34 := (HX3.out wt HBt.out).cell 4
        have hN1 : (((nds L).length : Int)) ≤ 8192 := by omega
        clear c21 c34 r0 s0 hwt
        go_wp2_with (first
          | (go_at_call 10; (with_reducible refine HLEN.out.mono ?_); rintro e w' ⟨rfl, rfl⟩)
          | (go_at_call 11; (with_reducible refine (HPK2.out _).mono ?_); rintro e w' ⟨rfl, rfl⟩))
        go_loop [9] (fun x9 => ∃ f : Int, 0 ≤ f ∧ f ≤ (nds L).length + 2 ∧ x9 = .int .i64 f) (fun x9 => (intOf x9).toNat)
        case atStart => exact ⟨_, hpr.1, by omega, rfl⟩
        case round =>
          obtain ⟨f, hf0, hf1, rfl⟩ := hrel
          have HLV := Hid.mk_ (level_ra (HRA.out _ HBt.out) f)
          obtain ⟨y, hy⟩ : ∃ y, y = lvl S.length (nds L) f := ⟨_, rfl⟩
          rw [← hy] at HLV
          clear hy
          have hcase : (0 ≤ (0 : Int) ∧ 1 < f ∧ y ≤ (lvl_ : Int) ∧ f < (nds L).length + 2) ∨ (¬ 0 ≤ (0 : Int)) ∨ (0 ≤ (0 : Int) ∧ ¬ 1 < f) ∨ (0 ≤ (0 : Int) ∧ 1 < f ∧ ¬ y ≤ (lvl_ : Int)) ∨ (0 ≤ (0 : Int) ∧ 1 < f ∧ y ≤ (lvl_ : Int) ∧ ¬ f < (nds L).length + 2) := by omega
          rcases hcase with ⟨a1, a2, a3, a4⟩ | a1 | ⟨a1, a2⟩ | ⟨a1, a2, a3⟩ | ⟨a1, a2, a3, a4⟩
          · go_wp2_with (first
              | (go_at_call 24; (with_reducible refine HLV.out.mono ?_); rintro e w' ⟨rfl, rfl⟩)
              | (go_at_call 10; (with_reducible refine HLEN.out.mono ?_); rintro e w' ⟨rfl, rfl⟩))
            go_round
            case rel => exact ⟨f - 1, by omega, by omega, rfl⟩
            case measure => simp [intOf]; omega
          all_goals first
            | (exfalso; omega)
            | (go_wp2_with (first
                | (go_at_call 24; (with_reducible refine HLV.out.mono ?_); rintro e w' ⟨rfl, rfl⟩)
                | (go_at_call 10; (with_reducible refine HLEN.out.mono ?_); rintro e w' ⟨rfl, rfl⟩)
                | (at_builtin; refine wpList_append_row _ rfl (.tmp 79) (.tmp 81) 22 rfl 3 i3 (.int .i64 0) 1 8 Try.underlying22 hi3 ha0 ha1 ha2 rfl (by omega) (.slice Av k cv2) k (ls.map (Value.int .i64)) rfl (HRWt.out.alloc _) ⟨wt.heap.size, 0, none⟩ 1 1 [.int .i64 f] rfl rfl (one_cells_at wt _ _ rfl) (by simp [Value.oneCell']) (by omega) (by unfold maxLen; omega) (by omega) (wt.heap.size + 1) (by simp) ?_; intro g7 c7 w7 hrow7 hgrow7 hloc7 hlt7))
               have hbs := HBt.out.size
               refine ⟨⟨k + 1, _, ls ++ [f], by omega, by go_num, rfl, Hid.mk_ (by simp [HLS.out]), by rw [List.map_append]; exact hrow7, ?_, (HBt.out.alloc hbs _).grown hgrow7 (by simp; omega) (fun q hq => HOW.out q hq)⟩, by simp [intOf]; omega⟩
               intro q hq
               have e3 : g7 = q := Option.some.inj hq
               rcases hloc7 with e | e
               · exact e3 ▸ HOW.out g7 e
               · rw [← e3, e]; omega)
    · have hge : ¬ (k : Int) < cnt := by omega
      go_wp2_with fail
      go_ret
      have ek : k = cnt := by omega
      have hsz := HB1.out.size
      have hrow := HRW.out
      have hb := HB1.out.trans (HBr.out.mono hsz)
      refine ⟨.slice Av k cv2, ls, rfl, ⟨⟨Av, cv2, by rw [HLS.out], ?_, ?_, fun g p e _ => ?_⟩, by rw [HLS.out]; omega⟩, hb⟩
      · rw [HLS.out]; exact hrow.capLe
      · refine ⟨by rw [HLS.out]; omega, fun h0 => ?_⟩
        obtain ⟨g, c', e, hg, _⟩ := hrow.some_ (by rw [HLS.out] at h0; exact h0)
        cases e
        exact ⟨g, 0, rfl, hg, fun j hj => by rw [Nat.zero_add]; exact hrow.cellsIn j hj⟩
      · subst e
        have hrs := hrow
        rcases hrs.2 with ⟨e2, _⟩ | ⟨g2, cap, cur, e2, _⟩
        · cases e2
        · cases e2
          have h1 := HOW.out g rfl
          exact ⟨.inr (Nat.le_trans hsz h1), hrow.lt g rfl⟩
end
end Go.Proofs.Ytccgamaijjeafaa
