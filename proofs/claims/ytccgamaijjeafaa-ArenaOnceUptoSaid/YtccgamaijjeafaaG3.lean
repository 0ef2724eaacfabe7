/- ArenaOnce: its walk. -/
import Derived.Test.YtccgamaijjeafaaG2
namespace Go.Proofs.Ytccgamaijjeafaa
open Go.RowKit
set_option linter.unusedVariables false
set_option linter.unusedSimpArgs false
section
variable {w w' : World} {A A1 A3 A4 : Option Addr} {c c1 c3 c4 : Nat} {S Z : List Int} {M M0 : Int} {ops : List OpV}
theorem rnew_ok (hA : IntsIn w A S) (hS : Sized S M) : Calls Try.prog 7 #[.slice A S.length c, .int .i64 M] w fun e w' => ∃ b z, e = .returned (.tuple #[.pointer (some ⟨b, 0, none⟩), .int .i64 0]) ∧ RAt w' b S M [] z ∧ (∀ k ∈ z, w.heap.size ≤ k) ∧ Below w.heap.size w w' :=
  (rnew_any hA).mono fun e w' ⟨h1, _, h3⟩ => by
    obtain ⟨b, z, h4, h5, h6⟩ := h1 hS
    exact ⟨b, z, h4, h5, h6, h3⟩
theorem head_at (l : List Int) (h : 0 < l.length) : l[0]'h = l.headD 0 := by cases l with | nil => simp at h | cons a l => rfl
theorem SideAt.lenP0 {a b : Nat} {N : List Nd} {z : List Nat} (h : SideAt w a b S M N z) : Calls Try.prog 12 #[.pointer (some ⟨a, 0, none⟩)] w fun e w' => e = .returned (.int .i64 (N.length : Int)) ∧ w = w' := by
  obtain ⟨za, zx, ⟨L, nv, sv, mb, cz, p, e1, e2⟩, _⟩ := h.ex
  rw [← e1]
  exact len_pa p
theorem SideAt.mostP0 {a b : Nat} {N : List Nd} {z : List Nat} (h : SideAt w a b S M N z) : Calls Try.prog 13 #[.pointer (some ⟨a, 0, none⟩)] w fun e w' => e = .returned (.int .i64 M) ∧ w = w' := by
  obtain ⟨za, zx, ⟨L, nv, sv, mb, cz, p, e1, e2⟩, _⟩ := h.ex
  exact most_pa p
theorem rows_apart {v u : Value} {n m k : Nat} {xs ys : List Value} (h : Row w 47 2 v n xs) (h' : Row w 3 1 u m ys) (hv : v.ownBlock = some k) (hu : u.ownBlock = some k) : False := by
  rcases h.2 with ⟨rfl, _⟩ | ⟨g, cap, cur, rfl, h3, _⟩
  · simp [Value.ownBlock] at hv
  · rcases h'.2 with ⟨rfl, _⟩ | ⟨g', cap', cur', rfl, h3', _⟩
    · simp [Value.ownBlock] at hu
    · simp [Value.ownBlock] at hv hu
      subst hv
      subst hu
      rw [h3] at h3'
      simp at h3'
theorem NList.snoc {nv v nv7 : Value} {L : List (Nd × Value)} {nd : Nd} {o : Obj} {w7 : World} (h : NList w nv L) (hv : Row w 3 1 v nd.ks.length (nd.ks.map (Value.int .i64)))
    (hr : Row w7 47 2 nv7 (L.length + 1) (ndCells L ++ [.int .i64 nd.lv, v])) (hg : (w.alloc o).grownBy w7 nv.ownBlock) : NList w7 nv7 (L ++ [(nd, v)]) := by
  have key : ∀ (u : Value) (m : Nat) (ys : List Value), Row w 3 1 u m ys → Row w7 3 1 u m ys := fun u m ys hu => hu.move fun k hk => by
    have hlt := hu.lt k hk
    rw [hg.block k (by simp; omega) (fun e => rows_apart h.row hu e.symm hk)]
    exact Below.heap_alloc w o k hlt
  refine ⟨?_, fun p hp => ?_⟩
  · rw [ndCells_append, List.length_append]
    exact hr
  · rcases List.mem_append.1 hp with e | e
    · exact key _ _ _ (h.each p e)
    · simp at e
      subst e
      exact key _ _ _ hv
/-- lists of numbers as they came in -/
structure RowsIn (w : World) (B : Nat) (A : Option Addr) (rows : List (Option Addr × Nat × List Int)) : Prop where
  len : rows.length ≤ 1048576
  at_ : 0 < rows.length → ∃ g o, A = some ⟨g, o, none⟩ ∧ g < B ∧ ∀ j (h : j < rows.length), w.cell? ⟨g, o + j, none⟩ = some (.slice (rows[j]'h).1 (rows[j]'h).2.2.length (rows[j]'h).2.1)
  each : ∀ r ∈ rows, IntsIn w r.1 r.2.2 ∧ (∀ x ∈ r.2.2, i64 x) ∧ (0 < r.2.2.length → ∀ g p, r.1 = some ⟨g, p, none⟩ → g < B)
theorem RowsIn.new {B : Nat} {rows : List (Option Addr × Nat × List Int)} (h : RowsIn w B A rows) (hb : Below B w w') : RowsIn w' B A rows := by
  refine ⟨h.len, fun h0 => ?_, fun r hr => ?_⟩
  · obtain ⟨g, o, e, hg, hc⟩ := h.at_ h0
    exact ⟨g, o, e, hg, fun j hj => (hb.cell (p := ⟨g, o + j, none⟩) hg).trans (hc j hj)⟩
  · obtain ⟨h1, h2, h3⟩ := h.each r hr
    exact ⟨h1.move0 hb.size (fun g p e h0 _ => hb.block g (h3 h0 g p e)), h2, h3⟩
set_option maxRecDepth 100000 in
set_option maxHeartbeats 32000000 in
theorem once_any {rows : List (Option Addr × Nat × List Int)} (h1 : IntsIn w A1 Z) (hz : ∀ x ∈ Z, i64 x) (hm : i64 M0) (h3 : OpsIn w w.heap.size A3 ops) (h4 : RowsIn w w.heap.size A4 rows) :
    Calls Try.prog 4 #[.slice A1 Z.length c1, .int .i64 M0, .slice A3 ops.length c3, .slice A4 rows.length c4] w fun e w' => e = .returned (.bool true) ∧ Below w.heap.size w w' := by
  have HK := Hid.mk_ (known_any w)
  have H1 := Hid.mk_ (fun (W : World) (hW : Below w.heap.size w W) => h1.new hW)
  have HZ := Hid.mk_ hz
  have H3 := Hid.mk_ h3
  have H4 := Hid.mk_ h4
  have hl3 := h3.len
  have hl4 := h4.len
  have hl1 := h1.1
  clear h1 h3 h4 hz
  obtain ⟨i3, hi3, ha0, ha1, ha2⟩ := info_parts Try.info3
  go_enter Try.func4, Try.ntmps4
  go_upto_region 2 with (go_at_call 5; (with_reducible refine HK.out.mono ?_); rintro e w1 ⟨rfl, hb1⟩; have HB1 := Hid.mk_ hb1; clear hb1)
  go_upto_block 0 with fail
  go_cut [10, 11] from 35 to 53 (fun x10 x11 wx => ∃ (v : Value) (ls : List Int), x10 = v ∧ Hid (ls.length ≤ 12 ∧ ∀ x ∈ ls, 1 ≤ x ∧ x ≤ 4) ∧ Hid (Row wx 3 1 v ls.length (ls.map (Value.int .i64))) ∧ Hid (Below w1.heap.size w1 wx))
  case first =>
    go_wp2_with fail
    go_loopw [10, 11] (fun x10 x11 wr => ∃ (k : Nat) (v : Value) (ls : List Int), k ≤ Z.length ∧ k ≤ 12 ∧ x10 = v ∧ x11 = .int .i64 (k : Int) ∧ Hid (ls.length = k ∧ ∀ x ∈ ls, 1 ≤ x ∧ x ≤ 4) ∧ Hid (Row wr 3 1 v k (ls.map (Value.int .i64))) ∧ Hid (∀ q, v.ownBlock = some q → w1.heap.size ≤ q) ∧ Hid (Below w1.heap.size w1 wr)) (fun _ x11 _ => 12 - (intOf x11).toNat)
    case atStart => exact ⟨0, _, [], Nat.zero_le _, by omega, rfl, rfl, Hid.mk_ ⟨rfl, by simp⟩, Row.nil _ _ _, Hid.mk_ (by simp [Value.ownBlock]), Below.refl _ _⟩
    case round =>
      obtain ⟨k, v, ls, hk, hk12, rfl, rfl, HLS, HRW, HOW, HBr⟩ := hrel
      obtain ⟨Av, cv, hv⟩ := HRW.out.shape
      subst hv
      have hbw := HB1.out.trans (HBr.out.mono HB1.out.size)
      by_cases hlt : k < Z.length ∧ k < 12
      · obtain ⟨ht1, ht2⟩ := hlt
        have ht11 : (k : Int) < Z.length := by omega
        have ht21 : (k : Int) < 12 := by omega
        obtain ⟨g, p, rfl, hg, hc⟩ := (H1.out wr hbw).2 (by omega)
        have c0 := hc k ht1
        have hze := HZ.out _ (List.getElem_mem ht1)
        obtain ⟨y, hy⟩ : ∃ y, y = Z[k]'ht1 := ⟨_, rfl⟩
        rw [← hy] at c0 hze
        have hpr := pickI_range y 4 (by omega)
        have HPK := Hid.mk_ (fun (W : World) => pick_at (c := y) (n := 4) rfl (by omega) hze W)
        obtain ⟨f, hf⟩ : ∃ f, f = pickI y 4 := ⟨_, rfl⟩
        rw [← hf] at hpr HPK
        clear hy hc hze hf hbw
        go_wp2_with (first
          | (go_at_call 11; (with_reducible refine (HPK.out _).mono ?_); rintro e w' ⟨rfl, rfl⟩)
          | (at_builtin; refine wpList_append_row _ rfl (.tmp 45) (.tmp 52) 22 rfl 3 i3 (.int .i64 0) 1 8 Try.underlying22 hi3 ha0 ha1 ha2 rfl (by omega) (.slice Av k cv) k (ls.map (Value.int .i64)) rfl (HRW.out.alloc _) ⟨wr.heap.size, 0, none⟩ 1 1 [.int .i64 (1 + f)] rfl rfl (one_cells_at wr _ _ rfl) (by simp [Value.oneCell']) (by omega) (by unfold maxLen; omega) (by omega) (wr.heap.size + 1) (by simp) ?_; intro g7 c7 w7 hrow7 hgrow7 hloc7 hlt7))
        have hbs := HBr.out.size
        refine ⟨⟨k + 1, _, ls ++ [1 + f], by omega, by omega, rfl, by go_num, Hid.mk_ ⟨by simp [HLS.out.1], fun x hx => ?_⟩, by rw [List.map_append]; exact hrow7, Hid.mk_ (fun q hq => ?_), (HBr.out.alloc hbs _).grown hgrow7 (by simp; omega) (fun q hq => HOW.out q hq)⟩, by simp [intOf]; omega⟩
        · rcases List.mem_append.1 hx with e | e
          · exact HLS.out.2 x e
          · simp at e; omega
        · have e3 : g7 = q := Option.some.inj hq
          rcases hloc7 with e | e
          · exact e3 ▸ HOW.out g7 e
          · rw [← e3, e]; omega
      · have hcase : (¬ (k : Int) < Z.length) ∨ ((k : Int) < Z.length ∧ ¬ (k : Int) < 12) := by omega
        rcases hcase with t1 | ⟨t1, t2⟩
        all_goals (
          go_wp2_with fail
          go_meet
          exact ⟨_, ls, rfl, Hid.mk_ ⟨by rw [HLS.out.1]; exact hk12, HLS.out.2⟩, by rw [HLS.out.1]; exact HRW.out, HBr.out⟩)
  case rest =>
    obtain ⟨v, ls, rfl, HLS, HRW, HBr⟩ := hcut
    obtain ⟨wb, rfl⟩ : ∃ wb : World, wb = wc := ⟨_, rfl⟩
    obtain ⟨Av, cv, hv⟩ := HRW.out.shape
    subst hv
    have HBW := Hid.mk_ (HB1.out.trans (HBr.out.mono HB1.out.size))
    have hl12 := HLS.out.1
    by_cases hls0 : ls.length = 0
    · have t0 : ((ls.length : Int) == 0) = true := by simp [hls0]
      have t1 : decide ((ls.length : Int) = 0) = true := by simp [hls0]
      have HL0 := Hid.mk_ hls0
      clear hls0
      go_wp2_with fail
      go_ret
      exact ⟨rfl, HBW.out⟩
    · have t0 : ((ls.length : Int) == 0) = false := by simpa using hls0
      have t1 : decide ((ls.length : Int) = 0) = false := by simpa using hls0
      have hl1p : 1 ≤ ls.length := by omega
      obtain ⟨Av', cv', e, hil⟩ := HRW.out.intsIn (by omega)
      cases e
      have hpm := pickI_range M0 8193 (by omega)
      have hsz : Sized ls (pickI M0 8193) := ⟨hl1p, hl12, fun x hx => by have := HLS.out.2 x hx; omega, hpm.1, by omega⟩
      have HPM := Hid.mk_ (fun (W : World) => pick_at (c := M0) (n := 8193) rfl (by omega) hm W)
      obtain ⟨M, hM⟩ : ∃ M, M = pickI M0 8193 := ⟨_, rfl⟩
      rw [← hM] at hsz hpm HPM
      have HSZ := Hid.mk_ hsz
      have HIL := Hid.mk_ (fun (W : World) (hW : Below wb.heap.size wb W) => hil.new hW)
      have HN1 := Hid.mk_ (new_ok (c := cv) hil hsz)
      clear hM hsz hil hls0
      go_upto_region 10 with (first
        | (go_at_call 11; (with_reducible refine (HPM.out _).mono ?_); rintro e w' ⟨rfl, rfl⟩)
        | (go_at_call 6; (with_reducible refine HN1.out.mono ?_); rintro e w6 ⟨a, za, rfl, hpa, hza, hb6⟩; have HPA := Hid.mk_ hpa; have HZA := Hid.mk_ hza; have HB6 := Hid.mk_ hb6; clear hpa hza hb6))
      have HN2 := Hid.mk_ (rnew_ok (c := cv) (HIL.out w6 HB6.out) HSZ.out)
      go_upto_region 11 with (first
        | (go_at_call 11; (with_reducible refine (HPM.out _).mono ?_); rintro e w' ⟨rfl, rfl⟩)
        | (go_at_call 7; (with_reducible refine HN2.out.mono ?_); rintro e w7 ⟨b, zx, rfl, hpx, hzx, hb7⟩; have HPX := Hid.mk_ hpx; have HZX := Hid.mk_ hzx; have HB7 := Hid.mk_ hb7; clear hpx hzx hb7))
      have hst : St1 wb ((w7.alloc (.cells #[.pointer (some ⟨a, 0, none⟩), .pointer (some ⟨b, 0, none⟩)] 34)).alloc (.cells #[.slice (some ⟨w7.heap.size, 0, none⟩) 1 1, .slice none 0 0] 38)) (w7.heap.size + 1) w7.heap.size a b ls M [] (za ++ zx) (.slice none 0 0) [] := by
        have s6 := HB6.out.size
        have s7 := HB7.out.size
        have hb2 : Below w7.heap.size w7 ((w7.alloc (.cells #[.pointer (some ⟨a, 0, none⟩), .pointer (some ⟨b, 0, none⟩)] 34)).alloc (.cells #[.slice (some ⟨w7.heap.size, 0, none⟩) 1 1, .slice none 0 0] 38)) := ((Below.refl _ _).alloc (Nat.le_refl _) _).alloc (by simp) _
        have k1 := (Blk.new w7 [.pointer (some ⟨a, 0, none⟩), .pointer (some ⟨b, 0, none⟩)] 34).alloc (.cells #[.slice (some ⟨w7.heap.size, 0, none⟩) 1 1, .slice none 0 0] 38)
        have k2 := Blk.new (w7.alloc (.cells #[.pointer (some ⟨a, 0, none⟩), .pointer (some ⟨b, 0, none⟩)] 34)) [.slice (some ⟨w7.heap.size, 0, none⟩) 1 1, .slice none 0 0] 38
        rw [show (w7.alloc (.cells #[.pointer (some ⟨a, 0, none⟩), .pointer (some ⟨b, 0, none⟩)] 34)).heap.size = w7.heap.size + 1 by simp] at k2
        have hzl : ∀ q, q ∈ za ++ zx → q < w7.heap.size ∧ wb.heap.size ≤ q := fun q hq => by
          rcases List.mem_append.1 hq with e | e
          · have h1 := HZA.out q e
            have h2 := HPA.out.zlt q e
            exact ⟨by omega, h1⟩
          · have h1 := HZX.out q e
            have h2 := HPX.out.zlt q e
            exact ⟨h2, by omega⟩
        have hsd : SideAt w7 a b ls M [] (za ++ zx) := ⟨za, zx, HPA.out.move s7 (fun q hq => HB7.out.block q (HPA.out.zlt q hq)), HPX.out, fun q h1 h2 => by have := HPA.out.zlt q h1; have := HZX.out q h2; omega, fun q => List.mem_append⟩
        refine ⟨hsd.new hb2, k1, ⟨k2, Row.nil _ _ _, by simp, fun i j hi => absurd hi (by simp)⟩, fun q hq => ⟨by have := (hzl q hq).1; omega, fun e => ?_, fun ⟨u, hu, _⟩ => by simp at hu⟩, fun q hq => ?_, (HB6.out.trans (HB7.out.mono s6)).trans (hb2.mono (by omega))⟩
        · rcases e with e | e
          · have := (hzl q hq).1; omega
          · simp [Value.ownBlock] at e
        · rcases hq with e | e | e | ⟨u, hu, _⟩
          · exact (hzl q e).2
          · omega
          · rcases e with e | e
            · omega
            · simp [Value.ownBlock] at e
          · simp at hu
      have HST := Hid.mk_ hst
      clear hst
      obtain ⟨gs, hgs⟩ : ∃ gs, gs = w7.heap.size := ⟨_, rfl⟩
      obtain ⟨bw, hbw⟩ : ∃ bw, bw = w7.heap.size + 1 := ⟨_, rfl⟩
      rw [← hbw, ← hgs] at HST
      have HGS := Hid.mk_ hgs
      have HBWW := Hid.mk_ hbw
      clear hgs hbw
      go_upto_block 2 with fail
      rw [← HBWW.out, ← HGS.out]
      go_cut [17, 18] from 92 to 111 (fun x17 x18 wx => ∃ (N : List Nd) (z : List Nat) (lv : Value) (es : List Value), Hid (St1 wb wx bw gs a b ls M N z lv es))
      case first =>
        go_wp2_with fail
        go_loopw [17] (fun x17 wr => ∃ (j : Nat) (N : List Nd) (z : List Nat) (lv : Value) (es : List Value), j ≤ ops.length ∧ x17 = .int .i64 (j : Int) ∧ Hid (St1 wb wr bw gs a b ls M N z lv es) ∧ Hid (es.length ≤ j)) (fun x17 _ => ops.length - (intOf x17).toNat)
        case atStart => exact ⟨0, [], _, _, [], Nat.zero_le _, rfl, HST.out, Nat.zero_le _⟩
        case round =>
          obtain ⟨j, N, z, lv, es, hj, rfl, HT, HES⟩ := hrel
          have q0 := HT.out.book.blk.cell 0
          by_cases hlt : j < ops.length
          · have hlt1 : (j : Int) < ops.length := by omega
            have hbwr := HBW.out.trans (HT.out.below.mono HBW.out.size)
            have h3w := H3.out.new hbwr
            obtain ⟨g, o, rfl, hg, hc⟩ := h3w.at_ (by omega)
            obtain ⟨d0, d1, d2, d3, d4⟩ := hc j hlt
            have hok := h3w.each _ (List.getElem_mem hlt)
            obtain ⟨op, hop⟩ : ∃ op, op = ops[j]'hlt := ⟨_, rfl⟩
            rw [← hop] at d0 d1 d2 d3 d4 hok
            have g0 := HT.out.hb.cell 0
            have g1 := HT.out.hb.cell 1
            have hstp := step_any (w := wr.drew) (bw := bw) (o := op) (B := w.heap.size) (by exact hbwr.size) (HT.out.side.move (Nat.le_refl _) (fun _ _ => rfl)) (fun q hq => Nat.le_trans HBW.out.size (HT.out.lo q (.inl hq))) (hok.new (Drawn_below wr 1)) (HT.out.book.move (fun _ _ => rfl)) (fun q hq => ⟨(HT.out.db q hq).2.1, (HT.out.db q hq).2.2⟩) (by have := HES.out; omega)
            obtain ⟨ot, nr, wh, n, A, c, ks⟩ := op
            unfold OpV.agg at hstp
            simp only at d0 d1 d2 d3 d4 hstp
            have HSTP := Hid.mk_ hstp
            clear hstp hop hok hc h3w hbwr
            go_wp2_with fail
            go_region_law ((go_simp; go_at_call 8; (with_reducible refine HSTP.out.mono ?_); rintro e wn ⟨rfl, N', z', lv', es', hleft⟩))
            all_goals (
              go_wp2_with fail
              have hl2 : Left wr wn a b ls M z bw (.slice (some ⟨gs, 0, none⟩) 1 1) lv es N' z' lv' es' := ⟨hleft.side, hleft.book, ⟨hleft.mods.os, hleft.mods.tape, hleft.mods.output, hleft.mods.size, hleft.mods.block⟩, hleft.zs, hleft.ls, hleft.es_, hleft.dis, hleft.len⟩
              first
                | exact ⟨⟨j + 1, N', z', lv', es', by omega, by go_num, HT.out.left hl2, Hid.mk_ (by have := hleft.len; have := HES.out; omega)⟩, by simp [intOf]; omega⟩
                | (refine ⟨?_, by simp [intOf]; omega⟩
                   (repeat apply Exists.intro)
                   exact ⟨⟨j + 1, N', z', lv', es', by omega, by go_num, HT.out.left hl2, Hid.mk_ (by have := hleft.len; have := HES.out; omega)⟩, rfl⟩))
          · have hge : ¬ (j : Int) < ops.length := by omega
            go_wp2_with fail
            go_meet
            exact ⟨N, z, lv, es, HT.out⟩
      case rest =>
        obtain ⟨N, z, lv, es, HT⟩ := hcut
        obtain ⟨wS, rfl⟩ : ∃ wS : World, wS = wc := ⟨_, rfl⟩
        have HLN := Hid.mk_ HT.out.side.lenP0
        have HMO := Hid.mk_ HT.out.side.mostP0
        have hNM := HT.out.side.good.len
        have hN8 := HT.out.side.good.len2
        obtain ⟨n, hn⟩ : ∃ n, n = N.length := ⟨_, rfl⟩
        rw [← hn] at HLN hNM hN8
        have HNE := Hid.mk_ hn
        clear hn
        go_upto_block 4 with (first
          | (go_at_call 12; (with_reducible refine HLN.out.mono ?_); rintro e w' ⟨rfl, rfl⟩)
          | (go_at_call 13; (with_reducible refine HMO.out.mono ?_); rintro e w' ⟨rfl, rfl⟩))
        go_cut [20, 21, 22, 23, 24, 25, 26, 27] from 118 to 219 (fun x20 x21 x22 x23 x24 x25 x26 x27 wx => ∃ (L : List (Nd × Value)), Hid (nds L = N) ∧ Hid (NList wx x20 L) ∧ Hid (∀ k, x20.ownBlock = some k ∨ (∃ p ∈ L, p.2.ownBlock = some k) → wS.heap.size ≤ k) ∧ Hid (Below wS.heap.size wS wx))
        case first =>
          go_wp2_with fail
          go_loopw [20, 21] (fun x20 x21 wr => ∃ (k : Nat) (L : List (Nd × Value)), k ≤ n ∧ x21 = .int .i64 ((k : Int) + 2) ∧ Hid (nds L = N.take k) ∧ Hid (L.length = k) ∧ Hid (NList wr x20 L) ∧ Hid (∀ q, x20.ownBlock = some q ∨ (∃ p ∈ L, p.2.ownBlock = some q) → wS.heap.size ≤ q) ∧ Hid (Below wS.heap.size wS wr)) (fun _ x21 _ => (n + 2) - (intOf x21).toNat)
          case atStart => exact ⟨0, [], Nat.zero_le _, rfl, Hid.mk_ rfl, Hid.mk_ rfl, Hid.mk_ ⟨Row.nil _ _ _, by simp⟩, Hid.mk_ (by simp [Value.ownBlock]), Hid.mk_ (Below.refl _ _)⟩
          case round =>
            obtain ⟨k, L, hk, rfl, HLN2, HLL, HNL, HNB, HBS⟩ := hrel
            obtain ⟨An, cn, hnv⟩ := HNL.out.row.shape
            rw [HLL.out] at hnv
            subst hnv
            by_cases hlt : k < n
            · have hlt1 : (k : Int) + 2 < n + 2 := by omega
              have hkN : k < N.length := by rw [← HNE.out]; exact hlt
              have hnp := (HT.out.side.new HBS.out).nodeP ((k : Int) + 2)
              rw [node_at k hkN] at hnp
              obtain ⟨nd, hnd⟩ : ∃ nd, nd = N[k]'hkN := ⟨_, rfl⟩
              rw [← hnd] at hnp
              have HND := Hid.mk_ hnd
              have HNP := Hid.mk_ hnp
              clear hnp hnd
              go_upto_region 28 with (go_at_call 14; (with_reducible refine HNP.out.mono ?_); rintro e w2 ⟨v, rfl, hcm⟩; obtain ⟨Ak, ck, hv⟩ := hcm.row.shape; subst hv; have HCM := Hid.mk_ hcm; clear hcm)
              obtain ⟨w3, hw3⟩ : ∃ w3, w3 = w2.alloc (.cells #[.int .i64 nd.lv, .slice Ak nd.ks.length ck] 47) := ⟨_, rfl⟩
              have hk8 : Blk w3 w2.heap.size [.int .i64 nd.lv, .slice Ak nd.ks.length ck] 47 := by rw [hw3]; exact Blk.new w2 _ 47
              have hb3 : Below w2.heap.size w2 w3 := by rw [hw3]; exact (Below.refl _ _).alloc (Nat.le_refl _) _
              obtain ⟨b22, hb22⟩ : ∃ x, x = w2.heap.size := ⟨_, rfl⟩
              rw [← hw3, ← hb22]
              rw [← hb22] at hk8
              have hma := (HT.out.side.good.each k hkN).1
              rw [← HND.out] at hma
              obtain ⟨s1, s2, s3⟩ := may_shape hma
              obtain ⟨lvn, hlvn⟩ : ∃ m : Nat, (m : Int) = nd.lv := ⟨nd.lv.toNat, by omega⟩
              rw [← hlvn] at s2 s3 hk8
              have hlm : lvn < ls.length := by omega
              have hgl : ls[lvn]'hlm = (nd.ks.length : Int) := by rw [s3, Int.toNat_natCast]; exact (getD_mem hlm).symm
              have hbw3 : Below wb.heap.size wb w3 := HT.out.below.trans ((HBS.out.trans ((HCM.out.below.trans (hb3.mono HCM.out.below.size)).mono HBS.out.size)).mono HT.out.below.size)
              obtain ⟨g10, o10, e10, _, hc10⟩ := (HIL.out w3 hbw3).2 (by omega)
              have d10 := hc10 lvn hlm
              rw [hgl] at d10
              have j0 := hk8.cell 0
              have j1 := hk8.cell 1
              obtain ⟨kl, hkl⟩ : ∃ x, x = nd.ks.length := ⟨_, rfl⟩
              rw [← hkl] at j1 d10
              have HW3 := Hid.mk_ hw3
              have HB22 := Hid.mk_ hb22
              have HK8 := Hid.mk_ hk8
              have HBW3 := Hid.mk_ hbw3
              have HLV := Hid.mk_ hlvn
              have HKL := Hid.mk_ hkl
              have HMA := Hid.mk_ hma
              subst e10
              have t0 : ((kl : Int) != (kl : Int)) = false := by simp
              have hkl8 : nd.ks.length ≤ 1000000 := by
                have := HT.out.side.good.kids k hkN
                rw [← HND.out] at this
                omega
              obtain ⟨Ak', ck', ekv, hik⟩ := HCM.out.row.intsIn hkl8
              cases ekv
              have HIK := Hid.mk_ (hik.new hb3)
              have hbs3 : Below wS.heap.size wS w3 := HBS.out.trans ((HCM.out.below.trans (hb3.mono HCM.out.below.size)).mono HBS.out.size)
              have HLE := Hid.mk_ (fun q f => (HT.out.side.new hbs3).says.levP f q)
              have HBS3 := Hid.mk_ hbs3
              have HLW := Hid.mk_ (fun (f : Int) (hf : f ∈ nd.ks) => show 0 ≤ f ∧ f < (k : Int) + 2 ∧ nd.lv < lvl ls.length N f by
                rw [HND.out] at hf ⊢
                exact HT.out.side.good.low k hkN hf)
              have HCR := Hid.mk_ (HCM.out.row.move (w' := w3) fun q hq => hb3.block q (HCM.out.row.lt q hq))
              have HCN := Hid.mk_ (And.intro HCM.out.new HBS.out.size)
              have hkl9 : kl ≤ 1000000 := by rw [hkl]; exact hkl8
              have HNW := Hid.mk_ (HNL.out.new (HCM.out.below.trans (hb3.mono HCM.out.below.size)))
              clear hw3 hb22 hk8 hb3 hma s1 s3 hlvn hgl hbw3 hc10 hkl hbs3 hik hkl8
              go_big_quiet (fail)
              go_upto_region 31 with fail
              go_wp2_with fail
              go_loopw [24, 25] (fun x24 x25 wr => ∃ (c q : Nat), c ≤ kl ∧ x24 = .bool (oneK nd.ks c) ∧ x25 = .int .i64 (c : Int) ∧ wr = w3.drewN q) (fun _ x25 _ => kl - (intOf x25).toNat)
              case atStart => exact ⟨0, _, Nat.zero_le _, by rw [oneK_zero], rfl, rfl⟩
              case round =>
                obtain ⟨c, q, hc, rfl, rfl, rfl⟩ := hrel
                obtain ⟨o, ho⟩ : ∃ o, o = oneK nd.ks c := ⟨_, rfl⟩
                rw [← ho]
                have HO := Hid.mk_ ho
                clear ho
                by_cases hck : c < kl
                · have hck1 : (c : Int) < kl := by omega
                  have hck0 : (0 : Int) < kl := by omega
                  have hcn : c < nd.ks.length := by rw [← HKL.out]; exact hck
                  obtain ⟨gk, ok, rfl, _, hck2⟩ := HIK.out.2 (by omega)
                  have k1 := hck2 c hcn
                  have k2 := hck2 0 (by omega)
                  obtain ⟨v, hv⟩ : ∃ v, v = nd.ks[c]'hcn := ⟨_, rfl⟩
                  obtain ⟨y, hy⟩ : ∃ y, y = nd.ks.headD 0 := ⟨_, rfl⟩
                  have hy0 : nd.ks[0]'(by omega) = y := by rw [hy]; exact head_at nd.ks (by omega)
                  rw [← hv] at k1
                  rw [hy0] at k2
                  have k2' : w3.cell? ⟨gk, ok, none⟩ = some (.int .i64 y) := by simpa using k2
                  obtain ⟨v0, v1, v2⟩ := HLW.out v (by rw [hv]; exact List.getElem_mem hcn)
                  have HV := Hid.mk_ hv
                  have HY := Hid.mk_ hy
                  have HLE2 := Hid.mk_ (fun b q => (HT.out.side.new (HBS3.out.trans (Drawn_below w3 b))).says.levP v q)
                  obtain ⟨z, hz⟩ : ∃ z, z = lvl ls.length N v := ⟨_, rfl⟩
                  rw [← hz] at HLE2 v2
                  rw [← HLV.out] at v2
                  have hsu := oneK_succ nd.ks c hcn
                  rw [← HO.out, ← HV.out, ← HY.out] at hsu
                  obtain ⟨r, hr⟩ : ∃ r, r = decide (v = y) := ⟨_, rfl⟩
                  rw [← hr] at hsu
                  have HS := Hid.mk_ hsu
                  have s1 : (v == y) = r := hr.symm
                  have s2 : decide (v = y) = r := hr.symm
                  have t1 : decide (v < 0) = false := by simpa using v0
                  have t2 : decide ((k : Int) + 2 ≤ v) = false := by simpa using v1
                  have t3 : decide (z ≤ (lvn : Int)) = false := by simpa using v2
                  clear hv hy hy0 hck2 hsu hr hz
                  go_upto_region 34 with fail
                  go_cut [24] from 150 to 162 (fun x24 wx => ∃ q' : Nat, x24 = .bool (oneK nd.ks (c + 1)) ∧ Hid (wx = w3.drewN q'))
                  case first =>
                    cases o
                    all_goals (
                      go_big_quiet (fail)
                      go_wp2_with fail
                      go_meet
                      exact ⟨q + nq, by rw [HS.out]; rfl, Hid.mk_ (by rw [World.drewN_drewN])⟩)
                  case rest =>
                    obtain ⟨q', rfl, HWW⟩ := hcut
                    obtain ⟨W, rfl⟩ : ∃ W : World, W = wc := ⟨_, rfl⟩
                    have z0 : W.cell? ⟨b22, 0, none⟩ = some (.int .i64 lvn) := by rw [HWW.out]; exact j0
                    have z1 : W.cell? ⟨b22, 1, none⟩ = some (.slice (some ⟨gk, ok, none⟩) kl ck) := by rw [HWW.out]; exact j1
                    have z2 : W.cell? ⟨gk, ok + c, none⟩ = some (.int .i64 v) := by rw [HWW.out]; exact k1
                    have HU1 := Hid.mk_ (HLE2.out q')
                    rw [← HWW.out] at HU1
                    go_wp2_with fail
                    go_big_quiet ((go_at_call 15; with_reducible exact HU1.out _))
                    go_wp2_with fail
                    refine ⟨⟨c + 1, _, by omega, rfl, by go_num, by rw [HWW.out, World.drewN_drewN]⟩, by simp [intOf]; omega⟩
                · have hck1 : ¬ ((c : Int) < kl) := by omega
                  have hck2 : c = nd.ks.length := by have := HKL.out; omega
                  have hof : o = false := by
                    rw [HO.out, hck2, oneK_len, HND.out]
                    exact (HT.out.side.good.each k hkN).2
                  subst hof
                  have HCK := Hid.mk_ hck2
                  clear hck2
                  go_wp2_with fail
                  go_loopw [26] (fun x26 wr => ∃ (i q : Nat), i ≤ k ∧ x26 = .int .i64 (i : Int) ∧ Hid (wr = w3.drewN q)) (fun x26 _ => k - (intOf x26).toNat)
                  case atStart => exact ⟨0, _, Nat.zero_le _, rfl, Hid.mk_ rfl⟩
                  case round =>
                    obtain ⟨i, q2, hi, rfl, HWR⟩ := hrel
                    have hnw := HNW.out.move (w' := wr) (fun _ _ => by rw [HWR.out]; rfl)
                    have HNWR := Hid.mk_ hnw
                    have z0 : wr.cell? ⟨b22, 0, none⟩ = some (.int .i64 lvn) := by rw [HWR.out]; exact j0
                    have z1 : wr.cell? ⟨b22, 1, none⟩ = some (.slice Ak kl ck) := by rw [HWR.out]; exact j1
                    have hikr : IntsIn wr Ak nd.ks := by rw [HWR.out]; exact HIK.out.move (Nat.le_refl _) (fun _ _ _ _ => rfl)
                    by_cases hik2 : i < k
                    · have hik1 : (i : Int) < k := by omega
                      have hiL : i < L.length := by have := HLL.out; omega
                      obtain ⟨gn, cn', en, hgn, v0, v1⟩ := row_lv hnw.row i hiL
                      have en2 : An = some ⟨gn, 0, none⟩ := by cases en; rfl
                      subst en2
                      have hkr := hnw.each _ (List.getElem_mem hiL)
                      have hLi : (L[i]'hiL).1 = N[i]'(by omega) := by
                        have h1 := nds_get L i hiL
                        have h2 := List.getElem_of_eq HLN2.out (i := i) (by rw [nds_length]; exact hiL)
                        rw [← h1, h2, List.getElem_take]
                      have hks := HT.out.side.good.kids i (by omega)
                      rw [← hLi] at hks
                      obtain ⟨Ai, ci, ekv, hii⟩ := hkr.intsIn (by omega)
                      rw [ekv] at v1
                      have hsm := fun q => (same_any Ai Ak ci ck (L[i]'hiL).1.ks nd.ks (wr.drewN q) (hii.move (Nat.le_refl _) (fun _ _ _ _ => rfl)) (hikr.move (Nat.le_refl _) (fun _ _ _ _ => rfl))).mono (R' := fun e w' => e = .returned (.bool (decide ((L[i]'hiL).1.ks = nd.ks))) ∧ ∃ m, w' = wr.drewN m) fun e w' ⟨he, n, hn⟩ => ⟨he, q + n, by rw [hn, World.drewN_drewN]⟩
                      rw [← HKL.out] at hsm
                      have hne : (L[i]'hiL).1.ks = nd.ks → (L[i]'hiL).1.lv ≠ (lvn : Int) := fun e1 e2 => by
                        rw [HLV.out] at e2
                        have e3 : (L[i]'hiL).1 = nd := by
                          cases h : (L[i]'hiL).1
                          rw [h] at e1 e2
                          cases nd
                          simp only at e1 e2
                          rw [e1, e2]
                        rw [hLi, HND.out] at e3
                        have := (List.getElem_inj HT.out.side.good.nodup).1 e3
                        omega
                      obtain ⟨nl, hnl⟩ : ∃ x, x = (L[i]'hiL).1.lv := ⟨_, rfl⟩
                      obtain ⟨ni, hni⟩ : ∃ x, x = (L[i]'hiL).1.ks.length := ⟨_, rfl⟩
                      obtain ⟨r, hr⟩ : ∃ r, r = decide ((L[i]'hiL).1.ks = nd.ks) := ⟨_, rfl⟩
                      rw [← hnl] at v0 hne
                      rw [← hni] at v1 hsm
                      rw [← hr] at hsm
                      have HSM := Hid.mk_ hsm
                      have s1 : r = true → decide (nl = (lvn : Int)) = false := fun e => decide_eq_false (hne (by rw [hr] at e; exact of_decide_eq_true e))
                      clear hnw hsm hne hnl hni hr ekv hii hks hLi hkr en hikr
                      go_upto_region 40 with fail
                      go_big_quiet ((go_at_call 16; with_reducible exact HSM.out _))
                      cases r with
                      | false =>
                        clear s1
                        go_wp2_with fail
                        go_big_quiet (fail)
                        go_wp2_with fail
                        refine ⟨⟨i + 1, _, by omega, by go_num, Hid.mk_ (by rw [HWR.out]; simp only [World.drewN_drewN]; rfl)⟩, by simp [intOf]; omega⟩
                      | true =>
                        have s2 := s1 rfl
                        have s3 : (nl == (lvn : Int)) = false := s2
                        clear s1
                        go_wp2_with fail
                        go_big_quiet (fail)
                        go_wp2_with fail
                        refine ⟨⟨i + 1, _, by omega, by go_num, Hid.mk_ (by rw [HWR.out]; simp only [World.drewN_drewN]; rfl)⟩, by simp [intOf]; omega⟩
                    · obtain rfl : i = k := by omega
                      obtain ⟨i47, hi47, hz0, hz1, hz2⟩ := info_parts Try.info47
                      have hrow := hnw.row
                      rw [HLL.out] at hrow
                      have HROW := Hid.mk_ hrow
                      clear hrow hnw hikr
                      go_wp2_with (at_builtin; refine wpList_append_row _ rfl (.tmp 216) (.tmp 218) 45 rfl 47 i47 _ 2 32 Try.underlying45 hi47 hz0 hz1 hz2 rfl (by omega) (.slice An i cn) i (ndCells L) rfl (HROW.out.alloc _) ⟨wr.heap.size, 0, none⟩ 1 1 [.int .i64 lvn, .slice Ak kl ck] rfl rfl (two_cells wr _ _ _ rfl) (by simp [Value.oneCell']) (by omega) (by unfold maxLen; omega) (by omega) (wr.heap.size + 1) (by simp) ?_; intro g7 c7 w7 hrow7 hgrow7 hloc7 hlt7)
                      have hbs := HBS3.out.size
                      have hwr := HWR.out
                      have hcr : Row wr 3 1 (.slice Ak kl ck) nd.ks.length (nd.ks.map (Value.int .i64)) := by rw [hwr, HKL.out]; exact HCR.out.move (fun _ _ => rfl)
                      have hws : wS.heap.size ≤ wr.heap.size := by rw [hwr]; exact hbs
                      have hbr : Below wS.heap.size wS wr := by rw [hwr]; exact HBS3.out.trans (Drawn_below _ _)
                      refine ⟨⟨i + 1, L ++ [(nd, .slice Ak kl ck)], by omega, by go_num, Hid.mk_ ?_, Hid.mk_ (by simp [HLL.out]), Hid.mk_ (HNWR.out.snoc hcr (by rw [HLL.out, ← HLV.out]; exact hrow7) hgrow7), Hid.mk_ (fun q hq => ?_), Hid.mk_ ((hbr.alloc hws _).grown hgrow7 (by simp; omega) (fun q hq => HNB.out q (.inl hq)))⟩, by simp [intOf]; omega⟩
                      · rw [List.take_succ_eq_append_getElem hkN, ← HLN2.out, ← HND.out]
                        simp [nds]
                      · rcases hq with hq | ⟨p, hp, hq⟩
                        · have e3 : g7 = q := Option.some.inj hq
                          rcases hloc7 with e | e
                          · exact HNB.out q (.inl (e3 ▸ e))
                          · omega
                        · rcases List.mem_append.1 hp with e | e
                          · exact HNB.out q (.inr ⟨p, e, hq⟩)
                          · simp at e
                            subst e
                            exact Nat.le_trans HCN.out.2 (HCN.out.1 q (by rw [← HKL.out]; exact hq))
            · have hge : ¬ ((k : Int) + 2 < n + 2) := by omega
              go_wp2_with fail
              go_meet
              have ek : k = n := by omega
              subst ek
              exact ⟨L, Hid.mk_ (by rw [HLN2.out, HNE.out, List.take_length]), HNL, HNB, HBS⟩
        case rest =>
          obtain ⟨L, HLN2, HNL, HNB, HBS⟩ := hcut
          obtain ⟨wN, rfl⟩ : ∃ wN : World, wN = wc := ⟨_, rfl⟩
          have hag : Again wb wS wN wN a ls M L u20 := by
            obtain ⟨za, zx, p1, p2, _, hzz⟩ := HT.out.side.ex
            refine ⟨⟨za, ?_, fun k hk => ⟨HT.out.lo k (.inl ((hzz k).2 (.inl hk))), .inl (p1.zlt k hk)⟩⟩, HNL.out, fun k hk => ⟨HNB.out k hk, ?_⟩, Nat.le_refl _, HT.out.below.trans (HBS.out.mono HT.out.below.size)⟩
            · rw [HLN2.out]; exact p1.move HBS.out.size (fun k hk => HBS.out.block k (p1.zlt k hk))
            · rcases hk with hk | ⟨q, hq, hk⟩
              · exact HNL.out.row.lt k hk
              · exact (HNL.out.each q hq).lt k hk
          have HAG := Hid.mk_ hag
          have hLn : L.length = n := by have h1 := HNE.out; have h2 := HLN2.out; rw [h1, ← h2, nds_length]
          obtain ⟨An, cn, hnv⟩ := HNL.out.row.shape
          rw [hLn] at hnv
          have HNV := Hid.mk_ hnv
          have HLL := Hid.mk_ hLn
          subst hnv
          clear hag hLn
          go_wp2_with fail
          go_loopw [28] (fun x28 wr => ∃ i : Nat, i ≤ rows.length ∧ x28 = .int .i64 (i : Int) ∧ Hid (Again wb wS wN wr a ls M L (.slice An n cn))) (fun x28 _ => rows.length - (intOf x28).toNat)
          case atStart => exact ⟨0, Nat.zero_le _, rfl, HAG.out⟩
          case round =>
            obtain ⟨i, hi, rfl, HA⟩ := hrel
            by_cases hlt : i < rows.length
            · have hlt1 : (i : Int) < rows.length := by omega
              obtain ⟨wo, rfl⟩ : ∃ wo : World, wo = wr := ⟨_, rfl⟩
              go_wp2_with fail
              go_loopw [29] (fun x29 wr => ∃ k : Nat, k ≤ n ∧ x29 = .int .i64 ((k : Int) + 2) ∧ Hid (Again wb wS wN wr a ls M L (.slice An n cn))) (fun x29 _ => (n + 2) - (intOf x29).toNat)
              case atStart => exact ⟨0, Nat.zero_le _, rfl, HA.out⟩
              case round =>
                obtain ⟨k, hk, rfl, HK⟩ := hrel
                by_cases hkn : k < n
                · have hkn1 : (k : Int) + 2 < n + 2 := by omega
                  have hkL : k < L.length := by rw [HLL.out]; exact hkn
                  have hbw := HBW.out.trans (HK.out.below.mono HBW.out.size)
                  have hrw := H4.out.new hbw
                  obtain ⟨gp, op, rfl, hgp, hcp⟩ := hrw.at_ (by omega)
                  have d0 := hcp i hlt
                  obtain ⟨e1, e2, e3⟩ := hrw.each _ (List.getElem_mem hlt)
                  have hG : ∀ W, Again wb wS wN W a ls M L (.slice An n cn) → Good ls M (nds L) := fun W h => by obtain ⟨z, h1, _⟩ := h.ex; exact h1.good
                  obtain ⟨rw_, hrwe⟩ : ∃ r, r = rows[i]'hlt := ⟨_, rfl⟩
                  rw [← hrwe] at d0 e1 e2 e3
                  obtain ⟨Ap, cp, pt⟩ := rw_
                  simp only at d0 e1 e2 e3
                  have HSY := Hid.mk_ (fun (W : World) (h : Again wb wS wN W a ls M L (.slice An n cn)) (hW : Below wo.heap.size wo W ∨ True) (hp : IntsIn W Ap pt) => says_any (cS := cv) (cP := cp) h.list (hG W h) (HIL.out W (h.below)) hp e2 ((k : Int) + 2) (by omega) (by rw [HLL.out]; omega))
                  have HPT := Hid.mk_ (fun (W : World) (h : Again wb wS wN W a ls M L (.slice An n cn)) => show IntsIn W Ap pt from by
                    have h2 := H4.out.new (HBW.out.trans (h.below.mono HBW.out.size))
                    have h3 := (h2.each _ (List.getElem_mem hlt)).1
                    rw [← hrwe] at h3
                    exact h3)
                  have HCP := Hid.mk_ (fun (W : World) (h : Again wb wS wN W a ls M L (.slice An n cn)) => show W.cell? ⟨gp, op + i, none⟩ = some (.slice Ap pt.length cp) from by
                    have h2 := H4.out.new (HBW.out.trans (h.below.mono HBW.out.size))
                    obtain ⟨g', o', e', _, hc'⟩ := h2.at_ (by omega)
                    cases e'
                    have := hc' i hlt
                    rw [← hrwe] at this
                    exact this)
                  obtain ⟨r, hr⟩ : ∃ r, r = saysV (nds L) ls pt ((k : Int) + 2) := ⟨_, rfl⟩
                  rw [← hr] at HSY
                  have HS1 := Hid.mk_ (HSY.out wr HK.out (.inr trivial) (HPT.out wr HK.out))
                  clear hbw hrw hcp e1 e3 hr hrwe
                  go_upto_region 53 with (go_at_call 17; (with_reducible refine HS1.out.mono ?_); rintro e w2 ⟨rfl, hb2⟩; have HB2 := Hid.mk_ hb2; clear hb2)
                  have hk2 := HK.out.new HB2.out
                  have HK2 := Hid.mk_ hk2
                  obtain ⟨gn, cn', en, hgn, v0, v1⟩ := row_lv hk2.list.row k hkL
                  have en2 : An = some ⟨gn, 0, none⟩ := by cases en; rfl
                  have hkr := hk2.list.each _ (List.getElem_mem hkL)
                  have hks := (hG w2 hk2).kids k (by rw [nds_length]; exact hkL)
                  rw [nds_get L k hkL] at hks
                  obtain ⟨Ak, ck, ekv, hik⟩ := hkr.intsIn (by omega)
                  rw [ekv] at v1
                  have hAkl : ∀ g o, Ak = some ⟨g, o, none⟩ → g < w2.heap.size := fun g o e => by
                    obtain ⟨g', c', e', hg', _⟩ := hkr.some_ (by omega)
                    rw [ekv] at e'
                    cases e'
                    cases e
                    exact hg'
                  have HIK := Hid.mk_ hik
                  have HAKL := Hid.mk_ hAkl
                  obtain ⟨w3, hw3⟩ : ∃ w3, w3 = w2.alloc (.cells #[.int .i64 (L[k]'hkL).1.lv, .slice Ak (L[k]'hkL).1.ks.length ck] 47) := ⟨_, rfl⟩
                  have hb3 : Below w2.heap.size w2 w3 := by rw [hw3]; exact (Below.refl _ _).alloc (Nat.le_refl _) _
                  have HMK := Hid.mk_ ((hk2.new hb3).make k hkL (c := ck) (hik.new hb3) (fun g o e => Nat.lt_of_lt_of_le (hAkl g o e) hb3.size))
                  have hk8 : Blk w3 w2.heap.size [.int .i64 (L[k]'hkL).1.lv, .slice Ak (L[k]'hkL).1.ks.length ck] 47 := by rw [hw3]; exact Blk.new w2 _ 47
                  obtain ⟨b31, hb31⟩ : ∃ x, x = w2.heap.size := ⟨_, rfl⟩
                  rw [← hb31] at hk8
                  obtain ⟨nl, hnl⟩ : ∃ x, x = (L[k]'hkL).1.lv := ⟨_, rfl⟩
                  obtain ⟨kl, hkl⟩ : ∃ x, x = (L[k]'hkL).1.ks.length := ⟨_, rfl⟩
                  rw [← hnl, ← hkl] at HMK hk8 hw3
                  rw [← hnl] at v0
                  rw [← hkl] at v1
                  have HW3 := Hid.mk_ hw3
                  have HB31 := Hid.mk_ hb31
                  have j0 := hk8.cell 0
                  have j1 := hk8.cell 1
                  have hnn := HNE.out
                  have hN8' : n ≤ 8192 := hN8
                  have e1 : (k : Int) + 2 - 2 = k := by omega
                  have hk1n : (k : Int) < n := by omega
                  have HEN := Hid.mk_ en2
                  subst en2
                  clear hk2 en hkr hks ekv hik hAkl hw3 hb3 hk8 hb31 hnl hkl hnn d0
                  go_upto_region 54 with fail
                  rw [← HB31.out, ← HW3.out]
                  go_upto_region 55 with (go_at_call 18; (with_reducible refine HMK.out.mono ?_); rintro e w4 ⟨rfl, h4⟩; have H44 := Hid.mk_ h4; clear h4)
                  have HS2 := Hid.mk_ (HSY.out w4 H44.out (.inr trivial) (HPT.out w4 H44.out))
                  have d4 := HCP.out w4 H44.out
                  have t5 : (r != r) = false := by cases r <;> rfl
                  go_wp2_with (go_at_call 17; (with_reducible refine HS2.out.mono ?_); rintro e w5 ⟨rfl, hb5⟩)
                  refine ⟨⟨k + 1, by omega, by congr 1, H44.out.new hb5⟩, by simp [intOf]; omega⟩
                · have hkn1 : ¬ ((k : Int) + 2 < n + 2) := by omega
                  go_wp2_with fail
                  exact ⟨⟨i + 1, by omega, by go_num, HK.out⟩, by simp [intOf]; omega⟩
            · have hlt1 : ¬ ((i : Int) < rows.length) := by omega
              have hll : (L.length : Int) = n := by rw [HLL.out]
              go_wp2_with (go_at_call 12; (with_reducible refine HA.out.len.mono ?_); rintro e w5 ⟨rfl, rfl⟩)
              go_ret
              exact ⟨rfl, HBW.out.trans (HA.out.below.mono HBW.out.size)⟩
end
end Go.Proofs.Ytccgamaijjeafaa
