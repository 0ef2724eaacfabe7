/- TriePlays: the walk. -/
import Derived.Test.YtphmmpdeehfhjaaU3
namespace Go.Proofs.Ytphmmpdeehfhjaa
open Go.RowKit
set_option linter.unusedVariables false
set_option linter.unusedSimpArgs false
theorem Try.info37 : (Try.prog.info? 37).map (fun i => (i.zero, i.size, i.bytes)) = some (some (.pointer none), 1, 8) := by kernel_rfl
def lastOp : OpV := ⟨4, 0, 0, 0, 0, none, 0, [], none, 0, []⟩
theorem lastOp_in (base : Nat) (w : World) : OpIn base w lastOp :=
  ⟨by unfold i64 lastOp; simp, fun W _ _ => ⟨by simp [lastOp], fun h => by simp [lastOp] at h⟩, fun g q e => by simp [lastOp] at e, fun W _ => ⟨by simp [lastOp], fun h => by simp [lastOp] at h⟩, by simp [lastOp]⟩
set_option maxHeartbeats 8000000 in
set_option maxRecDepth 100000 in
theorem trieplays_any (A : Option Addr) (c : Nat) (ops : List OpV) (w : World) (h : OpsIn w A ops) :
    Calls Try.prog 3 #[.slice A ops.length c] w fun e w' => e = .returned (.bool true) ∧ Below w.heap.size w w' := by
  have H := Hid.mk_ h
  have hwe := Hid.mk_ (weighs_any A c ops w h)
  obtain ⟨i0, hi0, hz0, hz1, hz2⟩ := info_parts Try.info37
  clear h
  go_enter Try.func3, Try.ntmps3
  go_upto_if 18 with (first | (go_at_call 7; (with_reducible refine hwe.out.mono ?_); rintro e w1 ⟨n, rfl, hlight, m, hw1⟩; have HLI := Hid.mk_ hlight; have HB1 := Hid.mk_ (show Below w.heap.size w w1 by rw [hw1]; exact Drawn_below _ _); clear hlight hw1))
  by_cases hn : n ≤ 2147483647
  · have hn2 : ¬ (2147483647 < n) := by omega
    have hlight := HLI.out hn
    have HL := Hid.mk_ hlight
    have hol : ops.length ≤ 30678 := by have := hlight.1; omega
    clear hlight
    go_wp2_with (first | (go_at_call 8; (with_reducible refine (awake_any _).mono ?_); rintro e w2 ⟨rfl, hb2⟩; have HB2 := Hid.mk_ (HB1.out.trans (hb2.mono HB1.out.size)); clear hb2))
    obtain ⟨bb, hbb⟩ : ∃ b, b = w2.heap.size := ⟨_, rfl⟩
    obtain ⟨W, hW⟩ : ∃ W, W = w2.alloc (.cells #[.slice none 0 0, .slice none 0 0, .slice none 0 0, .int .i64 0] 28) := ⟨_, rfl⟩
    have hst : Lot w.heap.size w W bb (.slice none 0 0) [] := Lot.start (by rw [hW, hbb]; exact Blk.new w2 _ 28) (by rw [hW]; exact HB2.out.alloc HB2.out.size _) (by rw [hbb]; exact HB2.out.size)
    have HST := Hid.mk_ hst
    rw [← hbb, ← hW]
    clear hbb hW hst
    go_loopw [5, 6] (fun x5 x6 wr => ∃ (k : Nat) (ds : List SD), k ≤ 2 ∧ ds.length = k ∧ x6 = .int .i64 (k : Int) ∧ Hid (Lot w.heap.size w wr bb x5 ds)) (fun _ x _ => 2 - (intOf x).toNat)
    case atStart => exact ⟨0, [], by omega, rfl, rfl, HST⟩
    case round =>
      obtain ⟨k, ds, hk, hdl, rfl, HLt⟩ := hrel
      obtain ⟨Ax, cx, rfl⟩ := own_shape HLt.out.own
      have hown1 : wr.ownsRow (bb + 1) 37 1 (.slice Ax k cx) k (ds.map SD.ptr) := by rw [← hdl]; exact HLt.out.own
      have HOWNF := Hid.mk_ (fun (W4 : World) (hb : Below wr.heap.size wr W4) (O1 O2 : Obj) => show ((W4.alloc O1).alloc O2).ownsRow (bb + 1) 37 1 (.slice Ax k cx) k (ds.map SD.ptr) by
        exact own_move hown1 (fun q hq => by
          have hq2 := (hown1.lt q hq).2
          have hs := hb.size
          rw [Below.heap_alloc _ _ _ (by simp; omega), Below.heap_alloc _ _ _ (by omega)]
          exact hb.block q hq2))
      have HLk := Hid.mk_ (show Lot w.heap.size w wr bb (.slice Ax k cx) ds by rw [← hdl]; exact HLt.out)
      have HDL := Hid.mk_ hdl
      rw [hdl]
      clear hdl hown1 HLt
      by_cases hk2 : k < 2
      · have hk3 : (k : Int) < 2 := by omega
        have n0 : (0 : Int) ≤ k := by omega
        have n1 : (k : Int) ≤ 65535 := by omega
        have hbbl : bb < wr.heap.size := HLk.out.blk.lt
        go_wp2_with (first
          | (go_at_call 9; (with_reducible refine (new_yes n0 n1 wr).mono ?_); rintro e w3 ⟨a, fp, rfl, ht3, hf3, hb3⟩; have HT3 := Hid.mk_ ht3; have HF3 := Hid.mk_ hf3; have HB3 := Hid.mk_ hb3; clear ht3 hf3 hb3)
          | (go_at_call 10; (with_reducible refine (rnew_yes n0 n1 w3).mono ?_); rintro e w4 ⟨b, fr, rfl, hr4, hf4, hb4⟩; have HT4 := Hid.mk_ (HT3.out.new hb4); have HB4 := Hid.mk_ (HB3.out.trans (hb4.mono HB3.out.size)); have HR4 := Hid.mk_ hr4; have HF4 := Hid.mk_ hf4; have hsz3 := HB3.out.size; have hsz4 : w3.heap.size ≤ w4.heap.size := hb4.size; clear hr4 hf4 hb4)
          | (at_builtin; refine wpList_append_own_at _ rfl _ _ 29 rfl (bb + 1) 37 i0 _ 1 8 Try.underlying29 hi0 hz0 hz1 hz2 rfl (by omega) (.slice Ax k cx) _ _ rfl (HOWNF.out w4 HB4.out _ _) ⟨_, 0, none⟩ 1 1 [.pointer (some ⟨w4.heap.size, 0, none⟩)] rfl rfl (one_cells_at _ _ _ (by simp)) (by simp [Value.oneCell']) (by unfold maxLen; omega) (by omega) (by simp; omega) ?_; intro x2 w5 hown5 hgrow5 _ hloc5))
        have hblk := (Blk.new w4 [.pointer (some ⟨a, 0, none⟩), .pointer (some ⟨b, 0, none⟩)] 39).alloc (.cells #[.pointer (some ⟨w4.heap.size, 0, none⟩)] 37)
        have hB5 : Below w4.heap.size w4 ((w4.alloc (.cells #[.pointer (some ⟨a, 0, none⟩), .pointer (some ⟨b, 0, none⟩)] 39)).alloc (.cells #[.pointer (some ⟨w4.heap.size, 0, none⟩)] 37)) := ((Below.refl _ _).alloc (Nat.le_refl _) _).alloc (by simp) _
        have hB6 := HB4.out.trans (hB5.mono (by omega))
        have hsd : Side ((w4.alloc (.cells #[.pointer (some ⟨a, 0, none⟩), .pointer (some ⟨b, 0, none⟩)] 39)).alloc (.cells #[.pointer (some ⟨w4.heap.size, 0, none⟩)] 37)) w4.heap.size (.leaf (k : Int)) a fp b fr [⟨0, (k : Int)⟩] :=
          ⟨hblk, HT4.out.new hB5, HR4.out.new hB5, norm_leaf _, trivial, by simp [Tr.ht], by simp [Tr.labels]; omega, fun e => absurd (HT4.out.lt _ e) (Nat.lt_irrefl _), fun e => absurd (HR4.out.lt _ e) (Nat.lt_irrefl _), fun q hq hq2 => by have := HF4.out q hq; have := HT3.out.lt q hq2; omega⟩
        have hzone : ∀ q ∈ sz w4.heap.size fp fr, wr.heap.size ≤ q := fun q hq => by
          rcases List.mem_cons.1 hq with rfl | hq
          · omega
          · rcases List.mem_append.1 hq with hq | hq
            · exact HF3.out q hq
            · have := HF4.out q hq; omega
        have hadd := (HLk.out.new hB6).add (d := ⟨w4.heap.size, a, b, .leaf (k : Int), fp, fr, [⟨0, (k : Int)⟩]⟩) hsd (fun q hq => ⟨by have := hzone q hq; omega, fun e => by have := hzone q hq; have := (HLk.out.own.lt q e).2; omega, fun e he hq2 => by have := hzone q hq; have := (HLk.out.side e he).lt q hq2; omega⟩) (by rw [HDL.out]; exact hown5) hgrow5 hloc5
        exact ⟨⟨k + 1, _, by omega, by rw [List.length_append, HDL.out]; rfl, by go_num, hadd⟩, by simp [intOf]; omega⟩
      · have hge : ¬ ((k : Int) < 2) := by omega
        obtain rfl : k = 2 := by omega
        obtain ⟨d0, d1, rfl⟩ : ∃ d0 d1, ds = [d0, d1] := by
          match ds, HDL.out with
          | [d0, d1], _ => exact ⟨d0, d1, rfl⟩
        obtain ⟨gl, cgl, O, hx, hO, hste⟩ := HLk.out.done (by have := HLk.out.blk.lt; have := HLk.out.bl; omega)
        cases hx
        obtain ⟨s0, hs0⟩ : ∃ s, s = d0.s := ⟨_, rfl⟩
        obtain ⟨s1, hs1⟩ : ∃ s, s = d1.s := ⟨_, rfl⟩
        unfold SD.ptr at hO
        rw [← hs0, ← hs1] at hO hste
        have HO := Hid.mk_ hO
        have HE := Hid.mk_ hste
        clear hO hste hs0 hs1 HLk HOWNF
        go_wp2_with fail
        go_loopw [11] (fun x11 wr => ∃ i : Nat, i ≤ ops.length ∧ x11 = .int .i64 (i : Int) ∧ Hid (STE w.heap.size w wr bb gl O s0 s1 (2 * i))) (fun x _ => ops.length - (intOf x).toNat)
        case atStart => exact ⟨0, Nat.zero_le _, rfl, HE⟩
        case round =>
          clear HE
          obtain ⟨i, hi, rfl, HS⟩ := hrel
          have hc01 : wr.cell? ⟨gl, 0, none⟩ = some (.pointer (some ⟨s0, 0, none⟩)) ∧ wr.cell? ⟨gl, 1, none⟩ = some (.pointer (some ⟨s1, 0, none⟩)) := by
            obtain ⟨_, _, _, _, _, _, _, _, _, _, _, _, _, _, _, _, _, _, _, _, _, h⟩ := HS.out
            exact HO.out wr h.gle
          by_cases hlt : i < ops.length
          · have hlt1 : (i : Int) < ops.length := by omega
            obtain ⟨gS, q, rfl, hcS⟩ := H.out.2.1 (by omega)
            have hop := H.out.2.2 _ (List.getElem_mem hlt)
            have hli := HL.out.2 _ (List.getElem_mem hlt)
            have hin := hop.in_ hli.1 hli.2
            have hBw : Below w.heap.size w wr := by
              obtain ⟨_, _, _, _, _, _, _, _, _, _, _, _, _, _, _, _, _, _, _, _, _, h⟩ := HS.out
              exact h.B
            have hcell : ∀ r, r < 7 → wr.cell? ⟨gS, q + i * 7 + r, none⟩ = (ops[i]'hlt).cells[r]? := fun r hr => by
              have h1 := hcS i hlt r hr
              have h0 : w.cell? ⟨gS, q + i * 7 + 0, none⟩ = some (.int .i64 (ops[i]'hlt).kind) := hcS i hlt 0 (by omega)
              have hg : gS < w.heap.size := World.block_lt_of_cell? w _ h0
              exact (hBw.cell (p := ⟨gS, q + i * 7 + r, none⟩) hg).trans h1
            obtain ⟨o, ho⟩ : ∃ o, o = ops[i]'hlt := ⟨_, rfl⟩
            rw [← ho] at hop hin hcell
            have k0 : wr.cell? ⟨gS, q + i * 7, none⟩ = some (.int .i64 o.kind) := hcell 0 (by omega)
            have k1 : wr.cell? ⟨gS, q + i * 7 + 1, none⟩ = some (.int .i64 o.on) := hcell 1 (by omega)
            have k2 : wr.cell? ⟨gS, q + i * 7 + 2, none⟩ = some (.int .i64 o.n) := hcell 2 (by omega)
            have k3 : wr.cell? ⟨gS, q + i * 7 + 3, none⟩ = some (.int .i64 o.a) := hcell 3 (by omega)
            have k4 : wr.cell? ⟨gS, q + i * 7 + 4, none⟩ = some (.int .i64 o.b) := hcell 4 (by omega)
            have k5 : wr.cell? ⟨gS, q + i * 7 + 5, none⟩ = some (.slice o.LA o.xs.length o.lc) := hcell 5 (by omega)
            have k6 : wr.cell? ⟨gS, q + i * 7 + 6, none⟩ = some (.slice o.RA o.rows.length o.rc) := hcell 6 (by omega)
            have hon := Hid.mk_ hop.on
            have hS0 : ∀ W, STE w.heap.size w W bb gl O s0 s1 (2 * i) → Calls Try.prog 12 #[.pointer (some ⟨s0, 0, none⟩), o.val, .pointer (some ⟨bb, 0, none⟩)] W fun e w' => e = .returned (.bool true) ∧ STE w.heap.size w w' bb gl O s0 s1 (2 * i + 2) := fun W h => h.step o hin (by omega)
            have hS1 : ∀ W, STE w.heap.size w W bb gl O s0 s1 (2 * i) → Calls Try.prog 12 #[.pointer (some ⟨s1, 0, none⟩), o.val, .pointer (some ⟨bb, 0, none⟩)] W fun e w' => e = .returned (.bool true) ∧ STE w.heap.size w w' bb gl O s0 s1 (2 * i + 2) := fun W h => (h.swap.step o hin (by omega)).mono fun e w' ⟨h1, h2⟩ => ⟨h1, h2.swap⟩
            unfold OpV.val at hS0 hS1
            have HS0 := Hid.mk_ hS0
            have HS1 := Hid.mk_ hS1
            have HFC := Hid.mk_ (fun (W : World) (h : STE w.heap.size w W bb gl O s0 s1 (2 * i + 2)) => show (W.cell? ⟨gl, 0, none⟩ = some (.pointer (some ⟨s0, 0, none⟩)) ∧ W.cell? ⟨gl, 1, none⟩ = some (.pointer (some ⟨s1, 0, none⟩))) ∧ ∀ r x, r < 7 → o.cells[r]? = some x → W.cell? ⟨gS, q + i * 7 + r, none⟩ = some x by
              obtain ⟨_, _, _, _, _, _, _, _, _, _, _, _, _, _, _, _, _, _, _, _, _, h⟩ := h
              refine ⟨HO.out W h.gle, fun r x hr hx => ?_⟩
              have h0 : w.cell? ⟨gS, q + i * 7 + 0, none⟩ = some (.int .i64 (ops[i]'hlt).kind) := hcS i hlt 0 (by omega)
              have hg : gS < w.heap.size := World.block_lt_of_cell? w _ h0
              have h1 := (h.B.cell (p := ⟨gS, q + i * 7 + r, none⟩) hg).trans (hcS i hlt r hr)
              rw [← ho, hx] at h1
              exact h1)
            obtain ⟨c0, c1⟩ := hc01
            obtain ⟨pk, hpk⟩ : ∃ p, p = pickI o.on 4 := ⟨_, rfl⟩
            have hr := pickI_range o.on 4 (by decide)
            rw [← hpk] at hr
            obtain ⟨p0, p1⟩ := hr
            have HPK := Hid.mk_ hpk
            have hi4 : ((i : Int).tmod 4) = ((i % 4 : Nat) : Int) := by rw [Int.tmod_eq_emod_of_nonneg (by omega)]; omega
            clear hpk hcS hop hli hin hBw hcell ho hS0 hS1 hi4
            go_wp2_with fail
            have hw0 : IntKind.i64.wrap (0 : Int) = 0 := by rw [IntKind.wrap_i64]; omega
            have hw1 : IntKind.i64.wrap (1 : Int) = 1 := by rw [IntKind.wrap_i64]; omega
            have hp4 : pk = 0 ∨ pk = 1 ∨ pk = 2 ∨ pk = 3 := by omega
            rcases hp4 with rfl | rfl | rfl | rfl
            · go_region_held3 (fun w' => w'.cell? ⟨gS, q + i * 7, none⟩ = some (.int .i64 o.kind) ∧ w'.cell? ⟨gS, q + i * 7 + 1, none⟩ = some (.int .i64 o.on) ∧ w'.cell? ⟨gS, q + i * 7 + 2, none⟩ = some (.int .i64 o.n) ∧ w'.cell? ⟨gS, q + i * 7 + 3, none⟩ = some (.int .i64 o.a) ∧ w'.cell? ⟨gS, q + i * 7 + 4, none⟩ = some (.int .i64 o.b) ∧ w'.cell? ⟨gS, q + i * 7 + 5, none⟩ = some (.slice o.LA o.xs.length o.lc) ∧ w'.cell? ⟨gS, q + i * 7 + 6, none⟩ = some (.slice o.RA o.rows.length o.rc) ∧ w'.cell? ⟨gl, 0, none⟩ = some (.pointer (some ⟨s0, 0, none⟩))) (first | exact ⟨k0, k1, k2, k3, k4, k5, k6, c0⟩ | assumption)
                (first
                  | (go_at_call 11; (with_reducible refine (pick_at HPK.out (by decide) hon.out _).mono ?_); rintro e w' ⟨rfl, rfl⟩)
                  | (go_at_call 12; (with_reducible refine (HS0.out wr.drew (HS.out.new (Drawn_below wr 1))).mono ?_); rintro e w5 ⟨rfl, h5⟩; have hf5 := HFC.out w5 h5; have hK := And.intro (hf5.2 0 _ (by omega) rfl) (And.intro (hf5.2 1 _ (by omega) rfl) (And.intro (hf5.2 2 _ (by omega) rfl) (And.intro (hf5.2 3 _ (by omega) rfl) (And.intro (hf5.2 4 _ (by omega) rfl) (And.intro (hf5.2 5 _ (by omega) rfl) (And.intro (hf5.2 6 _ (by omega) rfl) hf5.1.1)))))); simp only [Nat.add_zero] at hK))
              have HS5 := Hid.mk_ h5
              clear h5 hf5 hK
              by_cases h3 : i % 4 = 3
              · have e3 : ((i : Int) % 4 == 3) = true := by simp; omega
                have e4 : (i : Int) % 4 = 3 := by omega
                have hi0 : (0 : Int) ≤ i := by omega
                have HST := Hid.mk_ (HS5.out.still (by omega))
                go_wp2_with (first | (go_at_call 13; (with_reducible refine HST.out.mono ?_); rintro e w6 ⟨rfl, h6⟩))
                exact ⟨⟨i + 1, by omega, by go_num, by rw [show 2 * (i + 1) = 2 * i + 2 by omega]; exact h6⟩, by simp [intOf]; omega⟩
              · have e3 : ((i : Int) % 4 == 3) = false := by simp; omega
                have e4 : ¬ (i : Int) % 4 = 3 := by omega
                have hi0 : (0 : Int) ≤ i := by omega
                go_wp2_with fail
                exact ⟨⟨i + 1, by omega, by go_num, by rw [show 2 * (i + 1) = 2 * i + 2 by omega]; exact HS5.out⟩, by simp [intOf]; omega⟩
            · go_region_held3 (fun w' => w'.cell? ⟨gS, q + i * 7, none⟩ = some (.int .i64 o.kind) ∧ w'.cell? ⟨gS, q + i * 7 + 1, none⟩ = some (.int .i64 o.on) ∧ w'.cell? ⟨gS, q + i * 7 + 2, none⟩ = some (.int .i64 o.n) ∧ w'.cell? ⟨gS, q + i * 7 + 3, none⟩ = some (.int .i64 o.a) ∧ w'.cell? ⟨gS, q + i * 7 + 4, none⟩ = some (.int .i64 o.b) ∧ w'.cell? ⟨gS, q + i * 7 + 5, none⟩ = some (.slice o.LA o.xs.length o.lc) ∧ w'.cell? ⟨gS, q + i * 7 + 6, none⟩ = some (.slice o.RA o.rows.length o.rc) ∧ w'.cell? ⟨gl, 0, none⟩ = some (.pointer (some ⟨s0, 0, none⟩))) (first | exact ⟨k0, k1, k2, k3, k4, k5, k6, c0⟩ | assumption)
                (first
                  | (go_at_call 11; (with_reducible refine (pick_at HPK.out (by decide) hon.out _).mono ?_); rintro e w' ⟨rfl, rfl⟩)
                  | (go_at_call 12; (with_reducible refine (HS0.out wr.drew (HS.out.new (Drawn_below wr 1))).mono ?_); rintro e w5 ⟨rfl, h5⟩; have hf5 := HFC.out w5 h5; have hK := And.intro (hf5.2 0 _ (by omega) rfl) (And.intro (hf5.2 1 _ (by omega) rfl) (And.intro (hf5.2 2 _ (by omega) rfl) (And.intro (hf5.2 3 _ (by omega) rfl) (And.intro (hf5.2 4 _ (by omega) rfl) (And.intro (hf5.2 5 _ (by omega) rfl) (And.intro (hf5.2 6 _ (by omega) rfl) hf5.1.1)))))); simp only [Nat.add_zero] at hK))
              have HS5 := Hid.mk_ h5
              clear h5 hf5 hK
              by_cases h3 : i % 4 = 3
              · have e3 : ((i : Int) % 4 == 3) = true := by simp; omega
                have e4 : (i : Int) % 4 = 3 := by omega
                have hi0 : (0 : Int) ≤ i := by omega
                have HST := Hid.mk_ (HS5.out.still (by omega))
                go_wp2_with (first | (go_at_call 13; (with_reducible refine HST.out.mono ?_); rintro e w6 ⟨rfl, h6⟩))
                exact ⟨⟨i + 1, by omega, by go_num, by rw [show 2 * (i + 1) = 2 * i + 2 by omega]; exact h6⟩, by simp [intOf]; omega⟩
              · have e3 : ((i : Int) % 4 == 3) = false := by simp; omega
                have e4 : ¬ (i : Int) % 4 = 3 := by omega
                have hi0 : (0 : Int) ≤ i := by omega
                go_wp2_with fail
                exact ⟨⟨i + 1, by omega, by go_num, by rw [show 2 * (i + 1) = 2 * i + 2 by omega]; exact HS5.out⟩, by simp [intOf]; omega⟩
            · go_region_held3 (fun w' => w'.cell? ⟨gS, q + i * 7, none⟩ = some (.int .i64 o.kind) ∧ w'.cell? ⟨gS, q + i * 7 + 1, none⟩ = some (.int .i64 o.on) ∧ w'.cell? ⟨gS, q + i * 7 + 2, none⟩ = some (.int .i64 o.n) ∧ w'.cell? ⟨gS, q + i * 7 + 3, none⟩ = some (.int .i64 o.a) ∧ w'.cell? ⟨gS, q + i * 7 + 4, none⟩ = some (.int .i64 o.b) ∧ w'.cell? ⟨gS, q + i * 7 + 5, none⟩ = some (.slice o.LA o.xs.length o.lc) ∧ w'.cell? ⟨gS, q + i * 7 + 6, none⟩ = some (.slice o.RA o.rows.length o.rc) ∧ w'.cell? ⟨gl, 0, none⟩ = some (.pointer (some ⟨s0, 0, none⟩))) (first | exact ⟨k0, k1, k2, k3, k4, k5, k6, c0⟩ | assumption)
                (first
                  | (go_at_call 11; (with_reducible refine (pick_at HPK.out (by decide) hon.out _).mono ?_); rintro e w' ⟨rfl, rfl⟩)
                  | (go_at_call 12; (with_reducible refine (HS0.out wr.drew (HS.out.new (Drawn_below wr 1))).mono ?_); rintro e w5 ⟨rfl, h5⟩; have hf5 := HFC.out w5 h5; have hK := And.intro (hf5.2 0 _ (by omega) rfl) (And.intro (hf5.2 1 _ (by omega) rfl) (And.intro (hf5.2 2 _ (by omega) rfl) (And.intro (hf5.2 3 _ (by omega) rfl) (And.intro (hf5.2 4 _ (by omega) rfl) (And.intro (hf5.2 5 _ (by omega) rfl) (And.intro (hf5.2 6 _ (by omega) rfl) hf5.1.1)))))); simp only [Nat.add_zero] at hK))
              have HS5 := Hid.mk_ h5
              clear h5 hf5 hK
              by_cases h3 : i % 4 = 3
              · have e3 : ((i : Int) % 4 == 3) = true := by simp; omega
                have e4 : (i : Int) % 4 = 3 := by omega
                have hi0 : (0 : Int) ≤ i := by omega
                have HST := Hid.mk_ (HS5.out.still (by omega))
                go_wp2_with (first | (go_at_call 13; (with_reducible refine HST.out.mono ?_); rintro e w6 ⟨rfl, h6⟩))
                exact ⟨⟨i + 1, by omega, by go_num, by rw [show 2 * (i + 1) = 2 * i + 2 by omega]; exact h6⟩, by simp [intOf]; omega⟩
              · have e3 : ((i : Int) % 4 == 3) = false := by simp; omega
                have e4 : ¬ (i : Int) % 4 = 3 := by omega
                have hi0 : (0 : Int) ≤ i := by omega
                go_wp2_with fail
                exact ⟨⟨i + 1, by omega, by go_num, by rw [show 2 * (i + 1) = 2 * i + 2 by omega]; exact HS5.out⟩, by simp [intOf]; omega⟩
            · go_region_held3 (fun w' => w'.cell? ⟨gS, q + i * 7, none⟩ = some (.int .i64 o.kind) ∧ w'.cell? ⟨gS, q + i * 7 + 1, none⟩ = some (.int .i64 o.on) ∧ w'.cell? ⟨gS, q + i * 7 + 2, none⟩ = some (.int .i64 o.n) ∧ w'.cell? ⟨gS, q + i * 7 + 3, none⟩ = some (.int .i64 o.a) ∧ w'.cell? ⟨gS, q + i * 7 + 4, none⟩ = some (.int .i64 o.b) ∧ w'.cell? ⟨gS, q + i * 7 + 5, none⟩ = some (.slice o.LA o.xs.length o.lc) ∧ w'.cell? ⟨gS, q + i * 7 + 6, none⟩ = some (.slice o.RA o.rows.length o.rc) ∧ w'.cell? ⟨gl, 1, none⟩ = some (.pointer (some ⟨s1, 0, none⟩))) (first | exact ⟨k0, k1, k2, k3, k4, k5, k6, c1⟩ | assumption)
                (first
                  | (go_at_call 11; (with_reducible refine (pick_at HPK.out (by decide) hon.out _).mono ?_); rintro e w' ⟨rfl, rfl⟩)
                  | (go_at_call 12; (with_reducible refine (HS1.out wr.drew (HS.out.new (Drawn_below wr 1))).mono ?_); rintro e w5 ⟨rfl, h5⟩; have hf5 := HFC.out w5 h5; have hK := And.intro (hf5.2 0 _ (by omega) rfl) (And.intro (hf5.2 1 _ (by omega) rfl) (And.intro (hf5.2 2 _ (by omega) rfl) (And.intro (hf5.2 3 _ (by omega) rfl) (And.intro (hf5.2 4 _ (by omega) rfl) (And.intro (hf5.2 5 _ (by omega) rfl) (And.intro (hf5.2 6 _ (by omega) rfl) hf5.1.2)))))); simp only [Nat.add_zero] at hK))
              have HS5 := Hid.mk_ h5
              clear h5 hf5 hK
              by_cases h3 : i % 4 = 3
              · have e3 : ((i : Int) % 4 == 3) = true := by simp; omega
                have e4 : (i : Int) % 4 = 3 := by omega
                have hi0 : (0 : Int) ≤ i := by omega
                have HST := Hid.mk_ (HS5.out.still (by omega))
                go_wp2_with (first | (go_at_call 13; (with_reducible refine HST.out.mono ?_); rintro e w6 ⟨rfl, h6⟩))
                exact ⟨⟨i + 1, by omega, by go_num, by rw [show 2 * (i + 1) = 2 * i + 2 by omega]; exact h6⟩, by simp [intOf]; omega⟩
              · have e3 : ((i : Int) % 4 == 3) = false := by simp; omega
                have e4 : ¬ (i : Int) % 4 = 3 := by omega
                have hi0 : (0 : Int) ≤ i := by omega
                go_wp2_with fail
                exact ⟨⟨i + 1, by omega, by go_num, by rw [show 2 * (i + 1) = 2 * i + 2 by omega]; exact HS5.out⟩, by simp [intOf]; omega⟩
          · have hge : ¬ ((i : Int) < ops.length) := by omega
            obtain ⟨c0, c1⟩ := hc01
            have ST1 := Hid.mk_ (HS.out.step lastOp (lastOp_in _ _) (by omega))
            unfold OpV.val lastOp at ST1
            simp only [List.length_nil] at ST1
            go_wp2_with (first
              | (go_at_call 12; (with_reducible refine ST1.out.mono ?_); rintro e w5 ⟨rfl, h5⟩; have HS5 := Hid.mk_ h5; have e1 : w5.cell? ⟨gl, 1, none⟩ = some (.pointer (some ⟨s1, 0, none⟩)) := (by
                  obtain ⟨_, _, _, _, _, _, _, _, _, _, _, _, _, _, _, _, _, _, _, _, _, h⟩ := h5
                  exact (HO.out w5 h.gle).2); have ST2 := Hid.mk_ (h5.swap.step lastOp (lastOp_in _ _) (by omega)); unfold OpV.val lastOp at ST2; simp only [List.length_nil] at ST2; clear h5 ST1)
              | (go_at_call 12; (with_reducible refine ST2.out.mono ?_); rintro e w6 ⟨rfl, h6⟩; have HST := Hid.mk_ (h6.still (by omega)); clear h6)
              | (go_at_call 13; (with_reducible refine HST.out.mono ?_); rintro e w7 ⟨rfl, h7⟩))
            go_ret
            obtain ⟨_, _, _, _, _, _, _, _, _, _, _, _, _, _, _, _, _, _, _, _, _, h⟩ := h7
            exact ⟨rfl, h.B⟩
  · have hn2 : 2147483647 < n := by omega
    go_wp2_with fail
    go_ret
    exact ⟨rfl, HB1.out⟩
end Go.Proofs.Ytphmmpdeehfhjaa
