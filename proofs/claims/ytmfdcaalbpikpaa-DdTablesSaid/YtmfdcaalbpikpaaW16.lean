/- DdTables: its walk. -/
import Derived.Test.YtmfdcaalbpikpaaW15
namespace Go.Proofs.Ytmfdcaalbpikpaa
open Go.RowKit Go.Maps
set_option linter.unusedVariables false
set_option linter.unusedSimpArgs false
def OpsDIn (w : World) (A : Option Addr) (ops : List OpD) : Prop := ops.length ≤ 1400000000000 ∧ (0 < ops.length → ∃ g o, A = some ⟨g, o, none⟩ ∧ g < w.heap.size ∧ ∀ j (hj : j < ops.length) r, r < 9 → w.cell? ⟨g, o + j * 9 + r, none⟩ = (ops[j]'hj).cells[r]?) ∧ ∀ op ∈ ops, OpDOk w op
def few (l : List Int) (i : Nat) : List Int := (l.take i).map fun x => 1 + pickI x 3
theorem few_succ {l : List Int} {i : Nat} (h : i < l.length) : few l (i + 1) = few l i ++ [1 + pickI (l[i]'h) 3] := by
  unfold few
  rw [List.take_succ_eq_append_getElem h, List.map_append]; rfl
theorem few_sz {l : List Int} {i : Nat} : ∀ s ∈ few l i, 1 ≤ s ∧ s ≤ 3 := fun s hs => by
  unfold few at hs
  obtain ⟨x, _, rfl⟩ := List.mem_map.1 hs
  have := pickI_range x 3 (by omega)
  omega
theorem few_length {l : List Int} {i : Nat} (h : i ≤ l.length) : (few l i).length = i := by unfold few; rw [List.length_map, List.length_take]; omega
theorem prodI_snoc : ∀ (S : List Int) (n : Int), prodI (S ++ [n]) = prodI S * n
  | [], n => by simp [prodI]
  | s :: S, n => by simp only [List.cons_append, prodI, prodI_snoc S n, Int.mul_assoc]
theorem prod_small {S : List Int} (hs : ∀ s ∈ S, 1 ≤ s ∧ s ≤ 3) (hl : S.length ≤ 4) : 1 ≤ prodI S ∧ prodI S ≤ 81 := by
  have h1 := Few.prod S hs
  refine ⟨h1.1, Int.le_trans h1.2 ?_⟩
  rcases (by omega : S.length = 0 ∨ S.length = 1 ∨ S.length = 2 ∨ S.length = 3 ∨ S.length = 4) with e | e | e | e | e <;> rw [e] <;> decide
theorem tab_none {S : List Int} {pn : Nat} (h : prodI S = pn) : tab S [] 0 = List.replicate pn false := by
  unfold tab
  rw [h, Int.toNat_natCast]
  refine List.ext_getElem (by simp) fun i h1 h2 => ?_
  rw [List.getElem_map, List.getElem_replicate, den0]
theorem tab_all {S : List Int} {pn : Nat} (h : prodI S = pn) : tab S [] 1 = List.replicate pn true := by
  unfold tab
  rw [h, Int.toNat_natCast]
  refine List.ext_getElem (by simp) fun i h1 h2 => ?_
  rw [List.getElem_map, List.getElem_replicate, den1]
/-- a list that grows, beside a table -/
structure PT (w wr : World) (bo : Nat) (cs : List Value) (L : List Bool) (n : Nat) (A : Option Addr) (c : Nat) : Prop where
  row : Row wr 4 1 (.slice A n c) n ((L.take n).map Value.bool)
  own : ∀ q, (Value.slice A n c).ownBlock = some q → w.heap.size ≤ q
  blk : Blk wr bo cs 28
  below : Below w.heap.size w wr
theorem PT.step {w wr w3 : World} {bo : Nat} {cs : List Value} {L : List Bool} {n : Nat} {A : Option Addr} {c g cap : Nat} {o : Obj} {b : Bool} (h : PT w wr bo cs L n A c) (hrow : Row w3 4 1 (.slice (some ⟨g, 0, none⟩) (n + 1) cap) (n + 1) ((L.take n).map Value.bool ++ [.bool b]))
    (hg : (wr.alloc o).grownBy w3 (Value.slice A n c).ownBlock) (hl : (Value.slice A n c).ownBlock = some g ∨ g = wr.heap.size + 1) (hn : n < L.length) (hb : L[n]'hn = b) : PT w w3 bo cs L (n + 1) (some ⟨g, 0, none⟩) cap where
  row := by
    have e : (L.take (n + 1)).map Value.bool = (L.take n).map Value.bool ++ [.bool b] := by rw [List.take_succ_eq_append_getElem hn, List.map_append, hb]; rfl
    rw [e]; exact hrow
  own := fun q hq => by
    cases hq
    rcases hl with e | e
    · exact h.own g e
    · have := h.below.size; show w.heap.size ≤ g; omega
  blk := (h.blk.alloc o).grown hg (fun e => row_blk h.row h.blk (by decide) e.symm)
  below := Below.grown (h.below.alloc h.below.size _) hg (by simp; have := h.below.size; omega) (fun q e => h.own q e)
theorem step_both {w w0 : World} {tb ab : Nat} {S F : List Int} {V : List Value} {sv fv yv : Value} {N : List Nd} {z : List Nat} {o : OpD} (h : TS w0 w ab tb S N z F V sv fv yv) (hFew : Few S) (ho : OpDOk w o) (hF : 0 < F.length) (hFl : F.length ≤ 2000000000000) :
    Calls Try.prog 10 #[.pointer (some ⟨tb, 0, none⟩), .pointer (some ⟨ab, 0, none⟩), o.agg] w (StepDone w0 ab tb S N F V sv fv yv) := by
  by_cases hw : 2 ≤ o.wh ∧ o.wh ≤ 6
  · exact step_ops h hFew ho hF hFl hw
  · exact step_set h hFew ho hF hFl hw
theorem step_flat {w w0 : World} {tb ab : Nat} {S F : List Int} {V : List Value} {sv fv yv : Value} {N : List Nd} {z : List Nat} {near : Bool} {wh f g hh l c : Int} {A : Option Addr} {cA : Nat} {ins : List Bool} {B : Option Addr} {cB : Nat} {cls : List Int}
    (h : TS w0 w ab tb S N z F V sv fv yv) (hFew : Few S) (ho : OpDOk w ⟨near, wh, f, g, hh, l, c, A, cA, ins, B, cB, cls⟩) (hF : 0 < F.length) (hFl : F.length ≤ 2000000000000) :
    Calls Try.prog 10 #[.pointer (some ⟨tb, 0, none⟩), .pointer (some ⟨ab, 0, none⟩), .agg #[.bool near, .int .i64 wh, .int .i64 f, .int .i64 g, .int .i64 hh, .int .i64 l, .int .i64 c, .slice A ins.length cA, .slice B cls.length cB]] w (StepDone w0 ab tb S N F V sv fv yv) := by
  have h9 := step_both h hFew ho hF hFl
  unfold OpD.agg at h9
  exact h9
section
variable {w w' w0 : World} {A1 A2 : Option Addr} {S0 : List Int} {ops : List OpD} {c1 c2 : Nat}
set_option maxRecDepth 100000 in
set_option maxHeartbeats 8000000 in
theorem tables_any (h1 : IntsIn w A1 S0) (hi64 : ∀ x ∈ S0, i64 x) (h2 : OpsDIn w A2 ops) : Calls Try.prog 3 #[.slice A1 S0.length c1, .slice A2 ops.length c2] w fun e w' => e = .returned (.bool true) ∧ Below w.heap.size w w' := by
  have HI := Hid.mk_ h1
  have H64 := Hid.mk_ hi64
  have HO := Hid.mk_ h2
  have hl1 := h1.1
  have hl2 := h2.1
  have HKN := Hid.mk_ (known_any w)
  obtain ⟨i3, hi3, ha0, ha1, ha2⟩ := info_parts Try.info3
  obtain ⟨i4, hi4, hb0, hb1, hb2⟩ := info_parts Try.info4
  have hi48 : i4.bytes = 1 := hb2
  clear h1 hi64 h2
  go_enter Try.func3, Try.ntmps3
  go_upto_region 2 with (go_at_call 6; (with_reducible refine HKN.out.mono ?_); rintro e w1 ⟨rfl, hb⟩; have HB1 := Hid.mk_ hb; clear hb)
  go_upto_region 3 with fail
  obtain ⟨w2, hw2⟩ : ∃ w2, w2 = w1.alloc (.cells #[.slice none 0 0, .int .i64 1, .slice none 0 0, .slice none 0 0] 28) := ⟨_, rfl⟩
  obtain ⟨tb, htb⟩ : ∃ tb, tb = w1.heap.size := ⟨_, rfl⟩
  rw [← hw2, ← htb]
  have hs1 := HB1.out.size
  have hb2' : Below w.heap.size w w2 := by rw [hw2]; exact HB1.out.alloc hs1 _
  have hk2 : Blk w2 tb [.slice none 0 0, .int .i64 1, .slice none 0 0, .slice none 0 0] 28 := by rw [hw2, htb]; exact Blk.new w1 _ 28
  have htw : w.heap.size ≤ tb := by omega
  have HB2 := Hid.mk_ hb2'
  have HK2 := Hid.mk_ hk2
  have HTW := Hid.mk_ htw
  clear hw2 htb hb2' hk2 htw hs1
  go_wp2_with fail
  go_loopw [7] (fun x7 wr => ∃ (i : Nat) (A : Option Addr) (c : Nat), i ≤ S0.length ∧ i ≤ 4 ∧ x7 = .int .i64 (i : Int) ∧ Hid (Blk wr tb [.slice A i c, .int .i64 (prodI (few S0 i)), .slice none 0 0, .slice none 0 0] 28) ∧ Hid (Row wr 3 1 (.slice A i c) i ((few S0 i).map (Value.int .i64))) ∧ Hid (∀ q, (Value.slice A i c).ownBlock = some q → w.heap.size ≤ q) ∧ Hid (Below w.heap.size w wr)) (fun x7 _ => 4 - (intOf x7).toNat)
  case atStart => exact ⟨0, none, 0, Nat.zero_le _, by omega, rfl, HK2, Row.nil _ _ _, fun q hq => by simp [Value.ownBlock] at hq, HB2⟩
  case round =>
    obtain ⟨i, A, c, hi, hi4', rfl, HK, HR, HQ, HB⟩ := hrel
    have x0 := HK.out.cell 0
    have x0f := HK.out.free 0
    have x1 := HK.out.cell 1
    have xl := HK.out.lt
    by_cases hlt : i < S0.length ∧ i < 4
    · obtain ⟨hlt1, hlt4⟩ := hlt
      have hlt1i : (i : Int) < S0.length := by omega
      have hlt4i : (i : Int) < 4 := by omega
      obtain ⟨g, o, rfl, hg, hcs⟩ := (HI.out.new HB.out).2 (by omega)
      have c0 := hcs i hlt1
      have h64 := H64.out _ (List.getElem_mem hlt1)
      have hf := few_succ (l := S0) (i := i) hlt1
      obtain ⟨x, hx⟩ : ∃ x, x = S0[i]'hlt1 := ⟨_, rfl⟩
      rw [← hx] at c0 h64 hf
      have HPK := Hid.mk_ (pick_any x 3 (by omega) h64.1 h64.2)
      have hr := pickI_range x 3 (by omega)
      obtain ⟨n, hn⟩ : ∃ n, n = pickI x 3 := ⟨_, rfl⟩
      rw [← hn] at HPK hr hf
      have hps := prod_small (S := few S0 i) few_sz (by rw [few_length hi]; omega)
      obtain ⟨P, hP⟩ : ∃ P, P = prodI (few S0 i) := ⟨_, rfl⟩
      rw [← hP] at x1 hps
      have hP2 : prodI (few S0 (i + 1)) = P * (1 + n) := by rw [hf, prodI_snoc, ← hP]
      have HF := Hid.mk_ hf
      have HP2 := Hid.mk_ hP2
      have HPE := Hid.mk_ hP.symm
      clear hcs hx hn hf hP2 hP
      go_upto_region 7 with (go_at_call 7; (with_reducible refine (HPK.out _).mono ?_); rintro e w' ⟨rfl, rfl⟩)
      go_upto_region 8 with (at_builtin; refine wpList_append_row _ rfl _ _ 22 rfl 3 i3 (.int .i64 0) 1 8 Try.underlying22 hi3 ha0 ha1 ha2 rfl (by decide) (.slice A i c) i ((few S0 i).map (Value.int .i64)) rfl (HR.out.alloc _) ⟨wr.heap.size, 0, none⟩ 1 1 [.int .i64 (1 + n)] rfl rfl (one_cells_at wr _ _ rfl) (by simp [Value.oneCell']) (by decide) (by unfold maxLen; omega) (by omega) (wr.heap.size + 1) (by simp) ?_; intro g' cap' w3 hrow hgrow hloc hlt'; have hb3 := (HK.out.alloc (.cells #[.int .i64 (1 + n)] 3)).grown hgrow (fun e => row_blk HR.out HK.out (by decide) e.symm); have y0 := hb3.cell 0; have y0f := hb3.free 0; have yl := hb3.lt; have HB3 := Hid.mk_ hb3; have HROW := Hid.mk_ hrow; have HGR := Hid.mk_ hgrow; have HLC := Hid.mk_ hloc; clear hb3 hrow hgrow hloc)
      obtain ⟨w4, hw4⟩ : ∃ w4, w4 = w3.setCell ⟨tb, 0, none⟩ (.slice (some ⟨g', 0, none⟩) (i + 1) cap') := ⟨_, rfl⟩
      rw [← hw4]
      have hk4 : Blk w4 tb [.slice (some ⟨g', 0, none⟩) (i + 1) cap', .int .i64 (prodI (few S0 i)), .slice none 0 0, .slice none 0 0] 28 := by rw [hw4]; exact HB3.out.set 0 _
      have hr4 : Row w4 3 1 (.slice (some ⟨g', 0, none⟩) (i + 1) cap') (i + 1) ((few S0 i).map (Value.int .i64) ++ [.int .i64 (1 + n)]) := by rw [hw4]; exact HROW.out.far (HROW.out.notBlk HB3.out (by decide)) _
      have hb4 : Below w.heap.size w w4 := by
        rw [hw4]
        exact (Below.grown (HB.out.alloc HB.out.size _) HGR.out (by simp; have := HB.out.size; omega) (fun q e => HQ.out q e)).setCell HTW.out _
      have hq4 : w.heap.size ≤ g' := by
        rcases HLC.out with e | e
        · exact HQ.out g' e
        · have := HB.out.size; omega
      have u1 : w4.cell? ⟨tb, 1, none⟩ = some (.int .i64 P) := by
        rw [hk4.cell 1]
        show some (Value.int .i64 (prodI (few S0 i))) = _
        rw [HPE.out]
      have u1f := hk4.free 1
      have ul := hk4.lt
      have HK4 := Hid.mk_ hk4
      have HR4 := Hid.mk_ hr4
      have HB4 := Hid.mk_ hb4
      have HQ4 := Hid.mk_ hq4
      clear hw4 hk4 hr4 hb4 hq4 y0 y0f yl x0 x0f x1 xl c0
      rcases (by omega : n = 0 ∨ n = 1 ∨ n = 2) with rfl | rfl | rfl
      all_goals (
        go_wp2_with fail
        refine ⟨⟨i + 1, some ⟨g', 0, none⟩, cap', by omega, by omega, by go_num, Hid.mk_ ?_, Hid.mk_ ?_, Hid.mk_ ?_, Hid.mk_ ?_⟩, by simp [intOf]; omega⟩
        · have := HK4.out.set 1 (.int .i64 (prodI (few S0 (i + 1))))
          rw [HP2.out] at this ⊢
          first | exact this | (simp at this ⊢; exact this)
        · rw [HF.out, List.map_append]
          exact HR4.out.far (HR4.out.notBlk HK4.out (by decide)) _
        · intro q hq; cases hq; exact HQ4.out
        · exact HB4.out.setCell HTW.out _)
    · by_cases hi0 : i = 0
      · subst hi0
        have hl0 : S0.length = 0 := by omega
        have hlt1 : ¬ ((0 : Nat) : Int) < S0.length := by omega
        have hlt2 : ¬ (0 : Int) < S0.length := by omega
        have HL0 := Hid.mk_ hl0
        clear hl0
        go_wp2_with fail
        go_ret
        exact ⟨rfl, HB.out⟩
      · obtain ⟨S, hS⟩ : ∃ S, S = few S0 i := ⟨_, rfl⟩
        have hSl : S.length = i := by rw [hS]; exact few_length hi
        have hFew : Few S := ⟨by omega, fun s hs => by rw [hS] at hs; exact few_sz s hs⟩
        have hSz : Sized S 8192 := ⟨by omega, by omega, fun s hs => by have := hFew.sz s hs; omega, by omega, by omega⟩
        rw [← hS] at HK HR
        clear x0 x1
        obtain ⟨pn, hpn⟩ : ∃ pn : Nat, prodI S = (pn : Int) := ⟨(prodI S).toNat, by have := hFew.pts; omega⟩
        have hpts := hFew.pts
        rw [hpn] at hpts
        have x0 := HK.out.cell 0
        have x1 : wr.cell? ⟨tb, 1, none⟩ = some (.int .i64 (pn : Int)) := by rw [← hpn]; exact HK.out.cell 1
        have hints : IntsIn wr A S := by
          have hr := HR.out
          refine ⟨by omega, fun _ => ?_⟩
          obtain ⟨g, c', e, hg, _⟩ := hr.some_ (by omega)
          cases e
          exact ⟨g, 0, rfl, hg, fun j hj => by
            rw [Nat.zero_add, hr.cell j (by omega)]
            simp [hj]⟩
        have hnew := new_ok (c := c) hints hSz
        rw [hSl] at hnew
        have HNW := Hid.mk_ hnew
        have HFW := Hid.mk_ hFew
        have HPN := Hid.mk_ hpn
        have HSL := Hid.mk_ hSl
        have hin : ¬ (i : Int) = 0 := by omega
        have hin1 : ((i : Int) == 0) = false := by simp; omega
        have hlt' : ¬ ((i : Int) < S0.length ∧ (i : Int) < 4) := by omega
        clear hS hSl hFew hSz hpn hints hnew
        by_cases hc1 : i < S0.length
        all_goals (
          have hd1 : ((i : Int) < S0.length) ∨ ¬ ((i : Int) < S0.length) := by omega
          have hd2 : i < S0.length → ¬ (i : Int) < 4 := by omega
          first
            | (have hda : (i : Int) < S0.length := by omega
               have hdb : ¬ (i : Int) < 4 := by omega
               clear hd1 hd2 hlt'
               go_upto_region 14 with (go_at_call 8; (with_reducible refine HNW.out.mono ?_); rintro e w5 ⟨ab, z, rfl, hpa, hz, hb5⟩; have HPA := Hid.mk_ hpa; have HZ := Hid.mk_ hz; have HB5 := Hid.mk_ hb5; clear hpa hz hb5))
            | (have hda : ¬ (i : Int) < S0.length := by omega
               clear hd1 hd2 hlt'
               go_upto_region 14 with (go_at_call 8; (with_reducible refine HNW.out.mono ?_); rintro e w5 ⟨ab, z, rfl, hpa, hz, hb5⟩; have HPA := Hid.mk_ hpa; have HZ := Hid.mk_ hz; have HB5 := Hid.mk_ hb5; clear hpa hz hb5))
          clear hda
          (try clear hdb)
          have hk5 := HK.out.below HB5.out HK.out.lt
          have z1 : w5.cell? ⟨tb, 1, none⟩ = some (.int .i64 (pn : Int)) := by rw [← HPN.out]; exact hk5.cell 1
          have zl := hk5.lt
          have HK5 := Hid.mk_ hk5
          have hb05 : Below w.heap.size w w5 := HB.out.trans (HB5.out.mono HB.out.size)
          have HB05 := Hid.mk_ hb05
          have hs05 := HB.out.size
          have hs55 := HB5.out.size
          clear hk5 hb05 x0 x1 x0f xl
          go_upto_region 16 with (at_make; refine make_row' _ rfl (.tmp 88) (.tmp 88) 34 rfl 4 i4 (.bool false) Try.underlying34 hi4 hb0 hb1 rfl .i64 .i64 pn (pn : Int) rfl rfl rfl (by rw [hi48]; omega) (by omega) ?_)
          obtain ⟨w6, hw6⟩ : ∃ w6, w6 = w5.alloc (.cells (Array.replicate pn (.bool false)) 4) := ⟨_, rfl⟩
          obtain ⟨gno, hgno⟩ : ∃ gno, gno = w5.heap.size := ⟨_, rfl⟩
          rw [← hw6, ← hgno]
          rw [show Array.replicate pn (Value.bool false) = (List.replicate pn (Value.bool false)).toArray by simp] at hw6
          have hb6 : Below w5.heap.size w5 w6 := by rw [hw6]; exact (Below.refl _ _).alloc (Nat.le_refl _) _
          have hno : Blk w6 gno ((List.replicate pn false).map Value.bool) 4 := by rw [hw6, hgno, List.map_replicate]; exact Blk.new w5 _ 4
          have HB6 := Hid.mk_ hb6
          have HNO := Hid.mk_ hno
          have HGN := Hid.mk_ hgno
          have HK6 := Hid.mk_ (HK5.out.below hb6 HK5.out.lt)
          clear hw6 hb6 hno hgno z1 zl
          go_wp2_with fail
          go_loopw [12, 13] (fun x12 x13 wr => ∃ (n : Nat) (A3 : Option Addr) (c3 : Nat), n ≤ pn ∧ x13 = .int .i64 (n : Int) ∧ x12 = .slice A3 n c3 ∧ Hid (PT w6 wr tb _ (List.replicate pn true) n A3 c3)) (fun _ x13 _ => pn - (intOf x13).toNat)
          case atStart => exact ⟨0, none, 0, Nat.zero_le _, rfl, rfl, ⟨Row.nil _ _ _, fun q hq => by simp [Value.ownBlock] at hq, HK6.out, Below.refl _ _⟩⟩
          case round =>
            obtain ⟨n, A3, c3, hn, rfl, rfl, HP⟩ := hrel
            have z1 : wr.cell? ⟨tb, 1, none⟩ = some (.int .i64 (pn : Int)) := by rw [← HPN.out]; exact HP.out.blk.cell 1
            have zl := HP.out.blk.lt
            by_cases hlt : n < pn
            · have hlt1 : (n : Int) < pn := by omega
              have hnL : n < (List.replicate pn true).length := by rw [List.length_replicate]; exact hlt
              go_wp2_with (at_builtin; refine wpList_append_row _ rfl _ _ 34 rfl 4 i4 (.bool false) 1 1 Try.underlying34 hi4 hb0 hb1 hb2 rfl (by decide) (.slice A3 n c3) n (((List.replicate pn true).take n).map Value.bool) rfl (HP.out.row.alloc _) ⟨wr.heap.size, 0, none⟩ 1 1 [.bool true] rfl rfl (one_cells_at wr _ _ rfl) (by simp [Value.oneCell']) (by decide) (by unfold maxLen; omega) (by omega) (wr.heap.size + 1) (by simp) ?_; intro g' cap' w7 hrow hgrow hloc hlt'; have HSS := Hid.mk_ (HP.out.step hrow hgrow hloc hnL (by simp)); clear hrow hgrow hloc)
              exact ⟨⟨n + 1, _, _, by omega, by go_num, rfl, HSS⟩, by simp [intOf]; omega⟩
            · have hne : n = pn := by omega
              subst hne
              have hlt1 : ¬ ((n : Nat) : Int) < n := by omega
              have hyes := HP.out.row
              rw [List.take_of_length_le (by rw [List.length_replicate]; exact Nat.le_refl _)] at hyes
              have hb56 : Below w5.heap.size w5 wr := HB6.out.trans (HP.out.below.mono HB6.out.size)
              have hbw : Below w.heap.size w wr := HB05.out.trans (hb56.mono HB05.out.size)
              have hgood := HPA.out.good
              have hS0 : Row wr 3 1 (.slice A S.length c) S.length (S.map (Value.int .i64)) := by
                rw [HSL.out]
                exact HR.out.move fun q hq => by
                  have h1 := HR.out.lt q hq
                  rw [hb56.block q (by omega), HB5.out.block q h1]
              have hTS0 : TS w wr ab tb S [] z [] [] (.slice A S.length c) (.slice none 0 0) (.slice none 0 0) := by
                refine ⟨HPA.out.new hb56, ⟨by rw [HSL.out]; exact HP.out.blk, hS0, Row.nil _ _ _, Row.nil _ _ _, rfl, rfl, fun i hi => by simp at hi, fun k _ => by simp [Value.ownBlock]⟩, fun k hk => by have := HZ.out k hk; omega, fun k hk => ?_, hbw, fun f hf => by simp at hf⟩
                rcases hk with rfl | e | e | e | ⟨v, hv, e⟩
                · exact ⟨HTW.out, fun hz => by have := HZ.out _ hz; have := HK.out.lt; omega⟩
                · rw [HSL.out] at e
                  exact ⟨HQ.out k e, fun hz => by have := HZ.out _ hz; have := HR.out.lt k e; omega⟩
                · simp [Value.ownBlock] at e
                · simp [Value.ownBlock] at e
                · simp at hv
              have hnoR : Row wr 4 1 (.slice (some ⟨gno, 0, none⟩) n n) n ((List.replicate n false).map Value.bool) := by
                have hk := HNO.out.below HP.out.below HNO.out.lt
                refine ⟨by simp, .inr ⟨gno, n, _, rfl, hk, Nat.le_refl _, by unfold maxLen; omega, by simp, ?_⟩⟩
                rw [Nat.mul_one]
                exact List.take_of_length_le (by simp)
              have t0 := tab_none HPN.out
              have t1 := tab_all HPN.out
              have hadd1 := add_any (f := 0) (v := .slice (some ⟨gno, 0, none⟩) n n) hTS0 HFW.out (has01 (.inl rfl)) (by rw [t0, List.length_replicate]; exact hnoR) (fun q hq => by
                have eq : gno = q := Option.some.inj hq
                subst eq
                have := HGN.out
                exact ⟨by omega, fun hz => by have := HPA.out.zlt hz; omega⟩) (by simp)
              have HA1 := Hid.mk_ hadd1
              have HYES := Hid.mk_ hyes
              have HOWN := Hid.mk_ HP.out.own
              have hs6 := HB6.out.size
              have HZL := Hid.mk_ (fun q hq => HPA.out.zlt (k := q) hq)
              have hyl := hyes.lt
              have HYL := Hid.mk_ hyl
              clear hyes hb56 hbw hgood hS0 hTS0 hnoR hadd1 t0 hyl
              go_upto_region 21 with (go_at_call 9; (with_reducible refine HA1.out.mono ?_); rintro e w8 ⟨rfl, hkeep, fv1, yv1, hts⟩; have HT8 := Hid.mk_ hts; have HKP := Hid.mk_ hkeep; clear hts hkeep)
              clear z1 zl
              have hy8 : Row w8 4 1 (.slice A3 n c3) n ((List.replicate n true).map Value.bool) := HYES.out.move fun q hq => HKP.out q (HYL.out q hq) (HYES.out.notBlk HP.out.blk (by decide) q hq) (by simp [Value.ownBlock]) (by simp [Value.ownBlock])
              have hadd2 := add_any (f := 1) (v := .slice A3 n c3) HT8.out HFW.out (has01 (.inr rfl)) (by rw [t1, List.length_replicate]; exact hy8) (fun q hq => by
                have := HOWN.out q hq
                exact ⟨by omega, fun hz => by have := HZL.out q hz; omega⟩) (by simp)
              have HA2 := Hid.mk_ hadd2
              clear hadd2 hy8 t1
              go_upto_region 22 with (go_at_call 9; (with_reducible refine HA2.out.mono ?_); rintro e w9 ⟨rfl, _, fv2, yv2, hts⟩; have HT9 := Hid.mk_ hts; clear hts)
              clear HA1 HA2 HKP HT8
              go_wp2_with fail
              go_loopw [16] (fun x16 wr => ∃ (j : Nat) (N : List Nd) (z : List Nat) (F : List Int) (V : List Value) (fv yv : Value), j ≤ ops.length ∧ x16 = .int .i64 (j : Int) ∧ Hid (F.length = j + 2) ∧ Hid (TS w wr ab tb S N z F V (.slice A S.length c) fv yv)) (fun x16 _ => ops.length - (intOf x16).toNat)
              case atStart => exact ⟨0, [], z, _, _, fv2, yv2, Nat.zero_le _, rfl, Hid.mk_ rfl, HT9⟩
              case round =>
                obtain ⟨j, N, z', F, V, fv, yv, hj, rfl, HFL, HT⟩ := hrel
                by_cases hjl : j < ops.length
                · have hjl1 : (j : Int) < ops.length := by omega
                  obtain ⟨g, o, rfl, hg, hcs⟩ := HO.out.2.1 (by omega)
                  have hbel := HT.out.below
                  have hops : ∀ r, r < 9 → wr.cell? ⟨g, o + j * 9 + r, none⟩ = (ops[j]'hjl).cells[r]? := fun r hr => (hbel.cell (p := ⟨g, o + j * 9 + r, none⟩) hg).trans (hcs j hjl r hr)
                  have hok := (HO.out.2.2 _ (List.getElem_mem hjl))
                  have hgl : g < wr.heap.size := Nat.lt_of_lt_of_le hg hbel.size
                  obtain ⟨op, hop⟩ : ∃ op, op = ops[j]'hjl := ⟨_, rfl⟩
                  rw [← hop] at hops hok
                  have d0 := hops 0 (by omega)
                  have d1 := hops 1 (by omega)
                  have d2 := hops 2 (by omega)
                  have d3 := hops 3 (by omega)
                  have d4 := hops 4 (by omega)
                  have d5 := hops 5 (by omega)
                  have d6 := hops 6 (by omega)
                  have d7 := hops 7 (by omega)
                  have d8 := hops 8 (by omega)
                  obtain ⟨near, wh, f, g0, hh, l, cc, AA, cA, ins, BB, cB, cls⟩ := op
                  simp only [OpD.cells, Nat.add_zero] at d0 d1 d2 d3 d4 d5 d6 d7 d8
                  have HOK := Hid.mk_ hok
                  clear hcs hops hop hok hbel
                  go_upto_region 28 with fail
                  obtain ⟨wA, hwA⟩ : ∃ wA, wA = wr.alloc (.cells #[.bool near, .int .i64 wh, .int .i64 f, .int .i64 g0, .int .i64 hh, .int .i64 l, .int .i64 cc, .slice AA ins.length cA, .slice BB cls.length cB] 37) := ⟨_, rfl⟩
                  obtain ⟨bA, hbA⟩ : ∃ bA, bA = wr.heap.size := ⟨_, rfl⟩
                  rw [← hwA, ← hbA]
                  have hbelA : Below wr.heap.size wr wA := by rw [hwA]; exact (Below.refl _ _).alloc (Nat.le_refl _) _
                  have hkA : Blk wA bA [.bool near, .int .i64 wh, .int .i64 f, .int .i64 g0, .int .i64 hh, .int .i64 l, .int .i64 cc, .slice AA ins.length cA, .slice BB cls.length cB] 37 := by rw [hwA, hbA]; exact Blk.new wr _ 37
                  have hTA := HT.out.new hbelA
                  have hokA : OpDOk wA ⟨near, wh, f, g0, hh, l, cc, AA, cA, ins, BB, cB, cls⟩ := HOK.out.new hTA.below
                  have hst : Calls Try.prog 10 #[.pointer (some ⟨tb, 0, none⟩), .pointer (some ⟨ab, 0, none⟩), .agg #[.bool near, .int .i64 wh, .int .i64 f, .int .i64 g0, .int .i64 hh, .int .i64 l, .int .i64 cc, .slice AA ins.length cA, .slice BB cls.length cB]] wA (StepDone w ab tb S N F V (.slice A S.length c) fv yv) := by
                    have hF0 : 0 < F.length := by have := HFL.out; omega
                    have hF1 : F.length ≤ 2000000000000 := by have := HFL.out; omega
                    exact step_flat hTA HFW.out hokA hF0 hF1
                  have HST := Hid.mk_ hst
                  have q0 := hkA.cell 0
                  have q1 := hkA.cell 1
                  have q2 := hkA.cell 2
                  have q3 := hkA.cell 3
                  have q4 := hkA.cell 4
                  have q5 := hkA.cell 5
                  have q6 := hkA.cell 6
                  have q7 := hkA.cell 7
                  have q8 := hkA.cell 8
                  have ql := hkA.lt
                  clear hwA hbA hbelA hkA hTA hokA hst d0 d1 d2 d3 d4 d5 d6 d7 d8
                  go_upto_region 29 with (go_at_call 10; (with_reducible refine HST.out.mono ?_); rintro e wB ⟨r, er, v, N', z'', rfl, her, hts, hdone⟩)
                  have HTB := Hid.mk_ hts
                  clear hts q0 q1 q2 q3 q4 q5 q6 q7 q8 ql
                  rcases her with rfl | rfl
                  · obtain ⟨e1, e2, e3⟩ := hdone rfl
                    have hadd3 := add_any HTB.out HFW.out e1 e2 e3 (by have := HFL.out; omega)
                    have HA3 := Hid.mk_ hadd3
                    clear hadd3 e1 e2 e3 hdone
                    go_wp2_with (go_at_call 9; (with_reducible refine HA3.out.mono ?_); rintro e wC ⟨rfl, _, fv3, yv3, hts⟩; have HTC := Hid.mk_ hts; clear hts)
                    exact ⟨⟨j + 1, N', z'', F ++ [r], V ++ [v], fv3, yv3, by omega, by go_num, Hid.mk_ (by rw [List.length_append, HFL.out]; rfl), HTC⟩, by simp [intOf]; omega⟩
                  · clear hdone
                    go_wp2_with fail
                    go_ret
                    exact ⟨rfl, HTB.out.below⟩
                · have hjl1 : ¬ (j : Int) < ops.length := by omega
                  go_wp2_with fail
                  go_ret
                  exact ⟨rfl, HT.out.below⟩)
end
end Go.Proofs.Ytmfdcaalbpikpaa
