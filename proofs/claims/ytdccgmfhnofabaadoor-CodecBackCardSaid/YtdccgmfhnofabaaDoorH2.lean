/- CodecBack: its walk. -/
import Derived.Test.YtdccgmfhnofabaaDoorH1
import Derived.Laws.AppendOwn
namespace Go.Proofs.YtdccgmfhnofabaaDoor
open Go.RowKit
set_option linter.unusedVariables false
set_option linter.unusedSimpArgs false
def tot2 : List OpC → Nat
  | [] => 0
  | o :: l => 100 + 2 * o.s.length + tot2 l
theorem tot2_append : ∀ a b : List OpC, tot2 (a ++ b) = tot2 a + tot2 b
  | [], b => by simp [tot2]
  | o :: a, b => by simp only [List.cons_append, tot2, tot2_append a b]; omega
theorem tot2_take (l : List OpC) (k : Nat) (h : k < l.length) : tot2 (l.take (k + 1)) = tot2 (l.take k) + 100 + 2 * (l[k]'h).s.length := by
  rw [List.take_succ_eq_append_getElem h, tot2_append]; simp only [tot2]; omega
theorem tot2_mem {l : List OpC} {k : Nat} (h : k < l.length) : (l[k]'h).s.length ≤ tot2 l := by
  have e := tot2_take l k h
  have : tot2 (l.take (k + 1)) ≤ tot2 l := by
    conv => rhs; rw [← List.take_append_drop (k + 1) l, tot2_append]
    omega
  omega
theorem encs_len : ∀ l : List OpC, (encs (l.map itemOf)).length ≤ tot2 l
  | [] => by simp [encs]
  | o :: l => by
    rw [List.map_cons, encs_cons, List.length_append, tot2]
    have h1 := itemOf_len (x := o)
    have h2 := encs_len l
    omega
theorem cap_step2 {N l : Int} (h0 : 0 ≤ N) (h : N ≤ 2147483647) (hl : 0 ≤ l) : addV (addV N 100) (addV l l) = capT (N + 100 + 2 * l) := by
  unfold addV capT
  by_cases h1 : 2147483647 - N < 100
  · rw [if_pos h1, if_neg (by omega : ¬ (N + 100 + 2 * l ≤ 2147483647))]
    by_cases h2 : 2147483647 - l < l
    · rw [if_pos h2, if_pos (by omega)]
    · rw [if_neg h2, if_pos (by omega)]
  · rw [if_neg h1]
    by_cases h2 : 2147483647 - l < l
    · rw [if_pos h2, if_pos (by omega), if_neg (by omega)]
    · rw [if_neg h2]
      by_cases h3 : 2147483647 - (N + 100) < l + l
      · rw [if_pos h3, if_neg (by omega)]
      · rw [if_neg h3, if_pos (by omega)]; omega
/-- what a text answers -/
structure Txt (L : List It) (k : Nat) (T : List UInt8) (d : Int) : Prop where
  is : k < 2 → ∀ j (h : j < L.length), ((L[j]'h).get (getAll ⟨T, 0⟩ (L.take j))).1 = true
  done : (getAll ⟨T, 0⟩ L).done = d
  left : k = 2 → (getAll ⟨T, 0⟩ L).left = 0
theorem txt0 {L : List It} (h : ∀ x ∈ L, x.ok) : Txt L 0 (encs L) 0 := by
  have e := getAll_end h []
  rw [List.append_nil] at e
  refine ⟨fun _ j hj => ?_, ?_, by omega⟩
  · have := get_at h [] j hj
    rwa [List.append_nil] at this
  · rw [e]; rfl
theorem txt1 {L : List It} (h : ∀ x ∈ L, x.ok) (c : UInt8) (m : List UInt8) : Txt L 1 (encs L ++ c :: m) 13 := by
  refine ⟨fun _ j hj => get_at h _ j hj, ?_, by omega⟩
  rw [getAll_end h]; rfl
theorem txt2 {L : List It} (h : ∀ x ∈ L, x.ok) (hne : encs L ≠ []) : Txt L 2 (encs L).dropLast 12 := by
  have e := getAll_short L h hne
  refine ⟨by omega, ?_, fun _ => ?_⟩
  · unfold Rd.done; rw [if_pos (by rw [e]; omega), e]
  · unfold Rd.left; rw [if_pos (by rw [e]; omega)]
theorem cat3 (S ml : List UInt8) : Value.string ((⟨S.toArray⟩ : ByteArray) ++ ⟨#[120]⟩ ++ ⟨ml.toArray⟩) = str (S ++ 120 :: ml) := by
  have e : (⟨S.toArray⟩ : ByteArray) ++ ⟨#[120]⟩ ++ ⟨ml.toArray⟩ = ⟨(S ++ 120 :: ml).toArray⟩ := by
    apply ByteArray.ext
    simp
  rw [e]
/-- a row of strings -/
def TBlk (w : World) (o : Nat → Nat) (g : Nat) (TL : List (List UInt8)) : Prop := (∃ cur, w.heap[g]? = some (.cells cur 9 (0, 0)) ∧ cur.toList.take TL.length = TL.map str) ∧ o g = 9
theorem TBlk.lt {w : World} {o : Nat → Nat} {g : Nat} {TL : List (List UInt8)} (h : TBlk w o g TL) : g < w.heap.size := by
  obtain ⟨⟨cur, h1, _⟩, _⟩ := h
  exact (Array.getElem?_eq_some_iff.1 h1).1
theorem TBlk.ch {w w' : World} {o o' : Nat → Nat} {P : Nat → Prop} {g : Nat} {TL : List (List UInt8)} (h : TBlk w o g TL) (hc : Ch P o o' w w') (hp : ¬ P 9) : TBlk w' o' g TL := by
  have hl := h.lt
  obtain ⟨⟨cur, h1, h2⟩, h3⟩ := h
  exact ⟨⟨cur, (hc.mods.block g hl (by rw [h3]; exact hp)).trans h1, h2⟩, by rw [hc.keep g hl]; exact h3⟩
theorem TBlk.cell {w : World} {o : Nat → Nat} {g : Nat} {TL : List (List UInt8)} (h : TBlk w o g TL) (k : Nat) (hk : k < TL.length) : w.cell? ⟨g, k, none⟩ = some (str (TL[k]'hk)) := by
  obtain ⟨⟨cur, h1, h2⟩, h3⟩ := h
  have e : cur[k]? = some (str (TL[k]'hk)) := by
    have h4 := congrArg (·[k]?) h2
    simp only [List.getElem?_take, if_pos hk, List.getElem?_map, List.getElem?_eq_getElem hk] at h4
    simpa using h4
  simp [World.cell?, h1, e]
theorem want_cell {k : Nat} (h : k < 3) : [Value.int .i64 0, .int .i64 13, .int .i64 12][k]? = some (.int .i64 (if k = 0 then 0 else if k = 1 then 13 else 12)) := by
  rcases (by omega : k = 0 ∨ k = 1 ∨ k = 2) with rfl | rfl | rfl <;> rfl
set_option maxRecDepth 100000 in
set_option maxHeartbeats 8000000 in
theorem back_any {w : World} {A1 : Option Addr} {c1 : Nat} {ops : List OpC} (s2 : ByteArray) (h1 : OpsIn w w.heap.size A1 ops) (h2 : s2.size ≤ 9223372036854775807) (hG : Glob w) :
    Calls Tryd.prog 7 #[.slice A1 ops.length c1, .string s2] w fun e w' => e = .returned (.bool true) ∧ Below w.heap.size w w' := by
  obtain ⟨ml, rfl⟩ : ∃ l : List UInt8, s2 = ⟨l.toArray⟩ := ⟨s2.data.toList, by simp⟩
  have hms := size_l ml
  rw [hms] at h2
  have H1 := Hid.mk_ h1
  have HG := Hid.mk_ hG
  have hol := h1.len
  have HA0 := Hid.mk_ (add_any (ml.length : Int) 1 (by omega) (by omega) (by omega) (by omega))
  have hr0 := addV_range (n := (ml.length : Int)) (m := 1) (by omega) (by omega)
  have HN0 : Hid (addV (ml.length : Int) 1 ≤ 2147483647 → addV (ml.length : Int) 1 = (ml.length : Int) + 1) := fun h => by
    unfold addV at h ⊢
    by_cases h9 : (2147483647 : Int) - ml.length < 1
    · rw [if_pos h9] at h; omega
    · rw [if_neg h9]
  obtain ⟨N0, hN0e⟩ : ∃ N, N = addV (ml.length : Int) 1 := ⟨_, rfl⟩
  rw [← hN0e] at HA0 hr0 HN0
  clear h1 hG hN0e
  go_enter Tryd.func7, Tryd.ntmps7
  go_upto_region 3 with (go_at_call 18; (with_reducible refine (HA0.out _).mono ?_); rintro e w' ⟨rfl, rfl⟩)
  go_loopw [5, 6] (fun x5 x6 wr => ∃ (k m : Nat) (N : Int), k ≤ ops.length ∧ x6 = .int .i64 (k : Int) ∧ x5 = .int .i64 N ∧ 0 ≤ N ∧ N ≤ 2147483648 ∧ Hid (N ≤ 2147483647 → N = (ml.length : Int) + 1 + (tot2 (ops.take k) : Int)) ∧ wr = w.drewN m) (fun _ x6 _ => ops.length - (intOf x6).toNat)
  case atStart => exact ⟨0, 0, N0, Nat.zero_le _, rfl, rfl, hr0.1, hr0.2, Hid.mk_ (fun h => by have := HN0.out h; simpa [tot2] using this), rfl⟩
  case round =>
    obtain ⟨k, m, N, hk, rfl, rfl, hN0, hN1, HN, rfl⟩ := hrel
    by_cases hlt : k < ops.length ∧ N ≤ 2147483647
    · obtain ⟨hlt, hNb⟩ := hlt
      have hlt1 : (k : Int) < ops.length := by omega
      obtain ⟨g, p, rfl, hg, hc⟩ := H1.out.at_ (by omega)
      obtain ⟨_, _, _, _, c4⟩ := hc k hlt
      have hok := H1.out.each _ (List.getElem_mem hlt)
      have hol2 := hok.len
      have ht := tot2_take ops k hlt
      obtain ⟨l, hl⟩ : ∃ l, l = (ops[k]'hlt).s := ⟨_, rfl⟩
      rw [← hl] at c4 hol2 ht
      have hst := cap_step2 (l := (l.length : Int)) hN0 hNb (by omega)
      have hr1 := addV_range (n := N) (m := 100) hN0 (by omega)
      have hr2 := addV_range (n := (l.length : Int)) (m := (l.length : Int)) (by omega) (by omega)
      have HA1 := Hid.mk_ (fun q => quietly2 m q (add_any N 100 hN0 (by omega) (by omega) (by omega) (w.drewN (m + q))))
      have HA2 := Hid.mk_ (fun q => quietly2 m q (add_any (l.length : Int) (l.length : Int) (by omega) (by omega) (by omega) (by omega) (w.drewN (m + q))))
      have HA3 := Hid.mk_ (fun q => quietly2 m q (add_any (addV N 100) (addV (l.length : Int) (l.length : Int)) hr1.1 (by omega) (by omega) (by omega) (w.drewN (m + q))))
      rw [hst] at HA3
      have hcap : 0 ≤ capT (N + 100 + 2 * l.length) ∧ capT (N + 100 + 2 * l.length) ≤ 2147483648 := by unfold capT; split <;> omega
      have HT : Hid (capT (N + 100 + 2 * l.length) ≤ 2147483647 → capT (N + 100 + 2 * l.length) = (ml.length : Int) + 1 + (tot2 (ops.take (k + 1)) : Int)) := fun h => by
        have e := HN.out hNb
        unfold capT at h ⊢
        split
        · rw [ht]; omega
        · rename_i h2; rw [if_neg h2] at h; omega
      obtain ⟨a, ha⟩ : ∃ a, a = addV N 100 := ⟨_, rfl⟩
      obtain ⟨a2, ha2⟩ : ∃ a, a = addV (l.length : Int) (l.length : Int) := ⟨_, rfl⟩
      obtain ⟨d, hd⟩ : ∃ d, d = capT (N + 100 + 2 * l.length) := ⟨_, rfl⟩
      rw [← ha] at HA1 HA3
      rw [← ha2] at HA2 HA3
      rw [← hd] at HA3 hcap HT
      clear ha hd hl ht hst hc hok hr1 hr2 ha2
      go_wp2_with fail
      go_big_quiet ((first
        | (go_at_call 18; with_reducible exact HA1.out _)
        | (go_at_call 18; with_reducible exact HA2.out _)
        | (go_at_call 18; with_reducible exact HA3.out _)))
      go_wp2_with fail
      refine ⟨⟨k + 1, _, d, by omega, by go_num, rfl, hcap.1, hcap.2, HT, rfl⟩, by simp [intOf]; omega⟩
    · by_cases hNb : N ≤ 2147483647
      · have hke : k = ops.length := by omega
        subst hke
        have hNt := HN.out hNb
        rw [List.take_length] at hNt
        have hlt1 : ¬ ((ops.length : Nat) : Int) < ops.length := by omega
        have hNb1 : ¬ 2147483647 < N := by omega
        obtain ⟨L, hL⟩ : ∃ L, L = ops.map itemOf := ⟨_, rfl⟩
        have hLl : L.length = ops.length := by rw [hL, List.length_map]
        have hLok : ∀ x ∈ L, x.ok := fun x hx => by
          rw [hL] at hx
          obtain ⟨y, hy, rfl⟩ := List.mem_map.1 hx
          exact itemOf_ok (H1.out.each y hy)
        have hLen := encs_len ops
        rw [← hL] at hLen
        have HLG : Hid (∀ k (h : k < ops.length) (h2 : k < L.length), itemOf (ops[k]'h) = L[k]'h2) := fun k h h2 => by subst hL; rw [List.getElem_map]
        have HLL := Hid.mk_ hLl
        have HLO := Hid.mk_ hLok
        have HLE := Hid.mk_ (show (encs L).length + ml.length + 1 ≤ 2147483647 by omega)
        have HSZ : Hid (∀ k (h : k < ops.length), (ops[k]'h).s.length ≤ 2147483647) := fun k h => by have := tot2_mem h; omega
        obtain ⟨oz, hoz⟩ : ∃ o : Nat → Nat, o = fun _ => 0 := ⟨_, rfl⟩
        have S0 := Hid.mk_ (Sys.start HG.out)
        rw [← hoz] at S0
        have S1 := Hid.mk_ (S0.out.new (Drawn_below w m))
        have HA := Hid.mk_ (awake_any S1.out.glob)
        clear hoz hL hLl hLok hLen hNt HN
        go_upto_region 9 with (go_at_call 9; (with_reducible refine HA.out.mono ?_); rintro e w2 ⟨rfl, hb⟩; have HB2 := Hid.mk_ hb; clear hb)
        have S2 := Hid.mk_ (S1.out.new HB2.out)
        have hn1 := wnew_st (2147483647 : Int) (show i64 _ from ⟨by omega, by omega⟩) S2.out.glob oz 2
        rw [show max (2147483647 : Int) 0 = 2147483647 by decide] at hn1
        have HN1 := Hid.mk_ hn1
        clear hn1
        go_upto_region 10 with (go_at_call 13; (with_reducible refine HN1.out.mono ?_); rintro e w3 ⟨b2, rfl, hx2, hm2⟩; have S3 := Hid.mk_ (S2.out.step (i := 2) (by omega) hm2); have HX2 := Hid.mk_ hx2; clear hx2 hm2)
        obtain ⟨o3, ho3⟩ : ∃ o, o = upd oz w2.heap.size 2 := ⟨_, rfl⟩
        rw [← ho3] at S3 HX2
        clear ho3 HN1 HA S0 S1 S2
        go_wp2_with fail
        go_loopw [9] (fun x9 wr => ∃ (k : Nat) (o : Nat → Nat), k ≤ ops.length ∧ x9 = .int .i64 (k : Int) ∧ Hid (Sys w wr o) ∧ Hid (WSt wr o 2 b2 ((L.take k).foldl (fun W x => x.put W) ⟨2147483647, [], 0⟩))) (fun x9 _ => ops.length - (intOf x9).toNat)
        case atStart => exact ⟨0, o3, Nat.zero_le _, rfl, S3, HX2⟩
        case round =>
          obtain ⟨k, o, hk, rfl, HSY, HW⟩ := hrel
          by_cases hlt : k < ops.length
          · have hlt1 : (k : Int) < ops.length := by omega
            have hin := H1.out.new HSY.out.below
            obtain ⟨g, p, rfl, hg, hc⟩ := hin.at_ (by omega)
            obtain ⟨d0, d1, d2, d3, d4⟩ := hc k hlt
            have hok := hin.each _ (List.getElem_mem hlt)
            have hpt := put_take HLO.out 2147483647 (by have := HLE.out; omega) k (by have := HLL.out; omega)
            have hsz := HSZ.out k hlt
            have hit := HLG.out k hlt (by have := HLL.out; omega)
            obtain ⟨W, hW⟩ : ∃ W, W = (L.take k).foldl (fun W x => x.put W) (⟨2147483647, [], 0⟩ : Wr) := ⟨_, rfl⟩
            have hnext : (L.take (k + 1)).foldl (fun W x => x.put W) (⟨2147483647, [], 0⟩ : Wr) = (L[k]'(by have := HLL.out; omega)).put W := by
              rw [List.take_succ_eq_append_getElem (by have := HLL.out; omega), List.foldl_append, ← hW]; rfl
            rw [← hW] at HW hpt
            have hWl : W.l.length ≤ 2147483647 := by
              rw [hpt]
              have h5 : (encs L).length = (encs (L.take k)).length + (encs (L.drop k)).length := by
                conv => lhs; rw [← List.take_append_drop k L, encs_append, List.length_append]
              have := HLE.out
              show (encs (L.take k)).length ≤ _
              omega
            have hst := puts_st HW.out (by omega) hok (by omega)
            rw [hit] at hst
            rw [← hnext] at hst
            have HST := Hid.mk_ hst
            obtain ⟨op, hop⟩ : ∃ op, op = ops[k]'hlt := ⟨_, rfl⟩
            rw [← hop] at d0 d1 d2 d3 d4 HST
            obtain ⟨kd, on, sz, n, s⟩ := op
            unfold OpC.agg at HST
            simp only at d0 d1 d2 d3 d4 HST
            clear hst hok hop hc hin hnext hWl hpt hit hsz hW
            go_wp2_with (go_at_call 26; (with_reducible refine HST.out.mono ?_); rintro e w5 ⟨rfl, o5, hch, hw⟩; have HW5 := Hid.mk_ hw; have S5 := Hid.mk_ (HSY.out.ch hch (by omega)); clear hch hw)
            exact ⟨⟨k + 1, o5, by omega, by go_num, S5, HW5⟩, by simp [intOf]; omega⟩
          · have hke : k = ops.length := by omega
            subst hke
            have hlt1 : ¬ ((ops.length : Nat) : Int) < ops.length := by omega
            have hpt := put_take HLO.out 2147483647 (by have := HLE.out; omega) ops.length (by have := HLL.out; omega)
            rw [List.take_of_length_le (by have := HLL.out; omega)] at hpt
            rw [List.take_of_length_le (by have := HLL.out; omega), hpt] at HW
            have hwd := wdone_st HSY.out.glob HW.out
            have hWD : (⟨2147483647 - (encs L).length, encs L, 0⟩ : Wr).done = (encs L, 0) := by unfold Wr.done; rw [if_neg (by simp)]
            unfold WDone at hwd
            rw [hWD] at hwd
            have T0 := Hid.mk_ (txt0 HLO.out)
            have T1 := Hid.mk_ (txt1 HLO.out 120 ml)
            have T2 := Hid.mk_ (txt2 HLO.out)
            obtain ⟨S, hS⟩ : ∃ S, S = encs L := ⟨_, rfl⟩
            rw [← hS] at hwd T0 T1 T2 HLE
            have HWN := Hid.mk_ hwd
            clear hwd hWD hpt hS
            go_upto_region 19 with (go_at_call 27; (with_reducible refine HWN.out.mono ?_); rintro e w7 ⟨rfl, hw7, hm7⟩; have S7 := Hid.mk_ (HSY.out.step (i := 2) (by omega) hm7); clear hw7 hm7)
            obtain ⟨o7, ho7⟩ : ∃ o', o' = upd o wr.heap.size 2 := ⟨_, rfl⟩
            rw [← ho7] at S7
            clear ho7 HWN HW HSY
            have hk1 : ¬ 9223372036854775807 < S.length + 1 := by have := HLE.out; omega
            have hk2 : ¬ 9223372036854775807 < S.length + 1 + ml.length := by have := HLE.out; omega
            go_upto_region 21 with fail
            rw [cat3 S ml]
            obtain ⟨w9, hw9⟩ : ∃ w9, w9 = (w7.alloc (.cells #[str S, str (S ++ 120 :: ml)] 9)).alloc (.cells #[.int .i64 0, .int .i64 13, .int .i64 12] 50) := ⟨_, rfl⟩
            rw [← hw9]
            obtain ⟨w8, hw8⟩ : ∃ w8, w8 = w7.alloc (.cells #[str S, str (S ++ 120 :: ml)] 9) := ⟨_, rfl⟩
            rw [← hw8] at hw9
            obtain ⟨g1, hg1⟩ : ∃ g, g = w7.heap.size := ⟨_, rfl⟩
            obtain ⟨gW, hgW⟩ : ∃ g, g = g1 + 1 := ⟨_, rfl⟩
            have hb8 : Below w7.heap.size w7 w8 := by rw [hw8]; exact (Below.refl _ _).alloc (Nat.le_refl _) _
            have hs8 : w8.heap.size = w7.heap.size + 1 := by rw [hw8]; simp
            have hb9 : Below w7.heap.size w7 w9 := by rw [hw9]; exact hb8.alloc (by omega) _
            have hkT : Blk w8 g1 [str S, str (S ++ 120 :: ml)] 9 := by rw [hw8, hg1]; exact Blk.new w7 _ 9
            have hkT9 : Blk w9 g1 [str S, str (S ++ 120 :: ml)] 9 := by rw [hw9]; exact hkT.alloc _
            have hkW : Blk w9 gW [.int .i64 0, .int .i64 13, .int .i64 12] 50 := by rw [hw9, hgW, hg1, ← hs8]; exact Blk.new w8 _ 50
            rw [← hg1, ← hgW]
            have HB9 := Hid.mk_ hb9
            have HKT := Hid.mk_ hkT9
            have HKW := Hid.mk_ hkW
            have hG1 : w7.heap.size ≤ g1 := by omega
            have hGW : w7.heap.size ≤ gW := by omega
            have HGN := Hid.mk_ (show g1 ≠ gW by omega)
            have HG1 := Hid.mk_ hG1
            have HGW := Hid.mk_ hGW
            clear hw8 hw9 hg1 hgW hb8 hs8 hb9 hkT hkT9 hkW hG1 hGW hk1 hk2
            go_upto_if 84 with fail
            obtain ⟨be, hbe⟩ : ∃ be, be = !S.isEmpty := ⟨_, rfl⟩
            rw [← hbe]
            have HBE := Hid.mk_ hbe
            clear hbe
            go_cut [12] from 85 to 92 (fun x12 wc => ∃ (TL : List (List UInt8)) (g cap : Nat) (o : Nat → Nat), x12 = .slice (some ⟨g, 0, none⟩) TL.length cap ∧ TL.length ≤ 3 ∧ Hid (Sys w wc o) ∧ Hid (TBlk wc o g TL) ∧ Hid (PBlk wc o gW [.int .i64 0, .int .i64 13, .int .i64 12] 50) ∧ Hid (∀ k (h : k < TL.length), (TL[k]'h).length ≤ 2147483648 ∧ Txt L k (TL[k]'h) (if k = 0 then 0 else if k = 1 then 13 else 12)))
            case first =>
              cases be with
              | false =>
                go_wp2_with fail
                go_meet
                refine ⟨[S, S ++ 120 :: ml], g1, 2, upd o7 w7.heap.size 9, rfl, by simp, Hid.mk_ ?_, Hid.mk_ ⟨⟨_, HKT.out, rfl⟩, upd_new HG1.out⟩, Hid.mk_ ⟨HKW.out, upd_new HGW.out⟩, Hid.mk_ ?_⟩
                · exact S7.out.ch (Ch.fresh (fun _ => False) 9 HB9.out) id
                · intro k hk
                  have := HLE.out
                  match k, hk with
                  | 0, _ => exact ⟨by simp only [List.getElem_cons_zero]; omega, T0.out⟩
                  | 1, _ => exact ⟨by simp only [List.getElem_cons_succ, List.getElem_cons_zero, List.length_append, List.length_cons]; omega, T1.out⟩
              | true =>
                have hS0 : S ≠ [] := by have := HBE.out; intro e; rw [e] at this; simp at this
                have hp : 0 < S.length := List.length_pos_iff.2 hS0
                have hsz := size_l S
                have hext : (⟨S.toArray⟩ : ByteArray).extract 0 (S.length - 1) = ⟨S.dropLast.toArray⟩ := by rw [extract_to, List.dropLast_eq_take]
                have hsub : ((S.length : Int) - 1).toNat = S.length - 1 := by omega
                have hs0 : 0 ≤ (S.length : Int) - 1 := by omega
                have hs1 : (S.length : Int) - 1 ≤ (S.length : Int) := by omega
                have hsl : S.length ≤ 2147483647 := by have := HLE.out; omega
                have hsw : IntKind.i64.wrap ((S.length : Int) - 1) = (S.length : Int) - 1 := by rw [IntKind.wrap_i64]; omega
                have OWN : Hid (w9.ownsRow w7.heap.size 9 1 (.slice (some ⟨g1, 0, none⟩) 2 2) 2 [str S, str (S ++ 120 :: ml)]) := ⟨rfl, .inr ⟨g1, 2, _, rfl, HG1.out, HKT.out, by omega, by unfold maxLen; omega, rfl, rfl⟩⟩
                obtain ⟨i9, hi9, hz0, hz1, hz2⟩ := info_parts (P := Tryd.prog) (e := 9) (z := .string ByteArray.empty) (size := 1) (bytes := 16) (by kernel_rfl)
                have HSZ9 := Hid.mk_ HB9.out.size
                go_upto_region 22 with fail
                go_wp2_with (at_builtin; (refine wpList_append_own _ rfl _ _ 59 rfl w7.heap.size 9 i9 (.string ByteArray.empty) 1 16 Tryd.underlying59 hi9 hz0 hz1 hz2 rfl (by decide) (.slice (some ⟨g1, 0, none⟩) 2 2) 2 [str S, str (S ++ 120 :: ml)] rfl (OWN.out.alloc _) ⟨w9.heap.size, 0, none⟩ 1 1 [str S.dropLast] rfl rfl (one_cells_at w9 _ _ rfl) (fun x hx => by simp at hx; subst hx; rfl) (by unfold maxLen; omega) (by omega) (by have := HSZ9.out; simp; omega) ?_); intro v' w3 hown' hgrow3 hnil3; have HOW := Hid.mk_ hown'; have HGR := Hid.mk_ hgrow3; clear hown' hgrow3 hnil3)
                go_meet
                obtain ⟨_, hv | ⟨g3, cap3, cur3, hv3, hg3, hh3, _, _, _, ht3⟩⟩ := HOW.out
                · exact absurd hv.2 (by omega)
                subst hv3
                have hb3 : Below w7.heap.size w7 w3 := Below.grown (HB9.out.alloc HSZ9.out _) HGR.out (by simp; have := HSZ9.out; omega) (fun k hk => by simp [Value.ownBlock] at hk; subst hk; exact HG1.out)
                have hkW3 : Blk w3 gW [.int .i64 0, .int .i64 13, .int .i64 12] 50 := (HKW.out.alloc _).grown HGR.out (by simp [Value.ownBlock]; exact fun e => HGN.out e.symm)
                refine ⟨[S, S ++ 120 :: ml, S.dropLast], g3, cap3, upd o7 w7.heap.size 9, rfl, by simp, Hid.mk_ ?_, Hid.mk_ ⟨⟨_, hh3, by simpa using ht3⟩, upd_new hg3⟩, Hid.mk_ ⟨hkW3, upd_new HGW.out⟩, Hid.mk_ ?_⟩
                · exact S7.out.ch (Ch.fresh (fun _ => False) 9 hb3) id
                · intro k hk
                  have := HLE.out
                  match k, hk with
                  | 0, _ => exact ⟨by simp only [List.getElem_cons_zero]; omega, T0.out⟩
                  | 1, _ => exact ⟨by simp only [List.getElem_cons_succ, List.getElem_cons_zero, List.length_append, List.length_cons]; omega, T1.out⟩
                  | 2, _ => exact ⟨by simp only [List.getElem_cons_succ, List.getElem_cons_zero, List.length_dropLast]; omega, T2.out hS0⟩
            case rest =>
              obtain ⟨TL, gT, cap, oc, rfl, hTL, SC, TC, PC, XC⟩ := hcut
              go_wp2_with fail
              go_loopw [14] (fun x14 wr => ∃ (k : Nat) (o : Nat → Nat), k ≤ TL.length ∧ x14 = .int .i64 (k : Int) ∧ Hid (Sys w wr o) ∧ Hid (TBlk wr o gT TL) ∧ Hid (PBlk wr o gW [.int .i64 0, .int .i64 13, .int .i64 12] 50)) (fun x14 _ => TL.length - (intOf x14).toNat)
              case atStart => exact ⟨0, oc, Nat.zero_le _, rfl, SC, TC, PC⟩
              case round =>
                obtain ⟨k, o, hk, rfl, HSY, HT, HP⟩ := hrel
                by_cases hlt : k < TL.length
                · have hlt1 : (k : Int) < TL.length := by omega
                  have v1 := HT.out.cell k hlt
                  have hgl := HT.out.lt
                  obtain ⟨hTlen, hX⟩ := XC.out k hlt
                  obtain ⟨T, hTe⟩ : ∃ T, T = TL[k]'hlt := ⟨_, rfl⟩
                  obtain ⟨d, hde⟩ : ∃ d : Int, d = (if k = 0 then 0 else if k = 1 then 13 else 12) := ⟨_, rfl⟩
                  rw [← hTe] at v1 hTlen hX
                  rw [← hde] at hX
                  have HN1 := Hid.mk_ (rnew_st T (by omega) HSY.out.glob o 3)
                  have HX := Hid.mk_ hX
                  have HDE := Hid.mk_ hde
                  clear hX hTe hde
                  go_upto_region 27 with (go_at_call 19; (with_reducible refine HN1.out.mono ?_); rintro e w3 ⟨b3, rfl, hx3, hm3⟩; have S3 := Hid.mk_ (HSY.out.step (i := 3) (by omega) hm3); have T3 := Hid.mk_ (HT.out.ch (Ch.one hm3) (by omega)); have P3 := Hid.mk_ (HP.out.ch (Ch.one hm3) (by omega)); have HX3 := Hid.mk_ hx3; clear hx3 hm3)
                  obtain ⟨o3, ho3⟩ : ∃ o', o' = upd o wr.heap.size 3 := ⟨_, rfl⟩
                  rw [← ho3] at S3 T3 P3 HX3
                  clear ho3 HN1 v1 hgl
                  go_wp2_with fail
                  go_loopw [16] (fun x16 wr => ∃ (j : Nat) (o : Nat → Nat), j ≤ ops.length ∧ x16 = .int .i64 (j : Int) ∧ Hid (Sys w wr o) ∧ Hid (TBlk wr o gT TL) ∧ Hid (PBlk wr o gW [.int .i64 0, .int .i64 13, .int .i64 12] 50) ∧ Hid (RSt wr o 3 b3 (getAll ⟨T, 0⟩ (L.take j)))) (fun x16 _ => ops.length - (intOf x16).toNat)
                  case atStart => exact ⟨0, o3, Nat.zero_le _, rfl, S3, T3, P3, HX3⟩
                  case round =>
                    obtain ⟨j, o4, hj, rfl, S4, T4, P4, HR4⟩ := hrel
                    by_cases hlj : j < ops.length
                    · have hlj1 : (j : Int) < ops.length := by omega
                      have hjL : j < L.length := by have := HLL.out; omega
                      have hin := H1.out.new S4.out.below
                      obtain ⟨g, p, rfl, hg, hc⟩ := hin.at_ (by omega)
                      obtain ⟨d0, d1, d2, d3, d4⟩ := hc j hlj
                      have hok := hin.each _ (List.getElem_mem hlj)
                      have hsz := HSZ.out j hlj
                      have hst := gets_st HR4.out (by omega) hok (by omega)
                      rw [HLG.out j hlj hjL] at hst
                      have hgt : (L[j]'hjL).get (getAll ⟨T, 0⟩ (L.take j)) = (((L[j]'hjL).get (getAll ⟨T, 0⟩ (L.take j))).1, getAll ⟨T, 0⟩ (L.take (j + 1))) := by rw [getAll_take _ _ _ hjL]
                      have hvk := fun h2 => HX.out.is h2 j hjL
                      rw [hgt] at hst
                      obtain ⟨v, hv⟩ : ∃ v, v = ((L[j]'hjL).get (getAll ⟨T, 0⟩ (L.take j))).1 := ⟨_, rfl⟩
                      rw [← hv] at hst hvk
                      have HST := Hid.mk_ hst
                      obtain ⟨op, hop⟩ : ∃ op, op = ops[j]'hlj := ⟨_, rfl⟩
                      rw [← hop] at d0 d1 d2 d3 d4 HST
                      obtain ⟨kd, on, sz, n, s⟩ := op
                      unfold OpC.agg at HST
                      simp only at d0 d1 d2 d3 d4 HST
                      have HVK := Hid.mk_ hvk
                      clear hst hok hop hc hin hgt hsz hv hvk
                      go_upto_region 33 with (go_at_call 28; (with_reducible refine HST.out.mono ?_); rintro e w5 ⟨rfl, o5, hch, hr⟩; have HR5 := Hid.mk_ hr; have S5 := Hid.mk_ (S4.out.ch hch (by omega)); have T5 := Hid.mk_ (T4.out.ch hch (by omega)); have P5 := Hid.mk_ (P4.out.ch hch (by omega)); clear hch hr)
                      cases v with
                      | true =>
                        go_wp2_with fail
                        exact ⟨⟨j + 1, o5, by omega, by go_num, S5, T5, P5, HR5⟩, by simp [intOf]; omega⟩
                      | false =>
                        have hk2 : ¬ (k : Int) < 2 := fun h => by have := HVK.out (by omega); simp at this
                        go_wp2_with fail
                        exact ⟨⟨j + 1, o5, by omega, by go_num, S5, T5, P5, HR5⟩, by simp [intOf]; omega⟩
                    · have hje : j = ops.length := by omega
                      subst hje
                      have hlj1 : ¬ ((ops.length : Nat) : Int) < ops.length := by omega
                      rw [List.take_of_length_le (by have := HLL.out; omega)] at HR4
                      have hdn := HX.out.done
                      have hlf := HX.out.left
                      obtain ⟨r, hr⟩ : ∃ r, r = getAll ⟨T, 0⟩ L := ⟨_, rfl⟩
                      rw [← hr] at HR4 hdn hlf
                      have vW : wr.cell? ⟨gW, k, none⟩ = some (.int .i64 d) := by rw [P4.out.1.cell k, HDE.out]; exact want_cell (by omega)
                      have hPL := P4.out.1.lt
                      have HQ : Hid (∀ W, Below wr.heap.size wr W → (Calls Tryd.prog 24 #[.pointer (some ⟨b3, 0, none⟩)] W fun e w' => e = .returned (.int .i64 d) ∧ w'.cell? ⟨gW, k, none⟩ = some (.int .i64 d) ∧ Below wr.heap.size wr w') ∧ (k = 2 → Calls Tryd.prog 22 #[.pointer (some ⟨b3, 0, none⟩)] W fun e w' => e = .returned (.int .i64 0) ∧ w'.cell? ⟨gW, k, none⟩ = some (.int .i64 d) ∧ Below wr.heap.size wr w')) := fun W hW => by
                        refine ⟨(rdone_val (S4.out.glob.new hW) (HR4.out.new hW) hdn).mono fun e w' ⟨a1, a2⟩ => ?_, fun h2 => (rleft_val (HR4.out.new hW) (hlf h2)).mono fun e w' ⟨a1, a2⟩ => ?_⟩
                        · have hb := hW.trans (a2.mono hW.size)
                          exact ⟨a1, (hb.cell hPL).trans vW, hb⟩
                        · subst a2
                          exact ⟨a1, (hW.cell hPL).trans vW, hW⟩
                      have hbd : Below wr.heap.size wr wr.drew := Below.drew (Below.refl _ wr)
                      have hvd : wr.drew.cell? ⟨gW, k, none⟩ = some (.int .i64 d) := vW
                      have t1 : (d != d) = false := by simp
                      have t2 : (!(d == d)) = false := by simp
                      have t3 : (decide (¬ d = d)) = false := by simp
                      have hk3 : k < 3 := by omega
                      have hk3i : (k : Int) < 3 := by omega
                      have HEND : Hid (∀ w2, Below wr.heap.size wr w2 → Hid (Sys w w2 o4) ∧ Hid (TBlk w2 o4 gT TL) ∧ Hid (PBlk w2 o4 gW [.int .i64 0, .int .i64 13, .int .i64 12] 50)) := fun w2 hb =>
                        ⟨S4.out.new hb, T4.out.ch (Ch.quiet (fun _ => False) hb) id, P4.out.ch (Ch.quiet (fun _ => False) hb) id⟩
                      clear hdn hlf hr HX HDE hPL
                      by_cases hk2 : k = 2
                      · have e1 : ((k : Int) == 2) = true := by simp; omega
                        have e2 : decide ((k : Int) = 2) = true := by simp; omega
                        have e3 : decide (k = 2) = true := by simp; omega
                        have HK2 := Hid.mk_ hk2
                        clear hk2
                        go_wp2_with fail
                        go_region_held3 (fun w' => w'.cell? ⟨gW, k, none⟩ = some (.int .i64 d) ∧ Below wr.heap.size wr w') (first | exact ⟨hvd, hbd⟩ | assumption)
                          (first
                            | (go_at_call 24; (with_reducible refine (HQ.out _ (by assumption)).1.mono ?_); rintro e w2 ⟨rfl, hS⟩)
                            | (go_at_call 22; (with_reducible refine ((HQ.out _ (by first | exact hS.2 | assumption)).2 HK2.out).mono ?_); rintro e w2 ⟨rfl, hS⟩))
                        all_goals go_wp2_with fail
                        all_goals exact ⟨⟨k + 1, o4, by omega, by go_num, HEND.out _ (And.right (by assumption))⟩, by simp [intOf]; omega⟩
                      · have e1 : ((k : Int) == 2) = false := by simp; omega
                        have e2 : decide ((k : Int) = 2) = false := by simp; omega
                        have e3 : ¬ (k : Int) = 2 := by omega
                        go_wp2_with fail
                        first
                          | (go_region_held (fun w' => w'.cell? ⟨gW, k, none⟩ = some (.int .i64 d) ∧ Below wr.heap.size wr w') (first | exact ⟨hvd, hbd⟩ | assumption)
                              (first
                                | (go_at_call 24; (with_reducible refine (HQ.out _ (by assumption)).1.mono ?_); rintro e w2 ⟨rfl, hS⟩)))
                          | fail
                        all_goals go_wp2_with fail
                        all_goals exact ⟨⟨k + 1, o4, by omega, by go_num, HEND.out _ (And.right (by assumption))⟩, by simp [intOf]; omega⟩
                · have hlt1 : ¬ (k : Int) < TL.length := by omega
                  go_wp2_with fail
                  go_ret
                  exact ⟨rfl, HSY.out.below⟩
      · by_cases hlt2 : k < ops.length
        · have hlt1 : (k : Int) < ops.length := by omega
          go_wp2_with fail
          go_ret
          exact ⟨rfl, Drawn_below _ _⟩
        · have hlt1 : ¬ (k : Int) < ops.length := by omega
          go_wp2_with fail
          go_ret
          exact ⟨rfl, Drawn_below _ _⟩
end Go.Proofs.YtdccgmfhnofabaaDoor
