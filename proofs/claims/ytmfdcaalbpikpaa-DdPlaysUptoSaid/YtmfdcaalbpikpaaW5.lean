/- An operation's cut: a diagram where a level's class is known. -/
import Derived.Test.YtmfdcaalbpikpaaW4
import Derived.Test.YtmfdcaalbpikpaaQ6
namespace Go.Proofs.Ytmfdcaalbpikpaa
open Go.RowKit Go.Maps
set_option linter.unusedVariables false
set_option linter.unusedSimpArgs false
def Knc (S : List Int) (M : Int) (lv cl : Int) (N : List Nd) (f g x : Int) : Prop := g = 0 ∧ cutT S M lv cl N f = (N, x, 0)
def CutPost (w : World) (b ab mk : Nat) (S : List Int) (M : Int) (z : List Nat) (lv cl : Int) (R : Out) (e : Ending) (w' : World) : Prop :=
  e = .returned (.int .i64 R.2.1) ∧ ∃ D', MemGrew w w' b ab mk R.2.2 S M R.1 z D' ∧ (R.2.2 = 0 → Knows D' R.1 (Knc S M lv cl R.1))
theorem knowc_mono {D : DataW Unit} {lv cl : Int} {S : List Int} {M : Int} {N N' : List Nd} (hL : 0 ≤ lv ∧ lv < S.length) (hC : 0 ≤ cl ∧ cl < S.getD lv.toNat 0) (hk : Knows D N (Knc S M lv cl N)) (h : Good S M N) (h' : Good S M N') (hp : N <+: N') : Knows D N' (Knc S M lv cl N') :=
  hk.mono hp fun f g x hf hg ⟨e, hk⟩ => ⟨e, by
    have := cutT_again (N2 := N') hL hC h hf (by rw [hk]) (by rw [hk]; exact hp) h'
    rw [hk] at this
    exact this⟩
/-- the numbers in the place of the first ones -/
def overI (ks o : List Int) : List Value := (ks ++ o.drop ks.length).map (Value.int .i64)
theorem overI_set {ks o : List Int} {r : Int} (h : ks.length < o.length) : (overI ks o).set ks.length (.int .i64 r) = overI (ks ++ [r]) o := by
  unfold overI
  rw [List.map_append, List.set_append_right _ _ (by simp), List.length_map, Nat.sub_self, List.drop_eq_getElem_cons h, List.map_cons, List.set_cons_zero, List.length_append, List.length_singleton, List.append_assoc, List.map_append]
  rfl
theorem overI_full {ks o : List Int} (h : ks.length = o.length) : overI ks o = ks.map (Value.int .i64) := by unfold overI; rw [h, List.drop_length, List.append_nil]
theorem overI_at {ks o : List Int} {k : Nat} (hk : ks.length = k) (h : k < o.length) : (overI ks o)[k]? = some (.int .i64 (o[k]'h)) := by
  subst hk
  unfold overI
  rw [List.map_append, List.getElem?_append_right (by simp), List.length_map, Nat.sub_self, List.drop_eq_getElem_cons h]
  rfl
/-- the state of a node that is built class by class, in the place of its own kids -/
structure RC (w wr : World) (b ab mk gk bn : Nat) (la : Int) (S : List Int) (M : Int) (z : List Nat) (step : List Nd → Nat → Out) (N : List Nd) (P : List Nd → Int → Int → Int → Prop) (o : List Int) (k : Nat) (Nk : List Nd) (ks : List Int) (zk : List Nat) (D : DataW Unit) : Prop where
  run : runK step N k = (Nk, ks, 0)
  mem : Mem wr b ab mk 0 S M Nk zk D
  kn : Knows D Nk (P Nk)
  row : Row wr 3 1 (.slice (some ⟨gk, 0, none⟩) o.length o.length) o.length (overI ks o)
  nb : Blk wr bn [.int .i64 la, .slice (some ⟨gk, 0, none⟩) o.length o.length] 55
  mods : Mods (· ∈ mzs b mk z) w wr
  zs : ∀ q ∈ zk, q ∈ z ∨ w.heap.size ≤ q
  gks : w.heap.size ≤ gk ∧ gk ∉ mzs b mk zk
  bns : w.heap.size ≤ bn ∧ bn ∉ mzs b mk zk
  ne : gk ≠ bn
  len : ks.length = k
  pre : N <+: Nk
theorem mzs_not {b mk B x : Nat} {zk z' : List Nat} (h1 : x ∉ mzs b mk zk) (h2 : ∀ q ∈ z', q ∈ zk ∨ B ≤ q) (hx : x < B) : x ∉ mzs b mk z' := fun hq => by
  simp only [mzs, List.mem_cons] at hq h1
  rcases hq with e | e | e
  · exact h1 (.inl e)
  · exact h1 (.inr (.inl e))
  · rcases h2 _ e with e2 | e2
    · exact h1 (.inr (.inr e2))
    · omega
theorem mzs_mods {w w6 w7 : World} {b mk : Nat} {z zk : List Nat} (h1 : Mods (· ∈ mzs b mk z) w w6) (h2 : Mods (· ∈ mzs b mk zk) w6 w7) (hz : ∀ q ∈ zk, q ∈ z ∨ w.heap.size ≤ q) : Mods (· ∈ mzs b mk z) w w7 :=
  h1.trans h2 (fun q hq hqz => by
    simp only [mzs, List.mem_cons] at hqz ⊢
    rcases hqz with e | e | e
    · exact .inl e
    · exact .inr (.inl e)
    · rcases hz _ e with e2 | e2
      · exact .inr (.inr e2)
      · omega)
theorem cell_far {w : World} {g k n j : Nat} {v r : Value} (h : ¬ n = g) (hc : w.cell? ⟨n, j, none⟩ = some v) : (w.setCell ⟨g, k, none⟩ r).cell? ⟨n, j, none⟩ = some v :=
  (World.cell?_of_block (a := ⟨n, j, none⟩) (Below.heap_setCell _ _ _ _ h)).trans hc
section
variable {b ab mk : Nat} {S : List Int} {M : Int}
set_option maxRecDepth 100000 in
set_option maxHeartbeats 8000000 in
theorem cut_any {lv : Int} {cl : Nat} (hL : 0 ≤ lv ∧ lv < S.length) (hC : 0 ≤ (cl : Int) ∧ (cl : Int) < S.getD lv.toNat 0) : ∀ (n : Nat) (w : World) (N : List Nd) (z : List Nat) (D : DataW Unit) (f : Int), Mem w b ab mk 0 S M N z D → Knows D N (Knc S M lv cl N) → hasA N f = true → (S.length : Int) - lvl S.length N f < n →
    Calls Try.prog 62 #[.pointer (some ⟨b, 0, none⟩), .int .i64 f, .int .i64 lv, .int .i64 (cl : Int)] w (CutPost w b ab mk S M z lv cl (cutT S M lv cl N f))
  | 0, w, N, z, D, f, h, hk, hf, hd => by have := lvl_le_n h.pa.good f; omega
  | n + 1, w, N, z, D, f, h, hk, hf, hd => by
    have HIH := Hid.mk_ (cut_any hL hC n)
    have hG := h.pa.good
    have HG := Hid.mk_ hG
    have x0 := h.c0
    have x1 := h.c1
    have hbl := h.blk.lt
    have HLV := Hid.mk_ (level_at h.pa f)
    obtain ⟨la, hla⟩ : ∃ la, la = lvl S.length N f := ⟨_, rfl⟩
    rw [← hla] at HLV hd
    obtain ⟨R, hR⟩ : ∃ R, R = cutT S M lv cl N f := ⟨_, rfl⟩
    rw [← hR]
    have HH := Hid.mk_ h
    have HK := Hid.mk_ hk
    have HF := Hid.mk_ hf
    have HLA := Hid.mk_ hla
    have HRR := Hid.mk_ hR
    have HLL := Hid.mk_ hL
    have HCC := Hid.mk_ hC
    have HD := Hid.mk_ hd
    have hla0 := lvl_nonneg hG f
    rw [← hla] at hla0
    have b1 := small hG hf
    have hMP := h.map
    have HMP := Hid.mk_ hMP
    by_cases h1 : lv < la
    · have e := cutT_over (M := M) (cl := cl) (by rw [← hla]; exact h1)
      have E := Hid.mk_ (hR.trans e)
      clear h hk hf hR hG hL hC hd hla e b1 hMP
      go_enter Try.func62, Try.ntmps62
      go_wp2_with (go_at_call 73; (with_reducible refine HLV.out.mono ?_); rintro e w' ⟨rfl, rfl⟩)
      go_ret
      rw [E.out]
      exact ⟨rfl, D, MemGrew.refl HH.out, fun _ => HK.out⟩
    · by_cases h2 : la = lv
      · have e := cutT_at (M := M) (cl := cl) (hla.symm.trans h2)
        rw [Int.toNat_natCast] at e
        have E := Hid.mk_ (hR.trans e)
        have hki := kid_any (n := cl) (l := lv) h hf (by omega) hL (by omega)
        rw [kid_own (hla.symm.trans h2)] at hki
        have HKI := Hid.mk_ hki
        subst h2
        clear h hk hf hR hG hL hC hd hla e b1 hMP hki
        go_enter Try.func62, Try.ntmps62
        go_wp2_with (first
          | (go_at_call 73; (with_reducible refine HLV.out.mono ?_); rintro e w' ⟨rfl, rfl⟩)
          | (go_at_call 74; (with_reducible refine HKI.out.mono ?_); rintro e w2 ⟨rfl, hb⟩))
        go_ret
        rw [E.out]
        exact ⟨rfl, D, ⟨z, HH.out.new hb, Mods.of_new hb, fun k hk => .inl hk⟩, fun _ => HK.out⟩
      · have hlt : la < lv := by omega
        have hkey : keyOf Try.prog 114 (.agg #[.int .i64 f, .int .i64 0]) = some (pk f 0) := keyOf_pv (by omega) (by omega)
        cases hh : has D (pk f 0) with
        | true =>
          obtain ⟨y, hat, hkn⟩ := hk.at_ hG hf (has01 (.inl rfl)) hh
          have E := Hid.mk_ (hR.trans hkn.2)
          have HAT := Hid.mk_ hat
          clear h hk hf hR hG hL hC hd hla b1 hMP hat hkn
          go_enter Try.func62, Try.ntmps62
          go_wp2_with (first
            | (go_at_call 73; (with_reducible refine HLV.out.mono ?_); rintro e w' ⟨rfl, rfl⟩)
            | (at_lookup; refine wpList_lookup_own_ok_int _ rfl _ _ 110 rfl 114 3 .i64 law114 Try.underlying110 Try.underlying3 (zeroI _) mk 67141636 D rfl HMP.out _ _ rfl hkey ?_; intro c9 hat9 hwc9))
          have hcx : c9 = y := by
            have h1 := HAT.out (.lit (.int .i64 0))
            rw [hat9] at h1
            simpa using h1
          subst hcx
          go_ret
          rw [E.out]
          exact ⟨rfl, D, MemGrew.refl HH.out, fun _ => HK.out⟩
        | false =>
          obtain ⟨l', o, ha⟩ := hG.spot hf (by omega)
          have e3 : l' = la := by have := ha.lv; omega
          subst e3
          have HAT := Hid.mk_ ha
          have HNO := Hid.mk_ (node_at h.pa ha)
          have hob : o.length ≤ 256 := by
            have e1 := ha.len.1
            have e2 := ha.l0
            have e3 := hG.toSized.at_ l'.toNat (by omega)
            rw [← getD_mem] at e3
            omega
          clear h hk hf hR hG hL hC hd hla b1 hMP ha
          go_enter Try.func62, Try.ntmps62
          go_upto_region 10 with (first
            | (go_at_call 73; (with_reducible refine HLV.out.mono ?_); rintro e w' ⟨rfl, rfl⟩)
            | (at_lookup; refine wpList_lookup_own_ok_int _ rfl _ _ 110 rfl 114 3 .i64 law114 Try.underlying110 Try.underlying3 (zeroI _) mk 67141636 D rfl HMP.out _ _ rfl hkey ?_; intro c9 hat9 hwc9)
            | (go_at_call 17; (with_reducible refine HNO.out.mono ?_); rintro e w2 ⟨v, rfl, ⟨gk, rfl, hgk, hrow⟩, hb⟩; have HB := Hid.mk_ hb; have HROW := Hid.mk_ hrow; clear hb hrow))
          obtain ⟨w3, hw3⟩ : ∃ w3, w3 = w2.alloc (.cells #[.int .i64 l', .slice (some ⟨gk, 0, none⟩) o.length o.length] 55) := ⟨_, rfl⟩
          obtain ⟨bn, hbn⟩ : ∃ bn, bn = w2.heap.size := ⟨_, rfl⟩
          rw [← hw3, ← hbn]
          have hs2 := HB.out.size
          have hgl := HROW.out.lt gk rfl
          have hb3 : Below w.heap.size w w3 := by rw [hw3]; exact HB.out.alloc hs2 _
          have hnb : Blk w3 bn [.int .i64 l', .slice (some ⟨gk, 0, none⟩) o.length o.length] 55 := by rw [hw3, hbn]; exact Blk.new w2 _ 55
          have hr3 : Row w3 3 1 (.slice (some ⟨gk, 0, none⟩) o.length o.length) o.length (overI [] o) := by rw [hw3]; exact HROW.out.alloc _
          obtain ⟨step, hstep⟩ : ∃ step : List Nd → Nat → Out, step = fun N' c => cutT S M lv cl N' ((ksOf N f).getD c 0) := ⟨_, rfl⟩
          have hkse := HAT.out.kse
          have hlae := HAT.out.lv
          have hll := HLL.out.2
          have hszt : (S.getD l'.toNat 0).toNat = o.length := HAT.out.len.1.symm
          have hst : Steps S M N l' o.length step := by
            have := cutT_steps (M := M) HLL.out HCC.out HG.out HF.out (by omega)
            rw [hlae, hszt] at this
            rw [hstep]; exact this
          have hbuild : R = build S M step N l' := by
            rw [HRR.out, cutT_build HLL.out HCC.out HG.out HF.out (by omega), hlae, hstep]
          have hkd : ∀ c (hc : c < o.length), ∀ N', N <+: N' → hasA N' (o[c]'hc) = true ∧ (S.length : Int) - lvl S.length N' (o[c]'hc) < n := fun c hc N' hp => by
            have := cut_kids (c := c) HG.out HF.out (by omega) (by rw [hlae, hszt]; exact hc) hp
            rw [hkse, getD_mem hc] at this
            exact ⟨this.1, by have := HD.out; omega⟩
          have hm0 : RC w w3 b ab mk gk bn l' S M z step N (Knc S M lv cl) o 0 N [] z D :=
            ⟨rfl, HH.out.new hb3, HK.out, hr3, hnb, Mods.of_new hb3, fun q hq => .inl hq, ⟨hgk, fun hq => by have := HH.out.zlt hq; omega⟩, ⟨by omega, fun hq => by have := HH.out.zlt hq; omega⟩, by omega, rfl, List.prefix_refl _⟩
          have p1 := hnb.cell 1
          have hbnl := hnb.lt
          have HM0 := Hid.mk_ hm0
          have HST := Hid.mk_ hst
          have HBU := Hid.mk_ hbuild
          have HKD := Hid.mk_ hkd
          have HSTEP := Hid.mk_ hstep
          have HSZT := Hid.mk_ hszt
          have HKSE := Hid.mk_ hkse
          clear hw3 hbn hs2 hgl hb3 hnb hr3 hst hbuild hkd hm0 hstep hszt hkse hlae hll hgk x0 x1 hbl
          go_wp2_with fail
          go_loopw [61] (fun x61 wr => ∃ (k : Nat) (Nk : List Nd) (ks : List Int) (zk : List Nat) (Dk : DataW Unit), k ≤ o.length ∧ x61 = .int .i64 (k : Int) ∧ Hid (RC w wr b ab mk gk bn l' S M z step N (Knc S M lv cl) o k Nk ks zk Dk)) (fun x61 _ => o.length - (intOf x61).toNat)
          case atStart => exact ⟨0, N, [], z, D, Nat.zero_le _, rfl, HM0⟩
          case round =>
            obtain ⟨k, Nk, ks, zk, Dk, hk, rfl, HR⟩ := hrel
            by_cases hlt : k < o.length
            · have hlt1 : (k : Int) < o.length := by omega
              have hcell : wr.cell? ⟨gk, k, none⟩ = some (.int .i64 (o[k]'hlt)) := by rw [HR.out.row.cell k (by omega)]; exact overI_at HR.out.len hlt
              have hgl := HR.out.row.lt gk rfl
              have n1 := HR.out.nb.cell 1
              have n1d : wr.drew.cell? ⟨bn, 1, none⟩ = some (.slice (some ⟨gk, 0, none⟩) o.length o.length) := n1
              have hnl := HR.out.nb.lt
              obtain ⟨y, hy⟩ : ∃ y, y = o[k]'hlt := ⟨_, rfl⟩
              have hdd := HKD.out k hlt Nk HR.out.pre
              have hsk : step Nk k = cutT S M lv cl Nk y := by rw [HSTEP.out]; show cutT S M lv cl Nk ((ksOf N f).getD k 0) = _; rw [HKSE.out, getD_mem hlt, hy]
              rw [← hy] at hdd hcell
              have hbd : Below wr.heap.size wr wr.drew := Below.drew (Below.refl _ wr)
              have hcut := HIH.out wr.drew Nk zk Dk y (HR.out.mem.new hbd) HR.out.kn hdd.1 hdd.2
              rw [← hsk] at hcut
              obtain ⟨T, hT⟩ : ∃ T, T = step Nk k := ⟨_, rfl⟩
              rw [← hT] at hcut
              have HT := Hid.mk_ hT
              have HCU := Hid.mk_ hcut
              obtain ⟨N7, r, er⟩ := T
              clear hdd hsk hy hcut hT hbd
              have hneb : ¬ bn = gk := fun e => HR.out.ne e.symm
              go_upto_region 13 with fail
              go_region_held3 (fun w' => w'.cell? ⟨bn, 1, none⟩ = some (.slice (some ⟨gk, 0, none⟩) o.length o.length)) (first | exact n1d | assumption | exact cell_far hneb (by assumption))
                (first
                  | (go_at_call 62; (with_reducible refine HCU.out.mono ?_); rintro e w7 ⟨rfl, D7, hgrew, hkn7⟩; obtain ⟨z7, hm7, hmo7, hz7⟩ := hgrew; have hS : w7.cell? ⟨bn, 1, none⟩ = some (.slice (some ⟨gk, 0, none⟩) o.length o.length) := (Blk.mods (Blk.drew HR.out.nb) hmo7 HR.out.bns.2).cell 1; have hr7 : Row w7 3 1 (.slice (some ⟨gk, 0, none⟩) o.length o.length) o.length (overI ks o) := Row.move (Row.drew HR.out.row) (fun q hq => by cases hq; exact hmo7.block gk hgl HR.out.gks.2); have hc7 : w7.cell? ⟨gk, k, none⟩ = some (.int .i64 y) := (hr7.cell k (by omega)).trans ((HR.out.row.cell k (by omega)).symm.trans hcell); have hf7 := hr7.free k; have hl7 := hr7.lt gk rfl))
              all_goals (
                have hb6 : Below wr.heap.size wr wr.drew := Below.drew (Below.refl _ wr)
                have hgl7 : gk < wr.drew.heap.size := HR.out.row.lt gk rfl
                have hnl7 : bn < wr.drew.heap.size := HR.out.nb.lt
                have hgb := mzs_not HR.out.gks.2 hz7 hgl7
                have hnb7 := mzs_not HR.out.bns.2 hz7 hnl7
                have hm8 := hm7.move (w' := w7.setCell ⟨gk, k, none⟩ (.int .i64 r)) (by simp [World.setCell]) (fun q hq => Below.heap_setCell _ _ _ _ (fun e => hgb (by have e : q = gk := e; rw [← e]; exact hq)))
                have hr8 : Row (w7.setCell ⟨gk, k, none⟩ (.int .i64 r)) 3 1 (.slice (some ⟨gk, 0, none⟩) o.length o.length) o.length (overI (ks ++ [r]) o) := by
                  have h1 := hr7.set k (.int .i64 r)
                  have e := overI_set (ks := ks) (o := o) (r := r) (by rw [HR.out.len]; exact hlt)
                  rw [HR.out.len] at e
                  rwa [e] at h1
                have hn8 : Blk (w7.setCell ⟨gk, k, none⟩ (.int .i64 r)) bn [.int .i64 l', .slice (some ⟨gk, 0, none⟩) o.length o.length] 55 := Blk.far (Blk.mods (Blk.drew HR.out.nb) hmo7 HR.out.bns.2) hneb _
                have hmo8 : Mods (· ∈ mzs b mk z) w (w7.setCell ⟨gk, k, none⟩ (.int .i64 r)) :=
                  (mzs_mods (HR.out.mods.then_new hb6) hmo7 HR.out.zs).setCell (fun hlt => by have := HR.out.gks.1; have : gk < w.heap.size := hlt; omega) _
                have hz8 := mzs_sub (b := b) (mk := mk) HR.out.zs hz7 (Nat.le_trans HR.out.mods.size hb6.size)
                have hrun : runK step N (k + 1) = (N7, ks ++ [r], er) := by
                  conv => lhs; unfold runK
                  rw [HR.out.run, if_pos rfl]
                  show ((step Nk k).1, ks ++ [(step Nk k).2.1], (step Nk k).2.2) = _
                  rw [← HT.out]
                obtain ⟨w8, hw8⟩ : ∃ w8, w8 = w7.setCell ⟨gk, k, none⟩ (.int .i64 r) := ⟨_, rfl⟩
                rw [← hw8] at hm8 hr8 hn8 hmo8 ⊢
                have c28 := hm8.c2
                have hbl8 := hm8.blk.lt
                have HM8 := Hid.mk_ hm8
                have HR8 := Hid.mk_ hr8
                have HN8 := Hid.mk_ hn8
                have HMO8 := Hid.mk_ hmo8
                have HZ8 := Hid.mk_ hz8
                have HRUN := Hid.mk_ hrun
                have HKN7 := Hid.mk_ hkn7
                have HGB := Hid.mk_ hgb
                have HNB := Hid.mk_ hnb7
                clear hw8 hm8 hr8 hn8 hmo8 hz8 hrun hkn7 hgb hnb7 hc7 hf7 hl7 hmo7 hz7 hm7 hr7 hb6 hgl7 hnl7
                by_cases he : er = 0
                · have HE := Hid.mk_ he
                  have t1 : (er != 0) = false := by simp [he]
                  have t2 : decide (¬ er = 0) = false := by simp [he]
                  have t3 : (!(er == 0)) = false := by simp [he]
                  clear he
                  go_wp2_with fail
                  refine ⟨⟨k + 1, N7, ks ++ [r], z7, D7, by omega, by go_num, Hid.mk_ ?_⟩, by simp [intOf]; omega⟩
                  have hrun := HRUN.out
                  have hm8 := HM8.out
                  have hkf := runK_fine HST.out HG.out (k + 1) hlt
                  rw [hrun] at hkf
                  rw [HE.out] at hrun hm8
                  exact ⟨hrun, hm8, HKN7.out HE.out, HR8.out, HN8.out, HMO8.out, HZ8.out, ⟨HR.out.gks.1, HGB.out⟩, ⟨HR.out.bns.1, HNB.out⟩, HR.out.ne, by rw [List.length_append, HR.out.len]; rfl, hkf.pre⟩
                · have HE := Hid.mk_ he
                  have t1 : (er != 0) = true := by simpa using he
                  have t2 : decide (¬ er = 0) = true := by simpa using he
                  have t3 : (!(er == 0)) = true := by simpa using he
                  clear he
                  go_wp2_with fail
                  go_ret
                  have hR : R = (N7, 0, er) := by
                    rw [HBU.out]
                    unfold build
                    rw [HSZT.out, runK_err (k := k + 1) hlt (by rw [HRUN.out]; exact HE.out), HRUN.out, if_neg HE.out]
                  rw [hR]
                  exact ⟨rfl, D7, ⟨z7, HM8.out, HMO8.out, HZ8.out⟩, fun e => absurd e HE.out⟩)
            · have hke : k = o.length := by omega
              subst hke
              have hlt1 : ¬ ((o.length : Nat) : Int) < o.length := by omega
              have hlen := HR.out.len
              have n1 := HR.out.nb.cell 1
              have hnl := HR.out.nb.lt
              have hints : IntsIn wr (some ⟨gk, 0, none⟩) ks := by
                refine ⟨by omega, fun h0 => ⟨gk, 0, rfl, HR.out.row.lt gk rfl, fun j hj => ?_⟩⟩
                rw [Nat.zero_add, HR.out.row.cell j (by omega), overI_full hlen]
                simp [hj]
              have hput := put_any (c := o.length) HR.out.mem l' hints (fun g o e => by cases e; exact HR.out.row.lt gk rfl)
              rw [hlen] at hput
              have hR : R = makeA S M Nk l' ks := by
                rw [HBU.out]
                unfold build
                rw [HSZT.out, HR.out.run, if_pos rfl]
              rw [← hR] at hput
              have HPT := Hid.mk_ hput
              have hl0 : 0 ≤ l' ∧ l' < S.length := HAT.out.l0
              have hmay := runK_may (by rw [HSZT.out]; exact HST.out) HG.out hl0 (by rw [HSZT.out, HR.out.run])
              rw [HSZT.out, HR.out.run] at hmay
              have hfin := make_fine HR.out.mem.pa.good hmay
              simp only at hfin
              rw [← hR] at hfin
              have HFI := Hid.mk_ hfin
              clear hints hput hmay hfin hR hlen hl0
              go_upto_region 18 with (go_at_call 75; (with_reducible refine HPT.out.mono ?_); rintro e w9 ⟨rfl, hg9⟩; have HG9 := Hid.mk_ hg9; clear hg9)
              obtain ⟨z9, hm9, hmo9, hz9⟩ := HG9.out
              have c19 := hm9.c1
              have hbl9 := hm9.blk.lt
              have HM9 := Hid.mk_ hm9
              have HMP9 := Hid.mk_ hm9.map
              have HMO9 := Hid.mk_ hmo9
              have HZ9 := Hid.mk_ hz9
              have hwf : (Lit.int .i64 R.2.1).wf = true := by
                rcases HFI.out.err with e | e
                · have := small HFI.out.good (HFI.out.ok e).1
                  exact wf64 (by omega)
                · rw [e.2]; exact wf64 (by omega)
              obtain ⟨N9, r9, e9⟩ := R
              simp only at hwf c19 hbl9
              clear hm9 hmo9 hz9
              go_wp2_with (at_mapUpdate; refine wpList_mapUpdate_own _ rfl _ _ _ 110 rfl 114 3 law114 Try.underlying110 _ mk 67141636 Dk rfl HMP9.out (by unfold maxLen; omega) _ _ _ rfl rfl hkey _ [] (plainElem_int Try.underlying3 hwf) ?_; intro w10 hown10 hgrow10)
              go_ret
              have hgood9 : Good S M N9 := HFI.out.good
              have hpre9 : N <+: N9 := HR.out.pre.trans HFI.out.pre
              have hfA : hasA N9 f = true := has_pre hpre9 HF.out
              have hgA : hasA N9 0 = true := has01 (.inl rfl)
              have hsz : size (Dk.put (pk f 0) (.lit (.int .i64 r9))) ≤ 67141636 := by
                have h1 : Knows Dk N9 (fun _ _ _ => True) := HR.out.kn.mono HFI.out.pre (fun _ _ _ _ _ _ => trivial)
                exact (h1.put hgood9 hfA hgA (x := r9) trivial).size hgood9
              have hm10 : Mem w10 b ab mk e9 S M N9 z9 (Dk.put (pk f 0) (.lit (.int .i64 r9))) := by
                have hm := HM9.out
                refine ⟨hm.blk.grown hgrow10 (fun e => hm.bm (Option.some.inj e)), hm.pa.move hgrow10.size (fun q hq => hgrow10.block q (hm.pa.zlt hq) (fun e => hm.mz (by rw [← Option.some.inj e]; exact hq))), owns114_size hown10 hsz, hm.bm, hm.bz, hm.mz⟩
              have hmo10 : Mods (· ∈ mzs b mk z) w w10 := (mzs_mods HR.out.mods HMO9.out HR.out.zs).grown hgrow10 (fun q e _ => by cases e; simp [mzs])
              refine ⟨rfl, _, ⟨z9, hm10, hmo10, mzs_sub (b := b) (mk := mk) HR.out.zs HZ9.out HR.out.mods.size⟩, fun e0 => ?_⟩
              have hk1 := knowc_mono HLL.out HCC.out HR.out.kn HR.out.mem.pa.good hgood9 HFI.out.pre
              refine hk1.put hgood9 hfA hgA ⟨rfl, ?_⟩
              have e1 := HRR.out
              have := cutT_again (N2 := N9) HLL.out HCC.out HG.out HF.out (by rw [← e1]; exact e0) (by rw [← e1]; exact List.prefix_refl _) hgood9
              rw [← e1] at this
              exact this
end
end Go.Proofs.Ytmfdcaalbpikpaa
