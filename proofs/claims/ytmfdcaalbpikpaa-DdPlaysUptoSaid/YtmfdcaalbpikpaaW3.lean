/- An operation's apply: two diagrams, put together. -/
import Derived.Test.YtmfdcaalbpikpaaW2
import Derived.Deep.OwnRows
namespace Go.Proofs.Ytmfdcaalbpikpaa
open Go.RowKit Go.Maps
set_option linter.unusedVariables false
set_option linter.unusedSimpArgs false
def Kn (op : Int) (S : List Int) (M : Int) (N : List Nd) (f g x : Int) : Prop := runT op S M N f g = (N, x, 0)
def ApplyPost (w : World) (b ab mk : Nat) (S : List Int) (M : Int) (z : List Nat) (op : Int) (R : Out) (e : Ending) (w' : World) : Prop :=
  e = .returned (.int .i64 R.2.1) ∧ ∃ D', MemGrew w w' b ab mk R.2.2 S M R.1 z D' ∧ (R.2.2 = 0 → Knows D' R.1 (Kn op S M R.1))
theorem Kn.mono {op : Int} {S : List Int} {M : Int} {N N' : List Nd} {f g x : Int} (h : Good S M N) (h' : Good S M N') (hp : N <+: N') (hf : hasA N f = true) (hg : hasA N g = true) (hk : Kn op S M N f g x) : Kn op S M N' f g x := by
  unfold Kn at *
  have := runT_again (N2 := N') h hf hg (by rw [hk]) (by rw [hk]; exact hp) h'
  rw [hk] at this
  exact this
theorem knows_mono {D : DataW Unit} {op : Int} {S : List Int} {M : Int} {N N' : List Nd} (hk : Knows D N (Kn op S M N)) (h : Good S M N) (h' : Good S M N') (hp : N <+: N') : Knows D N' (Kn op S M N') :=
  hk.mono hp fun f g x hf hg hk => Kn.mono h h' hp hf hg hk
/-- numbers, then zeros -/
def padI (ks : List Int) (n : Nat) : List Value := ks.map (Value.int .i64) ++ List.replicate (n - ks.length) (.int .i64 0)
theorem padI_zero (n : Nat) : padI [] n = List.replicate n (.int .i64 0) := rfl
theorem padI_full {ks : List Int} {n : Nat} (h : ks.length = n) : padI ks n = ks.map (Value.int .i64) := by unfold padI; rw [h, Nat.sub_self]; simp
theorem padI_set {ks : List Int} {n : Nat} {r : Int} (h : ks.length < n) : (padI ks n).set ks.length (.int .i64 r) = padI (ks ++ [r]) n := by
  unfold padI
  rw [List.set_append_right _ _ (by simp)]
  simp only [List.length_map, Nat.sub_self, List.map_append, List.map_cons, List.map_nil, List.length_append, List.length_singleton, List.append_assoc]
  congr 1
  obtain ⟨m, hm⟩ : ∃ m, n - ks.length = m + 1 := ⟨n - ks.length - 1, by omega⟩
  rw [hm, List.replicate_succ, show n - (ks.length + 1) = m by omega]
  rfl
theorem padI_at {ks : List Int} {n k : Nat} (hk : ks.length = k) (h : k < n) : (padI ks n)[k]? = some (.int .i64 0) := by
  unfold padI
  rw [List.getElem?_append_right (by simp; omega), List.getElem?_replicate, if_pos (by simp; omega)]
theorem padI_length {ks : List Int} {n : Nat} (h : ks.length ≤ n) : (padI ks n).length = n := by
  unfold padI
  rw [List.length_append, List.length_map, List.length_replicate]
  omega
theorem make_row' {P : Program} (w : World) {ops : Array Oper} {rest : List Oper} {o : Oper} {a : Act} {Q : Exit → Act → World → Prop}
    (hg : o.guard = none) (l c : Operand) (t : TypeId) (hop : o.op = Op.makeSlice t l c)
    (e : TypeId) (i : TypeInfo) (z : Value) (ht : P.underlying t = some (.slice e)) (hi : P.info? e = some i) (hz : i.zero = some z) (hsize : i.size = 1) (hz1 : z.cells = #[z])
    (kl kc : IntKind) (n : Nat) (x : Int) (hx : x = (n : Int)) (hl : a.eval l = .int kl x) (hc : a.eval c = .int kc x) (hbytes : i.bytes * n ≤ 281474976710656) (h63 : n ≤ 9223372036854775807)
    (hK : wpList P ops Q rest (a.put o.dst (.slice (some ⟨w.heap.size, 0, none⟩) n n)) (w.alloc (.cells (List.replicate n z).toArray e))) : wpList P ops Q (o :: rest) a w := by
  subst hx
  refine wpList_make_row w hg l c t hop e i z ht hi hz hsize hz1 kl kc n hl hc hbytes h63 ?_
  have e : madeCells #[z] n = (List.replicate n z).toArray := by
    refine Array.ext' ?_
    simp [toList_madeCells_one]
  rw [e]
  exact hK
theorem owns114_size {w : World} {mb n m : Nat} {D : DataW Unit} (h : w.ownsMap Try.prog 114 (plainElem Try.prog 3) mb n D) (hm : size D ≤ m) : w.ownsMap Try.prog 114 (plainElem Try.prog 3) mb m D := by
  obtain ⟨es, clock, hb, F, hs, hD⟩ := h
  refine ⟨es, clock, hb, F, ?_, hD⟩
  rw [hD, size_eq, length_sorted] at hm
  simpa using hm
/-- the state of a node that is built class by class -/
structure RK (w wr : World) (b ab mk gk : Nat) (S : List Int) (M : Int) (z : List Nat) (step : List Nd → Nat → Out) (N : List Nd) (P : List Nd → Int → Int → Int → Prop) (sz k : Nat) (Nk : List Nd) (ks : List Int) (zk : List Nat) (D : DataW Unit) : Prop where
  run : runK step N k = (Nk, ks, 0)
  mem : Mem wr b ab mk 0 S M Nk zk D
  kn : Knows D Nk (P Nk)
  blk : Blk wr gk (padI ks sz) 3
  mods : Mods (· ∈ mzs b mk z) w wr
  zs : ∀ q ∈ zk, q ∈ z ∨ w.heap.size ≤ q
  gk : w.heap.size ≤ gk ∧ gk ∉ mzs b mk zk
  len : ks.length = k
  pre : N <+: Nk
theorem mzs_sub {b mk B B2 : Nat} {z zk z' : List Nat} (h1 : ∀ q ∈ zk, q ∈ z ∨ B ≤ q) (h2 : ∀ q ∈ z', q ∈ zk ∨ B2 ≤ q) (hB : B ≤ B2) : ∀ q ∈ z', q ∈ z ∨ B ≤ q := fun q hq => by
  rcases h2 q hq with e | e
  · exact h1 q e
  · exact .inr (by omega)
section
variable {b ab mk : Nat} {op : Int} {S : List Int} {M : Int}
set_option maxRecDepth 100000 in
set_option maxHeartbeats 8000000 in
theorem apply_any (hop : 0 ≤ op ∧ op ≤ 2) : ∀ (n : Nat) (w : World) (N : List Nd) (z : List Nat) (D : DataW Unit) (f g : Int), Mem w b ab mk 0 S M N z D → Knows D N (Kn op S M N) → hasA N f = true → hasA N g = true → deep S N f g < n →
    Calls Try.prog 72 #[.pointer (some ⟨b, 0, none⟩), .int .i64 op, .int .i64 f, .int .i64 g] w (ApplyPost w b ab mk S M z op (runT op S M N f g))
  | 0, w, N, z, D, f, g, h, hk, hf, hg, hd => by have := lvl_le_n h.pa.good f; unfold deep at hd; omega
  | n + 1, w, N, z, D, f, g, h, hk, hf, hg, hd => by
    have HIH := Hid.mk_ (apply_any hop n)
    have hG := h.pa.good
    have HG := Hid.mk_ hG
    obtain ⟨R, hR⟩ : ∃ R, R = runT op S M N f g := ⟨_, rfl⟩
    rw [← hR]
    have HH := Hid.mk_ h
    have HK := Hid.mk_ hk
    have HA : Hid ((hasA N f = true ∧ hasA N g = true ∧ deep S N f g < (n + 1 : Nat) ∧ R = runT op S M N f g) ∧ (hasA N g = true ∧ hasA N f = true ∧ deep S N g f < (n + 1 : Nat) ∧ R = runT op S M N g f)) :=
      ⟨⟨hf, hg, hd, hR⟩, hg, hf, by unfold deep at hd ⊢; rw [Int.min_comm]; exact hd, by rw [hR]; exact runT_swap hop⟩
    have HO := Hid.mk_ hop
    clear h hk hf hg hd hR hG hop
    go_enter Try.func72, Try.ntmps72
    go_upto_if 19 with fail
    go_cut [2, 3] from 20 to 21 (fun x2 x3 wx => ∃ f1 g1, x2 = .int .i64 f1 ∧ x3 = .int .i64 g1 ∧ w = wx ∧ Hid (hasA N f1 = true ∧ hasA N g1 = true ∧ deep S N f1 g1 < (n + 1 : Nat) ∧ R = runT op S M N f1 g1))
    case first =>
      by_cases hfg : g < f
      · go_wp2_with fail
        go_meet
        exact ⟨g, f, rfl, rfl, rfl, HA.out.2⟩
      · go_wp2_with fail
        go_meet
        exact ⟨f, g, rfl, rfl, rfl, HA.out.1⟩
    case rest =>
      obtain ⟨f1, g1, rfl, rfl, rfl, HF⟩ := hcut
      have hf0 := has_iff.1 HF.out.1
      have hg0 := has_iff.1 HF.out.2.1
      have HL := Hid.mk_ (leaf_any HO.out hf0.1 hg0.1)
      have HS := Hid.mk_ (leafP_short (op := op) (f := f1) (g := g1))
      have HNT := Hid.mk_ (leafP_not HO.out hf0.1 hg0.1)
      obtain ⟨L, hL⟩ : ∃ L, L = leafP op f1 g1 := ⟨_, rfl⟩
      rw [← hL] at HL HS HNT
      obtain ⟨x, is⟩ := L
      simp only at HL HS HNT
      clear hL hf0 hg0
      go_upto_region 4 with (go_at_call 78; (with_reducible refine (HL.out _).mono ?_); rintro e w' ⟨rfl, rfl⟩)
      cases is with
      | true =>
        have e := runT_short HO.out HG.out HF.out.1 HF.out.2.1 (HS.out rfl)
        have E := Hid.mk_ (HF.out.2.2.2.trans e)
        clear e
        go_wp2_with fail
        go_ret
        rw [E.out]
        exact ⟨rfl, D, MemGrew.refl HH.out, fun _ => HK.out⟩
      | false =>
        have h2 := HNT.out rfl
        have HN2 := Hid.mk_ h2
        have x1 := HH.out.c1
        have hbl := HH.out.blk.lt
        have HMP := Hid.mk_ HH.out.map
        have b1 := small HG.out HF.out.1
        have b2 := small HG.out HF.out.2.1
        have hkey : keyOf Try.prog 114 (.agg #[.int .i64 f1, .int .i64 g1]) = some (pk f1 g1) := keyOf_pv (by omega) (by omega)
        clear h2
        cases hh : has D (pk f1 g1) with
        | true =>
          obtain ⟨y, hat, hkn⟩ := HK.out.at_ HG.out HF.out.1 HF.out.2.1 hh
          have E := Hid.mk_ (HF.out.2.2.2.trans hkn)
          have HAT := Hid.mk_ hat
          clear hat hkn b1 b2
          go_wp2_with (at_lookup; refine wpList_lookup_own_ok_int _ rfl _ _ 110 rfl 114 3 .i64 law114 Try.underlying110 Try.underlying3 (zeroI _) mk 67141636 D rfl HMP.out _ _ rfl hkey ?_; intro c9 hat9 hwc9)
          have hcx : c9 = y := by
            have h1 := HAT.out (.lit (.int .i64 0))
            rw [hat9] at h1
            simpa using h1
          subst hcx
          go_ret
          rw [E.out]
          exact ⟨rfl, D, MemGrew.refl HH.out, fun _ => HK.out⟩
        | false =>
          have x0 := HH.out.c0
          go_upto_region 9 with (at_lookup; refine wpList_lookup_own_ok_int _ rfl _ _ 110 rfl 114 3 .i64 law114 Try.underlying110 Try.underlying3 (zeroI _) mk 67141636 D rfl HMP.out _ _ rfl hkey ?_; intro c9 hat9 hwc9)
          have hl := lvlmin HG.out HF.out.1 HF.out.2.1 HN2.out
          have HLV := Hid.mk_ (fun q f => quietly (w := w) q (level_at (HH.out.pa.new (Drawn_below w q)) f))
          have HLQ : Hid (∀ q, Calls Try.prog 73 #[.pointer (some ⟨ab, 0, none⟩), .int .i64 f1] (w.drewN q) (fun e w'' => e = .returned (.int .i64 (lvl S.length N f1)) ∧ ∃ m, w'' = w.drewN m) ∧ Calls Try.prog 73 #[.pointer (some ⟨ab, 0, none⟩), .int .i64 g1] (w.drewN q) (fun e w'' => e = .returned (.int .i64 (lvl S.length N g1)) ∧ ∃ m, w'' = w.drewN m)) := fun q => ⟨HLV.out q f1, HLV.out q g1⟩
          obtain ⟨la, hla⟩ : ∃ q, q = lvl S.length N f1 := ⟨_, rfl⟩
          obtain ⟨lb, hlb⟩ : ∃ q, q = lvl S.length N g1 := ⟨_, rfl⟩
          rw [← hla, ← hlb] at hl HLQ
          obtain ⟨l, hle⟩ : ∃ l, l = min la lb := ⟨_, rfl⟩
          have HLE := Hid.mk_ hle
          have HLA := Hid.mk_ hla
          have HLB := Hid.mk_ hlb
          rw [← hle] at hl
          have HL0 := Hid.mk_ hl
          clear hl hle hla hlb HLV
          go_big_quiet (first | (go_at_call 73; with_reducible exact (HLQ.out _).1) | (go_at_call 73; with_reducible exact (HLQ.out _).2))
          go_upto_region 10 with fail
          rw [show (if lb < la then lb else la) = l by rw [HLE.out]; split <;> omega]
          obtain ⟨wq, hwq⟩ : ∃ wq, wq = w.drewN nq := ⟨_, rfl⟩
          rw [← hwq]
          have hbq : Below w.heap.size w wq := by rw [hwq]; exact Drawn_below _ _
          obtain ⟨ln, rfl⟩ : ∃ ln : Nat, l = (ln : Int) := ⟨l.toNat, by have := HL0.out; omega⟩
          have hmq := HH.out.new hbq
          have HMQ := Hid.mk_ hmq
          have HBQ := Hid.mk_ hbq
          have hlS : ln < S.length := by have := HL0.out; omega
          have hlS1 : (ln : Int) < S.length := by omega
          have hsz := HG.out.toSized.at_ ln hlS
          obtain ⟨sz, hsze⟩ : ∃ sz : Nat, S[ln]'hlS = (sz : Int) := ⟨(S[ln]'hlS).toNat, by omega⟩
          rw [hsze] at hsz
          have HSZ := Hid.mk_ hsze
          have y0 := hmq.c0
          have hbl2 := hmq.blk.lt
          have HSI := Hid.mk_ (sizes_at hmq.pa)
          have hS12 := HG.out.s2
          obtain ⟨i3, hi3, ha0, ha1, ha2⟩ := info_parts Try.info3
          have hi8 : i3.bytes = 8 := ha2
          clear hmq hbq hwq x0 x1 hbl
          go_upto_region 11 with (first
            | (go_at_call 44; (with_reducible refine HSI.out.mono ?_); rintro e w2 ⟨v, rfl, ⟨gs, rfl, hgs, hrow⟩, hb⟩; have hcl := row3 hrow ln hlS; rw [HSZ.out] at hcl; have hgs2 := hrow.lt gs rfl; have HB := Hid.mk_ hb; clear hb hrow)
            | (at_make; refine make_row' _ rfl (.tmp 64) (.tmp 64) 22 rfl 3 i3 (.int .i64 0) Try.underlying22 hi3 ha0 ha1 rfl .i64 .i64 sz (sz : Int) rfl rfl rfl (by rw [hi8]; omega) (by omega) ?_))
          obtain ⟨w3, hw3⟩ : ∃ w3, w3 = w2.alloc (.cells (Array.replicate sz (.int .i64 0)) 3) := ⟨_, rfl⟩
          obtain ⟨gk, hgk⟩ : ∃ gk, gk = w2.heap.size := ⟨_, rfl⟩
          rw [← hw3, ← hgk]
          rw [show Array.replicate sz (Value.int .i64 0) = (List.replicate sz (Value.int .i64 0)).toArray by simp] at hw3
          have hb23 : Below w.heap.size w w2 := HBQ.out.trans (HB.out.mono HBQ.out.size)
          have hb3 : Below w.heap.size w w3 := by rw [hw3]; exact hb23.alloc hb23.size _
          have hblk : Blk w3 gk (padI [] sz) 3 := by rw [hw3, hgk]; exact Blk.new w2 _ 3
          have hgw : w.heap.size ≤ gk := by rw [hgk]; exact hb23.size
          obtain ⟨step, hstep⟩ : ∃ step : List Nd → Nat → Out, step = fun N' c => runT op S M N' (kidA S.length N f1 (ln : Int) c) (kidA S.length N g1 (ln : Int) c) := ⟨_, rfl⟩
          have hszt : (S.getD ((ln : Nat) : Int).toNat 0).toNat = sz := by rw [Int.toNat_natCast, getD_mem hlS, HSZ.out]; simp
          have hlmin : (ln : Int) = min (lvl S.length N f1) (lvl S.length N g1) := by rw [HLE.out, HLA.out, HLB.out]
          have hst : Steps S M N (ln : Int) sz step := by
            have := runT_steps (op := op) HG.out HF.out.1 HF.out.2.1 HN2.out
            rw [← hlmin, hszt] at this
            rw [hstep]; exact this
          have hbuild : R = build S M step N (ln : Int) := by
            rw [HF.out.2.2.2, runT_build HG.out HF.out.1 HF.out.2.1 HN2.out, ← hlmin, hstep]
          have hkd : ∀ c, c < sz → ∀ N', N <+: N' → hasA N' (kidA S.length N f1 (ln : Int) c) = true ∧ hasA N' (kidA S.length N g1 (ln : Int) c) = true ∧ deep S N' (kidA S.length N f1 (ln : Int) c) (kidA S.length N g1 (ln : Int) c) < n := fun c hc N' hp => by
            have := run_kid_deep (N' := N') n HG.out HF.out.1 HF.out.2.1 HF.out.2.2.1 HN2.out (c := c) (by rw [← hlmin, hszt]; exact hc) hp
            rw [← hlmin] at this
            exact this
          have hlf : (ln : Int) ≤ lvl S.length N f1 ∧ (ln : Int) ≤ lvl S.length N g1 := by omega
          have hm0 : RK w w3 b ab mk gk S M z step N (Kn op S M) sz 0 N [] z D :=
            ⟨rfl, HH.out.new hb3, HK.out, hblk, Mods.of_new hb3, fun q hq => .inl hq, ⟨hgw, fun hq => by have := HH.out.zlt hq; omega⟩, rfl, List.prefix_refl _⟩
          have HM0 := Hid.mk_ hm0
          have HST := Hid.mk_ hst
          have HBU := Hid.mk_ hbuild
          have HKD := Hid.mk_ hkd
          have HLF := Hid.mk_ hlf
          have HSTEP := Hid.mk_ hstep
          have HSZT := Hid.mk_ hszt
          clear hw3 hgk hb23 hb3 hblk hgw hst hbuild hkd hlf hm0 hstep hszt hlmin hgs hgs2 y0 hbl2 hcl hi3 ha0 ha1 ha2 hi8
          go_wp2_with fail
          go_loopw [68] (fun x68 wr => ∃ (k : Nat) (Nk : List Nd) (ks : List Int) (zk : List Nat) (Dk : DataW Unit), k ≤ sz ∧ x68 = .int .i64 (k : Int) ∧ Hid (RK w wr b ab mk gk S M z step N (Kn op S M) sz k Nk ks zk Dk)) (fun x68 _ => sz - (intOf x68).toNat)
          case atStart => exact ⟨0, N, [], z, D, Nat.zero_le _, rfl, HM0⟩
          case round =>
            obtain ⟨k, Nk, ks, zk, Dk, hk, rfl, HR⟩ := hrel
            by_cases hlt : k < sz
            · have hlt1 : (k : Int) < sz := by omega
              have hmk := HR.out.mem
              have hp := HR.out.pre
              have hGk := hmk.pa.good
              have hf1 := has_pre hp HF.out.1
              have hg1 := has_pre hp HF.out.2.1
              have hszk : k < (S.getD ((ln : Nat) : Int).toNat 0).toNat := by rw [HSZT.out]; exact hlt
              have hkf := kid_any (n := k) (l := (ln : Int)) hmk hf1 (by rw [lvl_pre hp HF.out.1]; exact HLF.out.1) HL0.out hszk
              rw [kid_pre hp HF.out.1] at hkf
              have HKF := Hid.mk_ hkf
              have HKG : Hid (∀ W, Below wr.heap.size wr W → Calls Try.prog 74 #[.pointer (some ⟨b, 0, none⟩), .int .i64 g1, .int .i64 (ln : Int), .int .i64 (k : Int)] W fun e w' => e = .returned (.int .i64 (kidA S.length N g1 (ln : Int) k)) ∧ Below W.heap.size W w') := fun W hW => by
                have := kid_any (n := k) (l := (ln : Int)) (hmk.new hW) hg1 (by rw [lvl_pre hp HF.out.2.1]; exact HLF.out.2) HL0.out hszk
                rw [kid_pre hp HF.out.2.1] at this
                exact this
              have hdd := HKD.out k hlt Nk hp
              obtain ⟨kf, hkfe⟩ : ∃ x, x = kidA S.length N f1 (ln : Int) k := ⟨_, rfl⟩
              obtain ⟨kg, hkge⟩ : ∃ x, x = kidA S.length N g1 (ln : Int) k := ⟨_, rfl⟩
              have hsk : step Nk k = runT op S M Nk kf kg := by rw [HSTEP.out, hkfe, hkge]
              rw [← hkfe] at HKF hdd
              rw [← hkge] at HKG hdd
              have HAP : Hid (∀ W, Below wr.heap.size wr W → Calls Try.prog 72 #[.pointer (some ⟨b, 0, none⟩), .int .i64 op, .int .i64 kf, .int .i64 kg] W (ApplyPost W b ab mk S M zk op (step Nk k))) := fun W hW => by
                rw [hsk]
                exact HIH.out W Nk zk Dk kf kg (hmk.new hW) HR.out.kn hdd.1 hdd.2.1 hdd.2.2
              obtain ⟨T, hT⟩ : ∃ T, T = step Nk k := ⟨_, rfl⟩
              rw [← hT] at HAP
              have HT := Hid.mk_ hT
              obtain ⟨N7, r, er⟩ := T
              clear hmk hp hGk hf1 hg1 hszk hkf hdd hkfe hkge hsk hT
              go_upto_region 15 with (first
                | (go_at_call 74; (with_reducible refine HKF.out.mono ?_); rintro e w5 ⟨rfl, hb5⟩)
                | (go_at_call 74; (with_reducible refine (HKG.out _ hb5).mono ?_); rintro e w6 ⟨rfl, hb6⟩; have hb56 := hb5.trans (hb6.mono hb5.size))
                | (go_at_call 72; (with_reducible refine (HAP.out _ hb56).mono ?_); rintro e w7 ⟨rfl, D7, hgrew, hkn7⟩; obtain ⟨z7, hm7, hmo7, hz7⟩ := hgrew; have hb7 : Blk w7 gk (padI ks sz) 3 := (HR.out.blk.below hb56 HR.out.blk.lt).mods hmo7 HR.out.gk.2; have hc7 : w7.cell? ⟨gk, k, none⟩ = some (.int .i64 0) := (hb7.cell k).trans (padI_at HR.out.len hlt); have hf7 := hb7.free k; have hl7 := hb7.lt))
              have hgb : gk ∉ mzs b mk z7 := fun hq => by
                simp only [mzs, List.mem_cons] at hq
                have h1 := HR.out.gk.2
                simp only [mzs, List.mem_cons] at h1
                rcases hq with e | e | e
                · exact h1 (.inl e)
                · exact h1 (.inr (.inl e))
                · rcases hz7 _ e with e2 | e2
                  · exact h1 (.inr (.inr e2))
                  · have := HR.out.blk.lt
                    have := hb56.size
                    omega
              have hm8 := hm7.move (w' := w7.setCell ⟨gk, k, none⟩ (.int .i64 r)) (by simp [World.setCell]) (fun q hq => Below.heap_setCell _ _ _ _ (fun e => hgb (by have e : q = gk := e; rw [← e]; exact hq)))
              have hb8 : Blk (w7.setCell ⟨gk, k, none⟩ (.int .i64 r)) gk (padI (ks ++ [r]) sz) 3 := by
                have := hb7.set k (.int .i64 r)
                have e := padI_set (ks := ks) (n := sz) (r := r) (by rw [HR.out.len]; exact hlt)
                rw [HR.out.len] at e
                rwa [e] at this
              have hmo8 : Mods (· ∈ mzs b mk z) w (w7.setCell ⟨gk, k, none⟩ (.int .i64 r)) := by
                have h1 := HR.out.mods.then_new hb56
                have h2 := h1.trans hmo7 (fun q hq hqz => by
                  simp only [mzs, List.mem_cons] at hqz ⊢
                  rcases hqz with e | e | e
                  · exact .inl e
                  · exact .inr (.inl e)
                  · rcases HR.out.zs _ e with e2 | e2
                    · exact .inr (.inr e2)
                    · omega)
                exact h2.setCell (fun hlt => by have := HR.out.gk.1; have : gk < w.heap.size := hlt; omega) _
              have hz8 := mzs_sub (b := b) (mk := mk) HR.out.zs hz7 (Nat.le_trans HR.out.mods.size hb56.size)
              have hrun : runK step N (k + 1) = (N7, ks ++ [r], er) := by
                conv => lhs; unfold runK
                rw [HR.out.run, if_pos rfl]
                show ((step Nk k).1, ks ++ [(step Nk k).2.1], (step Nk k).2.2) = _
                rw [← HT.out]
              obtain ⟨w8, hw8⟩ : ∃ w8, w8 = w7.setCell ⟨gk, k, none⟩ (.int .i64 r) := ⟨_, rfl⟩
              rw [← hw8] at hm8 hb8 hmo8 ⊢
              have c28 := hm8.c2
              have hbl8 := hm8.blk.lt
              have HM8 := Hid.mk_ hm8
              have HB8 := Hid.mk_ hb8
              have HMO8 := Hid.mk_ hmo8
              have HZ8 := Hid.mk_ hz8
              have HRUN := Hid.mk_ hrun
              have HKN7 := Hid.mk_ hkn7
              have HGB := Hid.mk_ hgb
              clear hw8 hm8 hb8 hmo8 hz8 hrun hkn7 hgb hb7 hc7 hf7 hl7 hmo7 hz7 hm7 hb5 hb6 hb56
              by_cases he : er = 0
              · have HE := Hid.mk_ he
                have t1 : (er != 0) = false := by simp [he]
                have t2 : decide (¬ er = 0) = false := by simp [he]
                have t3 : (!(er == 0)) = false := by simp [he]
                clear he
                go_wp2_with fail
                refine ⟨⟨k + 1, N7, ks ++ [r], z7, D7, by omega, by go_num, Hid.mk_ ?_⟩, by simp [intOf]; omega⟩
                have hrun := HRUN.out
                have hm8 := HM8.out
                have hkf := runK_fine HST.out HG.out (k + 1) hlt
                rw [hrun] at hkf
                rw [HE.out] at hrun hm8
                exact ⟨hrun, hm8, HKN7.out HE.out, HB8.out, HMO8.out, HZ8.out, ⟨HR.out.gk.1, HGB.out⟩, by rw [List.length_append, HR.out.len]; rfl, hkf.pre⟩
              · have HE := Hid.mk_ he
                have t1 : (er != 0) = true := by simpa using he
                have t2 : decide (¬ er = 0) = true := by simpa using he
                have t3 : (!(er == 0)) = true := by simpa using he
                clear he
                go_wp2_with fail
                go_ret
                have hR : R = (N7, 0, er) := by
                  rw [HBU.out]
                  unfold build
                  rw [HSZT.out, runK_err (k := k + 1) hlt (by rw [HRUN.out]; exact HE.out), HRUN.out, if_neg HE.out]
                rw [hR]
                exact ⟨rfl, D7, ⟨z7, HM8.out, HMO8.out, HZ8.out⟩, fun e => absurd e HE.out⟩
            · have hke : k = sz := by omega
              subst hke
              have hlt1 : ¬ ((k : Nat) : Int) < k := by omega
              have hlen := HR.out.len
              have hints : IntsIn wr (some ⟨gk, 0, none⟩) ks := by
                refine ⟨by rw [hlen]; have := HR.out.mem.pa.good.kids; omega, fun h0 => ⟨gk, 0, rfl, HR.out.blk.lt, fun j hj => ?_⟩⟩
                rw [Nat.zero_add, HR.out.blk.cell j, padI_full hlen]
                simp [hj]
              have hput := put_any (c := k) HR.out.mem (ln : Int) hints (fun g o e => by cases e; exact HR.out.blk.lt)
              rw [hlen] at hput
              have hR : R = makeA S M Nk (ln : Int) ks := by
                rw [HBU.out]
                unfold build
                rw [HSZT.out, HR.out.run, if_pos rfl]
              rw [← hR] at hput
              have HPT := Hid.mk_ hput
              have hmay := runK_may (by rw [HSZT.out]; exact HST.out) HG.out HL0.out (by rw [HSZT.out, HR.out.run])
              rw [HSZT.out, HR.out.run] at hmay
              have hfin := make_fine HR.out.mem.pa.good hmay
              simp only at hfin
              rw [← hR] at hfin
              have HFI := Hid.mk_ hfin
              have HRR := Hid.mk_ hR
              have hbu := HBU.out
              rw [← HBU.out] at hbu
              clear hbu hints hput hmay hfin hR hlen
              go_upto_region 19 with (go_at_call 75; (with_reducible refine HPT.out.mono ?_); rintro e w9 ⟨rfl, hg9⟩; have HG9 := Hid.mk_ hg9; clear hg9)
              obtain ⟨z9, hm9, hmo9, hz9⟩ := HG9.out
              have c19 := hm9.c1
              have hbl9 := hm9.blk.lt
              have HM9 := Hid.mk_ hm9
              have HMP9 := Hid.mk_ hm9.map
              have HMO9 := Hid.mk_ hmo9
              have HZ9 := Hid.mk_ hz9
              have hwf : (Lit.int .i64 R.2.1).wf = true := by
                rcases HFI.out.err with e | e
                · have := small HFI.out.good (HFI.out.ok e).1
                  exact wf64 (by omega)
                · rw [e.2]; exact wf64 (by omega)
              obtain ⟨N9, r9, e9⟩ := R
              simp only at hwf c19 hbl9
              clear hm9 hmo9 hz9
              go_wp2_with (at_mapUpdate; refine wpList_mapUpdate_own _ rfl _ _ _ 110 rfl 114 3 law114 Try.underlying110 _ mk 67141636 Dk rfl HMP9.out (by unfold maxLen; omega) _ _ _ rfl rfl hkey _ [] (plainElem_int Try.underlying3 hwf) ?_; intro w10 hown10 hgrow10)
              go_ret
              have hgood9 : Good S M N9 := HFI.out.good
              have hpre9 : N <+: N9 := HR.out.pre.trans HFI.out.pre
              have hfA : hasA N9 f1 = true := has_pre hpre9 HF.out.1
              have hgA : hasA N9 g1 = true := has_pre hpre9 HF.out.2.1
              have hsz : size (Dk.put (pk f1 g1) (.lit (.int .i64 r9))) ≤ 67141636 := by
                have h1 : Knows Dk N9 (fun _ _ _ => True) := HR.out.kn.mono HFI.out.pre (fun _ _ _ _ _ _ => trivial)
                exact (h1.put hgood9 hfA hgA (x := r9) trivial).size hgood9
              have hm10 : Mem w10 b ab mk e9 S M N9 z9 (Dk.put (pk f1 g1) (.lit (.int .i64 r9))) := by
                have hm := HM9.out
                refine ⟨hm.blk.grown hgrow10 (fun e => hm.bm (Option.some.inj e)), hm.pa.move hgrow10.size (fun q hq => hgrow10.block q (hm.pa.zlt hq) (fun e => hm.mz (by rw [← Option.some.inj e]; exact hq))), owns114_size hown10 hsz, hm.bm, hm.bz, hm.mz⟩
              have hmo10 : Mods (· ∈ mzs b mk z) w w10 := by
                have h2 := HR.out.mods.trans HMO9.out (fun q hq hqz => by
                  simp only [mzs, List.mem_cons] at hqz ⊢
                  rcases hqz with e | e | e
                  · exact .inl e
                  · exact .inr (.inl e)
                  · rcases HR.out.zs _ e with e2 | e2
                    · exact .inr (.inr e2)
                    · omega)
                exact h2.grown hgrow10 (fun q e _ => by cases e; simp [mzs])
              refine ⟨rfl, _, ⟨z9, hm10, hmo10, mzs_sub (b := b) (mk := mk) HR.out.zs HZ9.out HR.out.mods.size⟩, fun e0 => ?_⟩
              have hk1 := knows_mono HR.out.kn HR.out.mem.pa.good hgood9 HFI.out.pre
              refine hk1.put hgood9 hfA hgA ?_
              show runT op S M N9 f1 g1 = (N9, r9, 0)
              have e1 := HF.out.2.2.2
              have := runT_again (op := op) (N2 := N9) HG.out HF.out.1 HF.out.2.1 (by rw [← e1]; exact e0) (by rw [← e1]; exact List.prefix_refl _) hgood9
              rw [← e1] at this
              exact this
end
end Go.Proofs.Ytmfdcaalbpikpaa
