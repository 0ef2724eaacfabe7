/- The document's cut: a diagram where a level's class is known; its memory is a list of numbers. -/
import Derived.Test.YtmfdcaalbpikpaaX5
import Derived.Test.YtmfdcaalbpikpaaW5
namespace Go.Proofs.Ytmfdcaalbpikpaa
open Go.RowKit Go.Maps
set_option linter.unusedVariables false
set_option linter.unusedSimpArgs false
/-- the document's cut in memory -/
structure RCM (w : World) (b rb gd : Nat) (lv cl e : Int) (S : List Int) (M : Int) (N : List Nd) (z : List Nat) (D : List Int) : Prop where
  blk : Blk w b [.pointer (some ⟨rb, 0, none⟩), .int .i64 lv, .int .i64 cl, .slice (some ⟨gd, 0, none⟩) D.length D.length, .int .i64 e] 105
  ra : RAt w rb S M N z
  done : Blk w gd (D.map (Value.int .i64)) 3
  bz : b ∉ z
  gz : gd ∉ z
def rcz (b gd : Nat) (z : List Nat) (k : Nat) : Prop := k ∈ z ∨ k = b ∨ k = gd
/-- what is kept is what the cut comes to -/
structure RKc (lv cl : Int) (S : List Int) (M : Int) (N0 N : List Nd) (D : List Int) : Prop where
  good : Good S M N0
  len : D.length = N0.length + 2
  pre : N0 <+: N
  ok : ∀ fi (h : fi < D.length), 0 < D[fi]'h → cutT S M lv cl N (fi : Int) = (N, D[fi]'h - 1, 0)
section
variable {w w' : World} {b rb gd : Nat} {lv cl e : Int} {S : List Int} {M : Int} {N0 N N' : List Nd} {z : List Nat} {D : List Int} {f x : Int}
theorem RCM.ne (h : RCM w b rb gd lv cl e S M N z D) : b ≠ gd := fun h2 => by
  have e1 := h.blk
  have e2 := h.done
  rw [h2] at e1
  have := row_blk (row_of_blk e1 rfl (by simp [maxLen])) e2 (by decide) rfl
  exact this
theorem RCM.move (h : RCM w b rb gd lv cl e S M N z D) (hs : w.heap.size ≤ w'.heap.size) (hm : ∀ k, rcz b gd z k → w'.heap[k]? = w.heap[k]?) : RCM w' b rb gd lv cl e S M N z D :=
  ⟨h.blk.move (hm b (.inr (.inl rfl))), h.ra.move hs (fun k hk => hm k (.inl hk)), h.done.move (hm gd (.inr (.inr rfl))), h.bz, h.gz⟩
theorem RCM.lt (h : RCM w b rb gd lv cl e S M N z D) {k : Nat} (hk : rcz b gd z k) : k < w.heap.size := by
  rcases hk with e | rfl | rfl
  · exact h.ra.zlt e
  · exact h.blk.lt
  · exact h.done.lt
theorem RCM.new (h : RCM w b rb gd lv cl e S M N z D) (hb : Below w.heap.size w w') : RCM w' b rb gd lv cl e S M N z D := h.move hb.size (fun k hk => hb.block k (h.lt hk))
theorem RCM.grew (h : RCM w b rb gd lv cl e S M N z D) (hg : RGrew w w' rb S M N' z) : ∃ z', RCM w' b rb gd lv cl e S M N' z' D ∧ Mods (· ∈ z) w w' ∧ ∀ k ∈ z', k ∈ z ∨ w.heap.size ≤ k := by
  obtain ⟨z', hp, hm, hz⟩ := hg
  have hbl := h.blk.lt
  have hgl := h.done.lt
  exact ⟨z', ⟨h.blk.move (hm.block b hbl h.bz), hp, h.done.move (hm.block gd hgl h.gz), fun hk => by
    rcases hz b hk with e | e
    · exact h.bz e
    · omega, fun hk => by
    rcases hz gd hk with e | e
    · exact h.gz e
    · omega⟩, hm, hz⟩
theorem RCM.setE (h : RCM w b rb gd lv cl e S M N z D) (e' : Int) : RCM (w.setCell ⟨b, 4, none⟩ (.int .i64 e')) b rb gd lv cl e' S M N z D := by
  have hk : ∀ k, k ≠ b → (w.setCell ⟨b, 4, none⟩ (.int .i64 e')).heap[k]? = w.heap[k]? := fun k hk => Below.heap_setCell _ _ _ _ hk
  exact ⟨h.blk.set 4 _, h.ra.move (by simp [World.setCell]) (fun k hkz => hk k (fun e => h.bz (e ▸ hkz))), h.done.move (hk gd (fun e => h.ne e.symm)), h.bz, h.gz⟩
theorem RCM.put (h : RCM w b rb gd lv cl e S M N z D) (i : Nat) (x : Int) : RCM (w.setCell ⟨gd, i, none⟩ (.int .i64 x)) b rb gd lv cl e S M N z (D.set i x) := by
  have hk : ∀ k, k ≠ gd → (w.setCell ⟨gd, i, none⟩ (.int .i64 x)).heap[k]? = w.heap[k]? := fun k hk => Below.heap_setCell _ _ _ _ hk
  refine ⟨by rw [List.length_set]; exact h.blk.move (hk b h.ne), h.ra.move (by simp [World.setCell]) (fun k hkz => hk k (fun e => h.gz (e ▸ hkz))), ?_, h.bz, h.gz⟩
  have := h.done.set i (.int .i64 x)
  rwa [← List.map_set] at this
theorem RKc.mono (hL : 0 ≤ lv ∧ lv < S.length) (hC : 0 ≤ cl ∧ cl < S.getD lv.toNat 0) (h : RKc lv cl S M N0 N D) (hg : Good S M N) (hg' : Good S M N') (hp : N <+: N') : RKc lv cl S M N0 N' D :=
  ⟨h.good, h.len, h.pre.trans hp, fun fi hf h0 => by
    have h1 := h.ok fi hf h0
    have h2 : hasA N (fi : Int) = true := has_pre h.pre (has_iff.2 (by have := h.len; omega))
    have := cutT_again (N2 := N') hL hC hg h2 (by rw [h1]) (by rw [h1]; exact hp) hg'
    rw [h1] at this
    exact this⟩
theorem RKc.put {fi : Nat} (h : RKc lv cl S M N0 N D) (hk : cutT S M lv cl N (fi : Int) = (N, x, 0)) : RKc lv cl S M N0 N (D.set fi (x + 1)) :=
  ⟨h.good, by rw [List.length_set]; exact h.len, h.pre, fun j hj h0 => by
    rw [List.length_set] at hj
    by_cases e : fi = j
    · subst e
      rw [List.getElem_set_self, hk]
      simp
    · rw [List.getElem_set_ne e] at h0 ⊢
      exact h.ok j hj h0⟩
end
/-- what a cut leaves -/
def RCGrew (w w' : World) (b rb gd : Nat) (lv cl e : Int) (S : List Int) (M : Int) (N : List Nd) (z : List Nat) (D : List Int) : Prop :=
  ∃ z', RCM w' b rb gd lv cl e S M N z' D ∧ Mods (rcz b gd z) w w' ∧ ∀ k ∈ z', k ∈ z ∨ w.heap.size ≤ k
def ROfPost (w : World) (b rb gd : Nat) (lv cl : Int) (S : List Int) (M : Int) (N0 : List Nd) (z : List Nat) (n : Nat) (O : Out) (e : Ending) (w' : World) : Prop :=
  e = .returned (.int .i64 O.2.1) ∧ ∃ D', RCGrew w w' b rb gd lv cl O.2.2 S M O.1 z D' ∧ (O.2.2 = 0 → RKc lv cl S M N0 O.1 D') ∧ D'.length = n
/-- the state of a node that is built class by class -/
structure RCK (w wr : World) (b rb gd gk : Nat) (lv cl : Int) (S : List Int) (M : Int) (z : List Nat) (n : Nat) (step : List Nd → Nat → Out) (N0 N : List Nd) (sz k : Nat) (Nk : List Nd) (ks : List Int) (cs : List Value) (zk : List Nat) (D : List Int) (er : Int) : Prop where
  run : runK step N k = (Nk, ks, er)
  mem : RCM wr b rb gd lv cl er S M Nk zk D
  kn : er = 0 → RKc lv cl S M N0 Nk D
  dl : D.length = n
  blk : Blk wr gk cs 3
  cl : cs.length = sz
  ce : er = 0 → cs = padI ks sz ∧ ks.length = k
  mods : Mods (rcz b gd z) w wr
  zs : ∀ q ∈ zk, q ∈ z ∨ w.heap.size ≤ q
  gks : w.heap.size ≤ gk ∧ ¬ rcz b gd zk gk
  pre : N <+: Nk
section
variable {b rb gd : Nat} {S : List Int} {M : Int} {N0 : List Nd}
theorem rof_err {w : World} {lv cl e : Int} {N : List Nd} {z : List Nat} {D : List Int} {f : Int} (h : RCM w b rb gd lv cl e S M N z D) (he : e ≠ 0) : Calls Try.prog 65 #[.pointer (some ⟨b, 0, none⟩), .int .i64 f] w fun r w' => r = .returned (.int .i64 f) ∧ w = w' := by
  have x0 := h.blk.cell 0
  have x1 := h.blk.cell 1
  have x4 := h.blk.cell 4
  have xl := h.blk.lt
  have HL := Hid.mk_ (rlevel_at h.ra f)
  obtain ⟨la, hla⟩ : ∃ la, la = lvl S.length N f := ⟨_, rfl⟩
  rw [← hla] at HL
  have t1 : (e != 0) = true := by simpa using he
  have t2 : decide (¬ e = 0) = true := by simpa using he
  have t3 : (!(e == 0)) = true := by simpa using he
  have HE := Hid.mk_ he
  clear h hla he
  by_cases h1 : lv < la
  all_goals (
    go_enter Try.func65, Try.ntmps65
    go_wp2_with (go_at_call 49; (with_reducible refine HL.out.mono ?_); rintro e w' ⟨rfl, rfl⟩)
    go_ret
    exact ⟨rfl, rfl⟩)
set_option maxRecDepth 100000 in
set_option maxHeartbeats 20000000 in
theorem rof_any {lv : Int} {cl : Nat} (hL : 0 ≤ lv ∧ lv < S.length) (hC : 0 ≤ (cl : Int) ∧ (cl : Int) < S.getD lv.toNat 0) : ∀ (n : Nat) (w : World) (N : List Nd) (z : List Nat) (D : List Int) (f : Int), RCM w b rb gd lv cl 0 S M N z D → RKc lv cl S M N0 N D → hasA N0 f = true → (S.length : Int) - lvl S.length N f < n →
    Calls Try.prog 65 #[.pointer (some ⟨b, 0, none⟩), .int .i64 f] w (ROfPost w b rb gd lv cl S M N0 z D.length (cutT S M lv cl N f))
  | 0, w, N, z, D, f, h, hk, hf, hd => by have := lvl_le_n h.ra.good f; omega
  | n + 1, w, N, z, D, f, h, hk, hf, hd => by
    have HIH := Hid.mk_ (rof_any hL hC n)
    have hG := h.ra.good
    have HG := Hid.mk_ hG
    have x0 := h.blk.cell 0
    have x1 := h.blk.cell 1
    have x4 := h.blk.cell 4
    have hbl := h.blk.lt
    have HLV := Hid.mk_ (rlevel_at h.ra f)
    obtain ⟨la, hla⟩ : ∃ la, la = lvl S.length N f := ⟨_, rfl⟩
    rw [← hla] at HLV hd
    obtain ⟨O, hO⟩ : ∃ O, O = cutT S M lv cl N f := ⟨_, rfl⟩
    rw [← hO]
    have hfN := has_pre hk.pre hf
    have HH := Hid.mk_ h
    have HK := Hid.mk_ hk
    have HF := Hid.mk_ hfN
    have HF0 := Hid.mk_ hf
    have HLA := Hid.mk_ hla
    have HO := Hid.mk_ hO
    have HLL := Hid.mk_ hL
    have HCC := Hid.mk_ hC
    have HD := Hid.mk_ hd
    have hla0 := lvl_nonneg hG f
    rw [← hla] at hla0
    have b1 := has_iff.1 hf
    have hb8 := hk.good.len2
    by_cases h1 : lv < la
    · have e := cutT_over (M := M) (cl := cl) (by rw [← hla]; exact h1)
      have E := Hid.mk_ (hO.trans e)
      clear h hk hf hfN hO hG hL hC hd hla e
      go_enter Try.func65, Try.ntmps65
      go_wp2_with (go_at_call 49; (with_reducible refine HLV.out.mono ?_); rintro e w' ⟨rfl, rfl⟩)
      go_ret
      rw [E.out]
      exact ⟨rfl, D, ⟨z, HH.out, Mods.refl _ _, fun k hk => .inl hk⟩, fun _ => HK.out, rfl⟩
    · obtain ⟨l', o, ha⟩ := hG.spot hfN (by omega)
      have e3 : l' = la := by have := ha.lv; omega
      subst e3
      have hAT := Hid.mk_ ha
      by_cases h2 : l' = lv
      · have e := cutT_at (M := M) (cl := cl) (hla.symm.trans h2)
        rw [Int.toNat_natCast, ha.kse] at e
        have hcl : cl < o.length := by have := ha.len.1; rw [h2] at this; omega
        rw [getD_mem hcl] at e
        have E := Hid.mk_ (hO.trans e)
        have HKI : Hid (∀ q, Calls Try.prog 66 #[.pointer (some ⟨rb, 0, none⟩), .int .i64 f, .int .i64 (cl : Int)] (w.drewN q) (fun e w'' => e = .returned (.int .i64 (o[cl]'hcl)) ∧ ∃ m, w'' = w.drewN m)) := fun q => quietly q (rkid_at (h.ra.new (Drawn_below w q)) ha hcl)
        obtain ⟨y, hy⟩ : ∃ y, y = o[cl]'hcl := ⟨_, rfl⟩
        rw [← hy] at E HKI
        subst h2
        have x2 := h.blk.cell 2
        clear h hk hf hfN hO hG hL hC hd hla e ha hcl hy
        go_enter Try.func65, Try.ntmps65
        go_upto_region 5 with (first
          | (go_at_call 49; (with_reducible refine HLV.out.mono ?_); rintro e w' ⟨rfl, rfl⟩))
        go_big_quiet ((go_at_call 66; with_reducible exact HKI.out _))
        go_wp2_with fail
        go_ret
        rw [E.out]
        exact ⟨rfl, D, ⟨z, HH.out.new (Drawn_below _ _), Mods.of_new (Drawn_below _ _), fun k hk => .inl hk⟩, fun _ => HK.out, rfl⟩
      · have hlt : l' < lv := by omega
        obtain ⟨fn, rfl⟩ : ∃ fn : Nat, f = (fn : Int) := ⟨f.toNat, by omega⟩
        have hfD : fn < D.length := by have := hk.len; omega
        have hfD1 : (fn : Int) < D.length := by omega
        have y3 := h.blk.cell 3
        have d0 := (h.done.cell fn).trans (List.getElem?_eq_getElem (by rw [List.length_map]; exact hfD))
        rw [List.getElem_map] at d0
        have dl := h.done.lt
        obtain ⟨d, hd9⟩ : ∃ d, d = D[fn]'hfD := ⟨_, rfl⟩
        rw [← hd9] at d0
        have hl8 := hk.len
        by_cases hpos : 0 < d
        · have hkn := hk.ok fn hfD (by rw [← hd9]; exact hpos)
          rw [← hd9] at hkn
          have E := Hid.mk_ (hO.trans hkn)
          have hdm : d ≤ 8195 := by
            have e1 := cutT_fine (M := M) hL hC hG hfN
            rw [hkn] at e1
            have e2 := small hG (e1.ok rfl).1
            simp only at e2
            omega
          clear h hk hf hfN hO hG hL hC hd hla ha hkn hd9
          go_enter Try.func65, Try.ntmps65
          go_wp2_with (first
            | (go_at_call 49; (with_reducible refine HLV.out.mono ?_); rintro e w' ⟨rfl, rfl⟩))
          go_ret
          rw [E.out]
          exact ⟨rfl, D, ⟨z, HH.out, Mods.refl _ _, fun k hk => .inl hk⟩, fun _ => HK.out, rfl⟩
        · have hob : o.length ≤ 256 := by
            have e1 := ha.len.1
            have e2 := ha.l0
            have e3 := hG.toSized.at_ l'.toNat (by omega)
            rw [← getD_mem] at e3
            omega
          obtain ⟨ln, rfl⟩ : ∃ ln : Nat, l' = (ln : Int) := ⟨l'.toNat, by have := ha.l0; omega⟩
          have hlS : ln < S.length := by have := ha.l0; omega
          have hlS1 : (ln : Int) < S.length := by omega
          obtain ⟨sz, hsz⟩ : ∃ sz, sz = o.length := ⟨_, rfl⟩
          have hsze : S[ln]'hlS = (sz : Int) := by
            have e1 := ha.len
            have e3 := hG.toSized.at_ ln hlS
            rw [Int.toNat_natCast, getD_mem hlS] at e1
            omega
          have HSZ := Hid.mk_ hsze
          have hsz256 : sz ≤ 256 := by omega
          obtain ⟨gs, cs0, r0, hgs, hrb, hsc⟩ := h.ra.sizes
          have s0 := hsc ln hlS
          rw [hsze] at s0
          have hS12 := hG.s2
          obtain ⟨i3, hi3, ha0, ha1, ha2⟩ := info_parts Try.info3
          have hi8 : i3.bytes = 8 := ha2
          have HSO := Hid.mk_ hsz
          have HDN := Hid.mk_ hd9
          have HHL := Hid.mk_ hl8
          clear h hk hf hfN hO hG hL hC hd hla ha hd9 hsc hsze hsz hl8 hob
          go_enter Try.func65, Try.ntmps65
          go_upto_region 9 with (first
            | (go_at_call 49; (with_reducible refine HLV.out.mono ?_); rintro e w' ⟨rfl, rfl⟩)
            | (at_make; refine make_row' _ rfl (.tmp 71) (.tmp 71) 22 rfl 3 i3 (.int .i64 0) Try.underlying22 hi3 ha0 ha1 rfl .i64 .i64 sz (sz : Int) rfl rfl rfl (by rw [hi8]; omega) (by omega) ?_))
          obtain ⟨w3, hw3⟩ : ∃ w3, w3 = w.alloc (.cells (Array.replicate sz (.int .i64 0)) 3) := ⟨_, rfl⟩
          obtain ⟨gk, hgk⟩ : ∃ gk, gk = w.heap.size := ⟨_, rfl⟩
          rw [← hw3, ← hgk]
          rw [show Array.replicate sz (Value.int .i64 0) = (List.replicate sz (Value.int .i64 0)).toArray by simp] at hw3
          have hb3 : Below w.heap.size w w3 := by rw [hw3]; exact (Below.refl _ _).alloc (Nat.le_refl _) _
          have hblk : Blk w3 gk (padI [] sz) 3 := by rw [hw3, hgk]; exact Blk.new w _ 3
          obtain ⟨step, hstep⟩ : ∃ step : List Nd → Nat → Out, step = fun N' c => cutT S M lv cl N' ((ksOf N (fn : Int)).getD c 0) := ⟨_, rfl⟩
          have hkse := hAT.out.kse
          have hlae := hAT.out.lv
          have hll := HLL.out.2
          have hszt : (S.getD ((ln : Nat) : Int).toNat 0).toNat = sz := by rw [Int.toNat_natCast, getD_mem hlS, HSZ.out]; simp
          have hst : Steps S M N (ln : Int) sz step := by
            have := cutT_steps (M := M) HLL.out HCC.out HG.out HF.out (by omega)
            rw [hlae, hszt] at this
            rw [hstep]; exact this
          have hbuild : O = build S M step N (ln : Int) := by
            rw [HO.out, cutT_build HLL.out HCC.out HG.out HF.out (by omega), hlae, hstep]
          have hkd : ∀ c (hc : c < o.length), ∀ N', N <+: N' → hasA N0 (o[c]'hc) = true ∧ (S.length : Int) - lvl S.length N' (o[c]'hc) < n := fun c hc N' hp => by
            have := cut_kids (c := c) HG.out HF.out (by omega) (by rw [hlae, hszt, HSO.out]; exact hc) hp
            rw [hkse, getD_mem hc] at this
            have e1 := lvl_pre HK.out.pre HF0.out S.length
            have k0 := cut_kids (c := c) HK.out.good HF0.out (by omega) (by rw [← e1, hlae, hszt, HSO.out]; exact hc) (List.prefix_refl _)
            rw [← ks_pre HK.out.pre HF0.out, hkse, getD_mem hc] at k0
            exact ⟨k0.1, by have := HD.out; omega⟩
          have hm0 : RCK w w3 b rb gd gk lv cl S M z D.length step N0 N sz 0 N [] (padI [] sz) z D 0 :=
            ⟨rfl, HH.out.new hb3, fun _ => HK.out, rfl, hblk, by simp [padI], fun _ => ⟨rfl, rfl⟩, Mods.of_new hb3, fun q hq => .inl hq, ⟨by omega, fun hq => by have := HH.out.lt hq; omega⟩, List.prefix_refl _⟩
          have HM0 := Hid.mk_ hm0
          have HST := Hid.mk_ hst
          have HBU := Hid.mk_ hbuild
          have HKD := Hid.mk_ hkd
          have HSTEP := Hid.mk_ hstep
          have HSZT := Hid.mk_ hszt
          have HKSE := Hid.mk_ hkse
          clear hw3 hgk hb3 hblk hst hbuild hkd hm0 hstep hszt hkse hlae hll hgs hrb x0 x1 x4 hbl r0 s0 hi3 ha0 ha1 ha2 hi8 y3 d0 dl
          go_wp2_with fail
          go_loopw [7] (fun x7 wr => ∃ (k : Nat) (Nk : List Nd) (ks : List Int) (cs : List Value) (zk : List Nat) (Dk : List Int) (er : Int), k ≤ sz ∧ x7 = .int .i64 (k : Int) ∧ Hid (RCK w wr b rb gd gk lv cl S M z D.length step N0 N sz k Nk ks cs zk Dk er)) (fun x7 _ => sz - (intOf x7).toNat)
          case atStart => exact ⟨0, N, [], _, z, D, 0, Nat.zero_le _, rfl, HM0⟩
          case round =>
            obtain ⟨k, Nk, ks, cs, zk, Dk, er, hk, rfl, HR⟩ := hrel
            have m0 := HR.out.mem.blk.cell 0
            have m4 := HR.out.mem.blk.cell 4
            have ml := HR.out.mem.blk.lt
            by_cases hlt : k < sz
            · have hlt1 : (k : Int) < sz := by omega
              have hlo : k < o.length := by rw [← HSO.out]; exact hlt
              have hki := rkid_at HR.out.mem.ra (hAT.out.pre HR.out.pre) hlo
              obtain ⟨y, hy⟩ : ∃ y, y = o[k]'hlo := ⟨_, rfl⟩
              rw [← hy] at hki
              have HKI := Hid.mk_ hki
              have hdd := HKD.out k hlo Nk HR.out.pre
              have hsk : step Nk k = cutT S M lv cl Nk y := by rw [HSTEP.out]; show cutT S M lv cl Nk ((ksOf N (fn : Int)).getD k 0) = _; rw [HKSE.out, getD_mem hlo, hy]
              rw [← hy] at hdd
              by_cases her : er = 0
              · subst her
                have hcut := HIH.out wr Nk zk Dk y HR.out.mem (HR.out.kn rfl) hdd.1 hdd.2
                rw [← hsk] at hcut
                obtain ⟨T, hT⟩ : ∃ T, T = step Nk k := ⟨_, rfl⟩
                rw [← hT] at hcut
                have HT := Hid.mk_ hT
                have HCU := Hid.mk_ hcut
                obtain ⟨N7, r, er⟩ := T
                obtain ⟨hce, hkl⟩ := HR.out.ce rfl
                have HCE := Hid.mk_ hce
                have HKL := Hid.mk_ hkl
                clear hki hdd hsk hy hcut hT hce hkl
                go_wp2_with (first
                  | (go_at_call 66; (with_reducible refine HKI.out.mono ?_); rintro e w5 ⟨rfl, rfl⟩)
                  | (go_at_call 65; (with_reducible refine HCU.out.mono ?_); rintro e w7 ⟨rfl, D7, hgrew, hkn7, hdl7⟩; obtain ⟨z7, hm7, hmo7, hz7⟩ := hgrew; have hb7 : Blk w7 gk cs 3 := HR.out.blk.mods hmo7 HR.out.gks.2; have hc7 : w7.cell? ⟨gk, k, none⟩ = some (.int .i64 0) := (hb7.cell k).trans (by rw [HCE.out]; exact padI_at HKL.out hlt); have hf7 := hb7.free k; have hl7 := hb7.lt))
                have hgb : ¬ rcz b gd z7 gk := fun hq => by
                  have := HR.out.blk.lt
                  rcases hq with e | e
                  · rcases hz7 _ e with e | e
                    · exact HR.out.gks.2 (.inl e)
                    · omega
                  · exact HR.out.gks.2 (.inr e)
                have hfar : ∀ q, rcz b gd z7 q → (w7.setCell ⟨gk, k, none⟩ (.int .i64 r)).heap[q]? = w7.heap[q]? := fun q hq => Below.heap_setCell _ _ _ _ (fun e => hgb (by have e : q = gk := e; rw [← e]; exact hq))
                have hm8 := hm7.move (w' := w7.setCell ⟨gk, k, none⟩ (.int .i64 r)) (by simp [World.setCell]) hfar
                have hb8 : Blk (w7.setCell ⟨gk, k, none⟩ (.int .i64 r)) gk (padI (ks ++ [r]) sz) 3 := by
                  have := hb7.set k (.int .i64 r)
                  have e := padI_set (ks := ks) (n := sz) (r := r) (by rw [HKL.out]; exact hlt)
                  rw [HKL.out] at e
                  rw [HCE.out, e] at this
                  exact this
                have hmo8 : Mods (rcz b gd z) w (w7.setCell ⟨gk, k, none⟩ (.int .i64 r)) := by
                  have h2 := HR.out.mods.trans hmo7 (fun q hq hqz => by
                    rcases hqz with e | e
                    · rcases HR.out.zs _ e with e2 | e2
                      · exact .inl e2
                      · omega
                    · exact .inr e)
                  exact h2.setCell (fun hlt => by have := HR.out.gks.1; have : gk < w.heap.size := hlt; omega) _
                have hz8 : ∀ q ∈ z7, q ∈ z ∨ w.heap.size ≤ q := fun q hq => by
                  rcases hz7 _ hq with e | e
                  · exact HR.out.zs _ e
                  · exact .inr (by have := HR.out.mods.size; omega)
                have hrun : runK step N (k + 1) = (N7, ks ++ [r], er) := by
                  conv => lhs; unfold runK
                  rw [HR.out.run, if_pos rfl]
                  show ((step Nk k).1, ks ++ [(step Nk k).2.1], (step Nk k).2.2) = _
                  rw [← HT.out]
                have hkf := runK_fine HST.out HG.out (k + 1) hlt
                rw [hrun] at hkf
                exact ⟨⟨k + 1, N7, ks ++ [r], _, z7, D7, er, by omega, by go_num, Hid.mk_ ⟨hrun, hm8, hkn7, hdl7.trans HR.out.dl, hb8, by simp [padI, HKL.out]; omega, fun _ => ⟨rfl, by rw [List.length_append, HKL.out]; rfl⟩, hmo8, hz8, ⟨HR.out.gks.1, hgb⟩, hkf.pre⟩⟩, by simp [intOf]; omega⟩
              · have HER := Hid.mk_ (rof_err (f := y) HR.out.mem her)
                have HE := Hid.mk_ her
                have hbk := HR.out.blk
                have hcl := HR.out.cl
                have hcx := hbk.cell k
                obtain ⟨v0, hv0⟩ : ∃ v0, cs[k]? = some v0 := ⟨_, List.getElem?_eq_getElem (by omega)⟩
                rw [hv0] at hcx
                have hfx := hbk.free k
                have hlx := hbk.lt
                clear hki hdd hsk hy her hbk hv0
                go_wp2_with (first
                  | (go_at_call 66; (with_reducible refine HKI.out.mono ?_); rintro e w5 ⟨rfl, rfl⟩)
                  | (go_at_call 65; (with_reducible refine HER.out.mono ?_); rintro e w7 ⟨rfl, rfl⟩))
                have hgb := HR.out.gks.2
                have hfar : ∀ q, rcz b gd zk q → (wr.setCell ⟨gk, k, none⟩ (.int .i64 y)).heap[q]? = wr.heap[q]? := fun q hq => Below.heap_setCell _ _ _ _ (fun e => hgb (by have e : q = gk := e; rw [← e]; exact hq))
                have hrun : runK step N (k + 1) = (Nk, ks, er) := by
                  rw [runK_err (Nat.le_succ k) (by rw [HR.out.run]; exact HE.out), HR.out.run]
                exact ⟨⟨k + 1, Nk, ks, _, zk, Dk, er, by omega, by go_num, Hid.mk_ ⟨hrun, HR.out.mem.move (by simp [World.setCell]) hfar, HR.out.kn, HR.out.dl, HR.out.blk.set k (.int .i64 y), by rw [List.length_set]; exact HR.out.cl, fun e => absurd e HE.out, HR.out.mods.setCell (fun hlt => by have := HR.out.gks.1; have : gk < w.heap.size := hlt; omega) _, HR.out.zs, HR.out.gks, HR.out.pre⟩⟩, by simp [intOf]; omega⟩
            · have hke : k = sz := by omega
              subst hke
              have hlt1 : ¬ ((k : Nat) : Int) < k := by omega
              by_cases her : er = 0
              · subst her
                obtain ⟨hce, hlen⟩ := HR.out.ce rfl
                have hints : IntsIn wr (some ⟨gk, 0, none⟩) ks := by
                  refine ⟨by omega, fun h0 => ⟨gk, 0, rfl, HR.out.blk.lt, fun j hj => ?_⟩⟩
                  rw [Nat.zero_add, HR.out.blk.cell j, hce, padI_full hlen]
                  simp [hj]
                have hmake := rmake_at (c := k) HR.out.mem.ra hlS (by rw [hlen, HSZ.out]) hints
                rw [hlen] at hmake
                have hOO : O = makeA S M Nk (ln : Int) ks := by
                  rw [HBU.out]
                  unfold build
                  rw [HSZT.out, HR.out.run, if_pos rfl]
                unfold RMakePost at hmake
                rw [← hOO] at hmake
                have HMK := Hid.mk_ hmake
                have hmay := runK_may (by rw [HSZT.out]; exact HST.out) HG.out (by omega) (by rw [HSZT.out, HR.out.run])
                rw [HSZT.out, HR.out.run] at hmay
                have hfin := make_fine HR.out.mem.ra.good hmay
                simp only at hfin
                rw [← hOO] at hfin
                have HFI := Hid.mk_ hfin
                have hr95 : O.2.1 + 1 ≤ 8195 ∧ 0 ≤ O.2.1 := by
                  rcases hfin.err with e | e
                  · have := small hfin.good (hfin.ok e).1; omega
                  · rw [e.2]; omega
                clear hints hmake hmay hfin hOO hlen hce
                obtain ⟨N9, r9, e9⟩ := O
                go_upto_region 16 with (go_at_call 18; (with_reducible refine HMK.out.mono ?_); rintro e w9 ⟨rfl, hg9⟩; have HG9 := Hid.mk_ (HR.out.mem.grew hg9); clear hg9)
                obtain ⟨z9, hm9, hmo9, hz9⟩ := HG9.out
                have c4 := hm9.blk.cell 4
                have c4f := hm9.blk.free 4
                have c4l := hm9.blk.lt
                have hm10 := hm9.setE e9
                have HMO9 := Hid.mk_ hmo9
                have HZ9 := Hid.mk_ hz9
                obtain ⟨w10, hw10⟩ : ∃ w10, w10 = w9.setCell ⟨b, 4, none⟩ (.int .i64 e9) := ⟨_, rfl⟩
                rw [← hw10] at hm10
                have HM10 := Hid.mk_ hm10
                have HW10 := Hid.mk_ hw10
                clear hm9 hmo9 hz9 m0 m4 ml hw10 hm10
                go_upto_region 17 with fail
                rw [← HW10.out]
                clear c4 c4f c4l
                have hdk : Dk.length = D.length := HR.out.dl
                have hfk : fn < Dk.length := by omega
                have hfk1 : (fn : Int) < Dk.length := by omega
                have y3 := HM10.out.blk.cell 3
                have yl := HM10.out.blk.lt
                have d10 := (HM10.out.done.cell fn).trans (List.getElem?_eq_getElem (by rw [List.length_map]; exact hfk))
                have df10 := HM10.out.done.free fn
                have dl10 := HM10.out.done.lt
                clear hdk
                go_wp2_with fail
                go_ret
                have hgood9 : Good S M N9 := HM10.out.ra.good
                have hs1 := HR.out.mods.size
                have hs3 : w10.heap.size = w9.heap.size := by rw [HW10.out]; simp [World.setCell]
                have m1 := HR.out.mods.trans HMO9.out (fun q hq hqz => by
                  rcases HR.out.zs q hqz with e | e
                  · exact .inl e
                  · omega)
                have m2 := m1.setCell (p := ⟨b, 4, none⟩) (fun _ => .inr (.inl rfl)) (.int .i64 e9)
                rw [← HW10.out] at m2
                have m3 := m2.setCell (p := ⟨gd, fn, none⟩) (fun _ => .inr (.inr rfl)) (.int .i64 (r9 + 1))
                refine ⟨rfl, _, ⟨z9, HM10.out.put fn (r9 + 1), m3, fun q hq => ?_⟩, fun e0 => ?_, by rw [List.length_set]; exact HR.out.dl⟩
                · rcases HZ9.out q hq with e | e
                  · exact HR.out.zs q e
                  · exact .inr (by omega)
                · refine (RKc.mono HLL.out HCC.out (HR.out.kn rfl) HR.out.mem.ra.good hgood9 HFI.out.pre).put ?_
                  have e1 := HO.out
                  have e0' : e9 = 0 := e0
                  have := cutT_again (N2 := N9) HLL.out HCC.out HG.out HF.out (by rw [← e1]; exact e0') (by rw [← e1]; exact List.prefix_refl _) hgood9
                  rw [← e1] at this
                  exact this
              · have HE := Hid.mk_ her
                have t1 : (er != 0) = true := by simpa using her
                have t2 : decide (¬ er = 0) = true := by simpa using her
                have t3 : (!(er == 0)) = true := by simpa using her
                have hOO : O = (Nk, 0, er) := by
                  rw [HBU.out]
                  unfold build
                  rw [HSZT.out, HR.out.run, if_neg her]
                have HOO := Hid.mk_ hOO
                clear her hOO
                go_wp2_with fail
                go_ret
                rw [HOO.out]
                exact ⟨rfl, Dk, ⟨zk, HR.out.mem, HR.out.mods, HR.out.zs⟩, fun e => absurd e HE.out, HR.out.dl⟩
end
end Go.Proofs.Ytmfdcaalbpikpaa
