/- The document's apply: two diagrams, put together. -/
import Derived.Test.YtmfdcaalbpikpaaX4
namespace Go.Proofs.Ytmfdcaalbpikpaa
open Go.RowKit Go.Maps
set_option linter.unusedVariables false
set_option linter.unusedSimpArgs false
theorem Try.info125 : (Try.prog.info? 125).map (fun i => (i.zero, i.size, i.bytes)) = some (some (.agg #[.int .i64 0, .int .i64 0]), 2, 16) := by kernel_rfl
structure RKn (op : Int) (S : List Int) (M : Int) (N0 N : List Nd) (R : List (List (Int × Int))) : Prop where
  good : Good S M N0
  len : R.length = N0.length + 2
  pre : N0 <+: N
  ok : ∀ fi (h : fi < R.length), ∀ p ∈ R[fi]'h, hasA N0 p.1 = true ∧ Kn op S M N (fi : Int) p.1 p.2
  nd : ∀ fi (h : fi < R.length), ((R[fi]'h).map (·.1)).Nodup
section
variable {op : Int} {S : List Int} {M : Int} {N0 N N' : List Nd} {R : List (List (Int × Int))} {f g x : Int}
theorem RKn.few (h : RKn op S M N0 N R) (fi : Nat) (hf : fi < R.length) : (R[fi]'hf).length ≤ 8194 := by
  have := nodup_le ((R[fi]'hf).map (·.1)) ((List.range 8194).map fun i : Nat => (i : Int)) (h.nd fi hf) fun y hy => by
    obtain ⟨p, hp, rfl⟩ := List.mem_map.1 hy
    have := small h.good (h.ok fi hf p hp).1
    exact List.mem_map.2 ⟨p.1.toNat, List.mem_range.2 (by omega), by omega⟩
  simpa using this
theorem RKn.mono (h : RKn op S M N0 N R) (hg : Good S M N) (hg' : Good S M N') (hp : N <+: N') : RKn op S M N0 N' R :=
  ⟨h.good, h.len, h.pre.trans hp, fun fi hf p hpm => by
    have h1 := h.ok fi hf p hpm
    have h2 : hasA N0 (fi : Int) = true := has_iff.2 (by have := h.len; omega)
    exact ⟨h1.1, Kn.mono hg hg' hp (has_pre h.pre h2) (has_pre h.pre h1.1) h1.2⟩, h.nd⟩
theorem RKn.put {fi : Nat} (h : RKn op S M N0 N R) (hf : fi < R.length) (hg : hasA N0 g = true) (hk : Kn op S M N (fi : Int) g x) (hn : ∀ p ∈ R[fi]'hf, p.1 ≠ g) : RKn op S M N0 N (R.set fi (R[fi]'hf ++ [(g, x)])) where
  good := h.good
  len := by rw [List.length_set]; exact h.len
  pre := h.pre
  ok := fun j hj p hp => by
    rw [List.length_set] at hj
    by_cases e : fi = j
    · subst e
      rw [List.getElem_set_self] at hp
      rcases List.mem_append.1 hp with hp | hp
      · exact h.ok fi hf p hp
      · simp at hp; subst hp; exact ⟨hg, hk⟩
    · rw [List.getElem_set_ne e] at hp
      exact h.ok j hj p hp
  nd := fun j hj => by
    rw [List.length_set] at hj
    by_cases e : fi = j
    · subst e
      rw [List.getElem_set_self, List.map_append]
      refine List.nodup_append.2 ⟨h.nd fi hf, by simp, fun y hy u hu e2 => ?_⟩
      simp at hu
      subst hu
      obtain ⟨p, hp, e3⟩ := List.mem_map.1 hy
      exact hn p hp (e3.trans e2)
    · rw [List.getElem_set_ne e]
      exact h.nd j hj
theorem fnd_some {l : List (Int × Int)} {y : Int} (h : fnd l g = (y, true)) : (g, y) ∈ l := by
  unfold fnd at h
  split at h
  · rename_i p hp
    have h1 := List.mem_of_find?_eq_some hp
    have h2 := List.find?_some hp
    simp at h h2
    rw [← h2, ← h]
    exact h1
  · simp at h
theorem fnd_no {l : List (Int × Int)} {y : Int} (h : fnd l g = (y, false)) : ∀ p ∈ l, p.1 ≠ g := by
  unfold fnd at h
  split at h
  · simp at h
  · rename_i hp
    intro p hpm
    have := List.find?_eq_none.1 hp p hpm
    simpa using this
end
theorem RAt.sizes {w : World} {b : Nat} {S : List Int} {M : Int} {N : List Nd} {z : List Nat} (h : RAt w b S M N z) : ∃ gs cs, w.cell? ⟨b, 0, none⟩ = some (.slice (some ⟨gs, 0, none⟩) S.length cs) ∧ gs < w.heap.size ∧ b < w.heap.size ∧ ∀ j (hj : j < S.length), w.cell? ⟨gs, j, none⟩ = some (.int .i64 (S[j]'hj)) := by
  obtain ⟨L, nv, sv, lv, rows, cz, h1, rfl, rfl⟩ := h
  obtain ⟨g, c, e, hc, hgz, hgl, hl, hcells⟩ := h1.s
  exact ⟨g, c, by rw [h1.c0, e], hgl, h1.blk.lt, hcells⟩
theorem grown_drew0 {w w' : World} {r : Option Nat} (h : w.drew.grownBy w' r) : w.grownBy w' r := ⟨h.os, h.tape, h.output, h.size, h.block⟩
/-- each new pair is of two that lie no higher than d says -/
def Only (S : List Int) (N0 : List Nd) (R R' : List (List (Int × Int))) (d : Int) : Prop := ∀ (fi : Nat) (p : Int × Int), p ∈ R'.getD fi [] → p ∈ R.getD fi [] ∨ deep S N0 (fi : Int) p.1 ≤ d
section
variable {S : List Int} {N0 : List Nd} {R R' R'' : List (List (Int × Int))} {d d' : Int}
theorem Only.refl : Only S N0 R R d := fun fi p hp => .inl hp
theorem Only.le (h : Only S N0 R R' d) (hd : d ≤ d') : Only S N0 R R' d' := fun fi p hp => by
  rcases h fi p hp with e | e
  · exact .inl e
  · exact .inr (by omega)
theorem Only.trans (h : Only S N0 R R' d) (h' : Only S N0 R' R'' d) : Only S N0 R R'' d := fun fi p hp => by
  rcases h' fi p hp with e | e
  · exact h fi p e
  · exact .inr e
theorem Only.set (h : Only S N0 R R' d) {fn : Nat} (hf : fn < R'.length) (g x : Int) (hd : deep S N0 (fn : Int) g ≤ d) : Only S N0 R (R'.set fn (R'[fn]'hf ++ [(g, x)])) d := fun fi p hp => by
  by_cases e : fn = fi
  · subst e
    rw [List.getD_eq_getElem?_getD, List.getElem?_set_self hf] at hp
    rcases List.mem_append.1 hp with e1 | e1
    · exact h fn p (by rw [List.getD_eq_getElem?_getD, List.getElem?_eq_getElem hf]; exact e1)
    · simp at e1; subst e1; exact .inr hd
  · rw [List.getD_eq_getElem?_getD, List.getElem?_set_ne e, ← List.getD_eq_getElem?_getD] at hp
    exact h fi p hp
theorem Only.new (h : Only S N0 R R' d) {fn : Nat} (hf : fn < R.length) (hf' : fn < R'.length) {g : Int} (hn : ∀ p ∈ R[fn]'hf, p.1 ≠ g) (hd : d < deep S N0 (fn : Int) g) : ∀ p ∈ R'[fn]'hf', p.1 ≠ g := fun p hp e => by
  rcases h fn p (by rw [List.getD_eq_getElem?_getD, List.getElem?_eq_getElem hf']; exact hp) with e1 | e1
  · rw [List.getD_eq_getElem?_getD, List.getElem?_eq_getElem hf] at e1
    exact hn p e1 e
  · rw [e] at e1; omega
end
/-- what an operation leaves -/
def RMGrew (w w' : World) (b rb : Nat) (what e : Int) (S : List Int) (M : Int) (N : List Nd) (z : List Nat) (lv : Value) (rows : List Value) (R : List (List (Int × Int))) : Prop :=
  ∃ z' rows', RM w' b rb what e S M N z' lv rows' R ∧ Mods (rmz b lv rows z) w w' ∧ ∀ k, rmz b lv rows' z' k → rmz b lv rows z k ∨ w.heap.size ≤ k
def RApplyPost (w : World) (b rb : Nat) (what : Int) (S : List Int) (M : Int) (N0 : List Nd) (z : List Nat) (lv : Value) (rows : List Value) (R : List (List (Int × Int))) (d : Int) (O : Out) (e : Ending) (w' : World) : Prop :=
  e = .returned (.int .i64 O.2.1) ∧ ∃ R', RMGrew w w' b rb what O.2.2 S M O.1 z lv rows R' ∧ (O.2.2 = 0 → RKn (what - 1) S M N0 O.1 R') ∧ R'.length = rows.length ∧ Only S N0 R R' d
theorem RM.zlt2 {w : World} {b rb : Nat} {what e : Int} {S : List Int} {M : Int} {N : List Nd} {z : List Nat} {lv : Value} {rows : List Value} {R : List (List (Int × Int))} (h : RM w b rb what e S M N z lv rows R) {k : Nat} (hk : rmz b lv rows z k) : k < w.heap.size := by
  rcases hk with e | e
  · exact h.ra.zlt e
  · exact h.lt e
/-- the state of a node that is built class by class -/
structure RRK (w wr : World) (b rb gk : Nat) (what : Int) (S : List Int) (M : Int) (z : List Nat) (lv : Value) (rows : List Value) (step : List Nd → Nat → Out) (N0 N : List Nd) (sz k : Nat) (Nk : List Nd) (ks : List Int) (zk : List Nat) (rowsk : List Value) (R0 : List (List (Int × Int))) (d : Int) (R : List (List (Int × Int))) (er : Int) : Prop where
  run : runK step N k = (Nk, ks, er)
  mem : RM wr b rb what er S M Nk zk lv rowsk R
  kn : er = 0 → RKn (what - 1) S M N0 Nk R
  rl : R.length = rows.length
  blk : Blk wr gk (padI ks sz) 3
  mods : Mods (rmz b lv rows z) w wr
  zs : ∀ q, rmz b lv rowsk zk q → rmz b lv rows z q ∨ w.heap.size ≤ q
  gks : w.heap.size ≤ gk ∧ ¬ rmz b lv rowsk zk gk
  len : ks.length = k
  pre : N <+: Nk
  only : Only S N0 R0 R (d - 1)
section
variable {b rb : Nat} {what : Int} {S : List Int} {M : Int} {N0 : List Nd} {lv : Value}
set_option maxRecDepth 100000 in
set_option maxHeartbeats 20000000 in
theorem rapply_any (hw : 1 ≤ what ∧ what ≤ 3) : ∀ (n : Nat) (w : World) (N : List Nd) (z : List Nat) (rows : List Value) (R : List (List (Int × Int))) (f g : Int), RM w b rb what 0 S M N z lv rows R → RKn (what - 1) S M N0 N R → hasA N0 f = true → hasA N0 g = true → deep S N f g < n →
    Calls Try.prog 76 #[.pointer (some ⟨b, 0, none⟩), .int .i64 f, .int .i64 g] w (RApplyPost w b rb what S M N0 z lv rows R (deep S N0 f g) (runT (what - 1) S M N f g))
  | 0, w, N, z, rows, R, f, g, h, hk, hf, hg, hd => by have := lvl_le_n h.ra.good f; unfold deep at hd; omega
  | n + 1, w, N, z, rows, R, f, g, h, hk, hf, hg, hd => by
    have HIH := Hid.mk_ (rapply_any hw n)
    have hG := h.ra.good
    have HG := Hid.mk_ hG
    have hfN := has_pre hk.pre hf
    have hgN := has_pre hk.pre hg
    obtain ⟨O, hO⟩ : ∃ O, O = runT (what - 1) S M N f g := ⟨_, rfl⟩
    rw [← hO]
    have HH := Hid.mk_ h
    have HK := Hid.mk_ hk
    have HFA := Hid.mk_ (⟨hfN, hgN⟩ : hasA N f = true ∧ hasA N g = true)
    have HF0 := Hid.mk_ (⟨hf, hg⟩ : hasA N0 f = true ∧ hasA N0 g = true)
    have HD := Hid.mk_ hd
    have HO := Hid.mk_ hO
    have b1 := has_iff.1 hf
    have b2 := has_iff.1 hg
    have hb8 := hk.good.len2
    have HLEN := Hid.mk_ hk.len
    by_cases h2 : f < 2 ∧ g < 2
    · have e1 : runT (what - 1) S M N f g = (N, leafV (what - 1) f g, 0) := by unfold runT runA; rw [if_pos h2]
      have E := Hid.mk_ (hO.trans e1)
      have HLF := Hid.mk_ (rleaf_any h hw (by omega : f = 0 ∨ f = 1) (by omega : g = 0 ∨ g = 1))
      obtain ⟨h2a, h2b⟩ := h2
      have hRl : R.length = rows.length := h.rl.symm
      have HRL := Hid.mk_ hRl
      clear h hk hf hg hd hO hG hfN hgN e1 hRl
      go_enter Try.func76, Try.ntmps76
      go_wp2_with (go_at_call 79; (with_reducible refine HLF.out.mono ?_); rintro e w' ⟨rfl, rfl⟩)
      go_ret
      rw [E.out]
      exact ⟨rfl, R, ⟨z, rows, HH.out, Mods.refl _ _, fun k hk => .inl hk⟩, fun _ => HK.out, HRL.out, Only.refl⟩
    · obtain ⟨fn, rfl⟩ : ∃ fn : Nat, f = (fn : Int) := ⟨f.toNat, by omega⟩
      have hfR : fn < R.length := by have := hk.len; omega
      have HFN := Hid.mk_ (found_any (g := g) h hfR)
      obtain ⟨D, hD⟩ : ∃ D, D = fnd (R[fn]'hfR) g := ⟨_, rfl⟩
      rw [← hD] at HFN
      have hRl : R.length = rows.length := h.rl.symm
      have HRL := Hid.mk_ hRl
      have HN2 := Hid.mk_ h2
      have hft : (fn : Int) < 2 → ¬ g < 2 := fun a c => h2 ⟨a, c⟩
      obtain ⟨y, is⟩ := D
      have HDD := Hid.mk_ hD
      have HKN : Hid (is = true → Kn (what - 1) S M N (fn : Int) g y) := fun e => by
        subst e
        exact (hk.ok fn hfR _ (fnd_some hD.symm)).2
      have HNO : Hid (is = false → ∀ p ∈ R[fn]'hfR, p.1 ≠ g) := fun e => by
        subst e
        exact fnd_no hD.symm
      have x0 := h.blk.cell 0
      have xl := h.blk.lt
      clear h hk hf hg hd hO hG hfN hgN hRl hD h2
      go_enter Try.func76, Try.ntmps76
      go_upto_region 1 with fail
      go_cut [22] from 17 to 22 (fun x22 wx => x22 = .bool false ∧ w = wx)
      case first =>
        by_cases hf2 : (fn : Int) < 2
        · have hg2 := hft hf2
          clear hft
          go_wp2_with fail
          go_meet
          exact ⟨by simp [hg2], rfl⟩
        · clear hft
          go_wp2_with fail
          go_meet
          exact ⟨by simp [hf2], rfl⟩
      case rest =>
        obtain ⟨rfl, rfl⟩ := hcut
        clear hft
        go_upto_region 4 with (go_at_call 80; (with_reducible refine HFN.out.mono ?_); rintro e w' ⟨rfl, rfl⟩)
        cases is with
        | true =>
          have E := Hid.mk_ (HO.out.trans (HKN.out rfl))
          go_wp2_with fail
          go_ret
          rw [E.out]
          exact ⟨rfl, R, ⟨z, rows, HH.out, Mods.refl _ _, fun k hk => .inl hk⟩, fun _ => HK.out, HRL.out, Only.refl⟩
        | false =>
          go_upto_region 6 with fail
          have hl := lvlmin HG.out HFA.out.1 HFA.out.2 HN2.out
          have HLQ : Hid (∀ q, Calls Try.prog 49 #[.pointer (some ⟨rb, 0, none⟩), .int .i64 (fn : Int)] (w.drewN q) (fun e w'' => e = .returned (.int .i64 (lvl S.length N (fn : Int))) ∧ ∃ m, w'' = w.drewN m) ∧ Calls Try.prog 49 #[.pointer (some ⟨rb, 0, none⟩), .int .i64 g] (w.drewN q) (fun e w'' => e = .returned (.int .i64 (lvl S.length N g)) ∧ ∃ m, w'' = w.drewN m)) := fun q =>
            ⟨quietly q (rlevel_at (HH.out.ra.new (Drawn_below w q)) (fn : Int)), quietly q (rlevel_at (HH.out.ra.new (Drawn_below w q)) g)⟩
          obtain ⟨la, hla⟩ : ∃ q, q = lvl S.length N (fn : Int) := ⟨_, rfl⟩
          obtain ⟨lb, hlb⟩ : ∃ q, q = lvl S.length N g := ⟨_, rfl⟩
          rw [← hla, ← hlb] at hl HLQ
          obtain ⟨l, hle⟩ : ∃ l, l = min la lb := ⟨_, rfl⟩
          have HLE := Hid.mk_ hle
          have HLA := Hid.mk_ hla
          have HLB := Hid.mk_ hlb
          rw [← hle] at hl
          have HL0 := Hid.mk_ hl
          clear hl hle hla hlb
          go_big_quiet ((first | (go_at_call 49; with_reducible exact (HLQ.out _).1) | (go_at_call 49; with_reducible exact (HLQ.out _).2)))
          go_upto_region 7 with fail
          rw [show (if lb < la then lb else la) = l by rw [HLE.out]; split <;> omega]
          obtain ⟨wq, hwq⟩ : ∃ wq, wq = w.drewN nq := ⟨_, rfl⟩
          rw [← hwq]
          have hbq : Below w.heap.size w wq := by rw [hwq]; exact Drawn_below _ _
          obtain ⟨ln, rfl⟩ : ∃ ln : Nat, l = (ln : Int) := ⟨l.toNat, by have := HL0.out; omega⟩
          have hmq := HH.out.new hbq
          have HMQ := Hid.mk_ hmq
          have HBQ := Hid.mk_ hbq
          have hlS : ln < S.length := by have := HL0.out; omega
          have hlS1 : (ln : Int) < S.length := by omega
          have hsz := HG.out.toSized.at_ ln hlS
          obtain ⟨sz, hsze⟩ : ∃ sz : Nat, S[ln]'hlS = (sz : Int) := ⟨(S[ln]'hlS).toNat, by omega⟩
          rw [hsze] at hsz
          have HSZ := Hid.mk_ hsze
          obtain ⟨gs, cs, r0, hgs, hrb, hsc⟩ := hmq.ra.sizes
          have s0 := hsc ln hlS
          rw [hsze] at s0
          have y0 := hmq.blk.cell 0
          have yl := hmq.blk.lt
          have hS12 := HG.out.s2
          obtain ⟨i3, hi3, ha0, ha1, ha2⟩ := info_parts Try.info3
          have hi8 : i3.bytes = 8 := ha2
          clear hmq hbq hwq x0 xl hsc hsze
          go_upto_region 9 with (at_make; refine make_row' _ rfl (.tmp 59) (.tmp 59) 22 rfl 3 i3 (.int .i64 0) Try.underlying22 hi3 ha0 ha1 rfl .i64 .i64 sz (sz : Int) rfl rfl rfl (by rw [hi8]; omega) (by omega) ?_)
          obtain ⟨w3, hw3⟩ : ∃ w3, w3 = wq.alloc (.cells (Array.replicate sz (.int .i64 0)) 3) := ⟨_, rfl⟩
          obtain ⟨gk, hgk⟩ : ∃ gk, gk = wq.heap.size := ⟨_, rfl⟩
          rw [← hw3, ← hgk]
          rw [show Array.replicate sz (Value.int .i64 0) = (List.replicate sz (Value.int .i64 0)).toArray by simp] at hw3
          have hb3 : Below w.heap.size w w3 := by rw [hw3]; exact HBQ.out.alloc HBQ.out.size _
          have hblk : Blk w3 gk (padI [] sz) 3 := by rw [hw3, hgk]; exact Blk.new wq _ 3
          have hgw : w.heap.size ≤ gk := by rw [hgk]; exact HBQ.out.size
          obtain ⟨step, hstep⟩ : ∃ step : List Nd → Nat → Out, step = fun N' c => runT (what - 1) S M N' (kidA S.length N (fn : Int) (ln : Int) c) (kidA S.length N g (ln : Int) c) := ⟨_, rfl⟩
          have hszt : (S.getD ((ln : Nat) : Int).toNat 0).toNat = sz := by rw [Int.toNat_natCast, getD_mem hlS, HSZ.out]; simp
          have hlmin : (ln : Int) = min (lvl S.length N (fn : Int)) (lvl S.length N g) := by rw [HLE.out, HLA.out, HLB.out]
          have hst : Steps S M N (ln : Int) sz step := by
            have := runT_steps (op := what - 1) HG.out HFA.out.1 HFA.out.2 HN2.out
            rw [← hlmin, hszt] at this
            rw [hstep]; exact this
          have hbuild : O = build S M step N (ln : Int) := by
            rw [HO.out, runT_build HG.out HFA.out.1 HFA.out.2 HN2.out, ← hlmin, hstep]
          have hlf : (ln : Int) ≤ lvl S.length N (fn : Int) ∧ (ln : Int) ≤ lvl S.length N g := by omega
          have hkd : ∀ c, c < sz → ∀ N', N <+: N' → hasA N0 (kidA S.length N (fn : Int) (ln : Int) c) = true ∧ hasA N0 (kidA S.length N g (ln : Int) c) = true ∧ deep S N' (kidA S.length N (fn : Int) (ln : Int) c) (kidA S.length N g (ln : Int) c) < n ∧ deep S N0 (kidA S.length N (fn : Int) (ln : Int) c) (kidA S.length N g (ln : Int) c) ≤ deep S N0 (fn : Int) g - 1 := fun c hc N' hp => by
            have := run_kid_deep (N' := N') n HG.out HFA.out.1 HFA.out.2 HD.out HN2.out (c := c) (by rw [← hlmin, hszt]; exact hc) hp
            rw [← hlmin] at this
            have e1 := lvl_pre HK.out.pre HF0.out.1 S.length
            have e2 := lvl_pre HK.out.pre HF0.out.2 S.length
            have k1 := kid_fine (l := (ln : Int)) (c := c) HK.out.good HF0.out.1 (by rw [← e1]; exact hlf.1) hlS1 (by rw [hszt]; exact hc)
            have k2 := kid_fine (l := (ln : Int)) (c := c) HK.out.good HF0.out.2 (by rw [← e2]; exact hlf.2) hlS1 (by rw [hszt]; exact hc)
            rw [← kid_pre HK.out.pre HF0.out.1] at k1
            rw [← kid_pre HK.out.pre HF0.out.2] at k2
            have k3 := k1.2
            have k4 := k2.2
            exact ⟨k1.1, k2.1, this.2.2, by unfold deep; omega⟩
          have hm0 : RRK w w3 b rb gk what S M z lv rows step N0 N sz 0 N [] z rows R (deep S N0 (fn : Int) g) R 0 :=
            ⟨rfl, HH.out.new hb3, fun _ => HK.out, HRL.out, hblk, Mods.of_new hb3, fun q hq => .inl hq, ⟨hgw, fun hq => by have := HH.out.zlt2 hq; omega⟩, rfl, List.prefix_refl _, Only.refl⟩
          have HM0 := Hid.mk_ hm0
          have HST := Hid.mk_ hst
          have HBU := Hid.mk_ hbuild
          have HKD := Hid.mk_ hkd
          have HLF := Hid.mk_ hlf
          have HSTEP := Hid.mk_ hstep
          have HSZT := Hid.mk_ hszt
          clear hw3 hgk hb3 hblk hgw hst hbuild hkd hlf hm0 hstep hszt hlmin hgs hrb y0 yl r0 s0 hi3 ha0 ha1 ha2 hi8
          go_wp2_with fail
          go_loopw [12] (fun x12 wr => ∃ (k : Nat) (Nk : List Nd) (ks : List Int) (zk : List Nat) (rowsk : List Value) (Rk : List (List (Int × Int))) (er : Int), k ≤ sz ∧ x12 = .int .i64 (k : Int) ∧ Hid (RRK w wr b rb gk what S M z lv rows step N0 N sz k Nk ks zk rowsk R (deep S N0 (fn : Int) g) Rk er)) (fun x12 _ => sz - (intOf x12).toNat)
          case atStart => exact ⟨0, N, [], z, rows, R, 0, Nat.zero_le _, rfl, HM0⟩
          case round =>
            obtain ⟨k, Nk, ks, zk, rowsk, Rk, er, hk, rfl, HR⟩ := hrel
            have m3 := HR.out.mem.blk.cell 3
            have ml := HR.out.mem.blk.lt
            by_cases hgo : k < sz ∧ er = 0
            · obtain ⟨hlt, rfl⟩ := hgo
              have hlt1 : (k : Int) < sz := by omega
              have hmk := HR.out.mem
              have hp := HR.out.pre
              have hGk := hmk.ra.good
              have hf1 := has_pre hp HFA.out.1
              have hg1 := has_pre hp HFA.out.2
              have hszk : k < (S.getD ((ln : Nat) : Int).toNat 0).toNat := by rw [HSZT.out]; exact hlt
              have hkf := rkid_any (n := k) (l := (ln : Int)) hmk hf1 (by rw [lvl_pre hp HFA.out.1]; exact HLF.out.1) HL0.out hszk
              have hkg := rkid_any (n := k) (l := (ln : Int)) hmk hg1 (by rw [lvl_pre hp HFA.out.2]; exact HLF.out.2) HL0.out hszk
              rw [kid_pre hp HFA.out.1] at hkf
              rw [kid_pre hp HFA.out.2] at hkg
              have HKF := Hid.mk_ hkf
              have HKG := Hid.mk_ hkg
              have hdd := HKD.out k hlt Nk hp
              obtain ⟨kf, hkfe⟩ : ∃ x, x = kidA S.length N (fn : Int) (ln : Int) k := ⟨_, rfl⟩
              obtain ⟨kg, hkge⟩ : ∃ x, x = kidA S.length N g (ln : Int) k := ⟨_, rfl⟩
              have hsk : step Nk k = runT (what - 1) S M Nk kf kg := by rw [HSTEP.out, hkfe, hkge]
              rw [← hkfe] at HKF hdd
              rw [← hkge] at HKG hdd
              have hap := HIH.out wr Nk zk rowsk Rk kf kg hmk (HR.out.kn rfl) hdd.1 hdd.2.1 hdd.2.2.1
              rw [← hsk] at hap
              obtain ⟨T, hT⟩ : ∃ T, T = step Nk k := ⟨_, rfl⟩
              rw [← hT] at hap
              have HT := Hid.mk_ hT
              have HAP := Hid.mk_ hap
              have HDD := Hid.mk_ hdd.2.2.2
              obtain ⟨N7, r, er⟩ := T
              clear hmk hp hGk hf1 hg1 hszk hkf hkg hdd hkfe hkge hsk hT hap
              go_wp2_with (first
                | (go_at_call 81; (with_reducible refine HKF.out.mono ?_); rintro e w5 ⟨rfl, rfl⟩)
                | (go_at_call 81; (with_reducible refine HKG.out.mono ?_); rintro e w6 ⟨rfl, rfl⟩)
                | (go_at_call 76; (with_reducible refine HAP.out.mono ?_); rintro e w7 ⟨rfl, R7, hgrew, hkn7, hrl7, hon7⟩; obtain ⟨z7, rows7, hm7, hmo7, hz7⟩ := hgrew; have hb7 : Blk w7 gk (padI ks sz) 3 := HR.out.blk.mods hmo7 HR.out.gks.2; have hc7 : w7.cell? ⟨gk, k, none⟩ = some (.int .i64 0) := (hb7.cell k).trans (padI_at HR.out.len hlt); have hf7 := hb7.free k; have hl7 := hb7.lt))
              have hgb : ¬ rmz b lv rows7 z7 gk := fun hq => by
                rcases hz7 _ hq with e | e
                · exact HR.out.gks.2 e
                · have := HR.out.blk.lt; omega
              have hfar : ∀ q, rmz b lv rows7 z7 q → (w7.setCell ⟨gk, k, none⟩ (.int .i64 r)).heap[q]? = w7.heap[q]? := fun q hq => Below.heap_setCell _ _ _ _ (fun e => hgb (by have e : q = gk := e; rw [← e]; exact hq))
              have hm8 := hm7.move (w' := w7.setCell ⟨gk, k, none⟩ (.int .i64 r)) (by simp [World.setCell]) (fun q hq => hfar q (.inr hq)) (fun q hq => hfar q (.inl hq))
              have hb8 : Blk (w7.setCell ⟨gk, k, none⟩ (.int .i64 r)) gk (padI (ks ++ [r]) sz) 3 := by
                have := hb7.set k (.int .i64 r)
                have e := padI_set (ks := ks) (n := sz) (r := r) (by rw [HR.out.len]; exact hlt)
                rw [HR.out.len] at e
                rwa [e] at this
              have hmo8 : Mods (rmz b lv rows z) w (w7.setCell ⟨gk, k, none⟩ (.int .i64 r)) := by
                have h2 := HR.out.mods.trans hmo7 (fun q hq hqz => by
                  rcases HR.out.zs _ hqz with e2 | e2
                  · exact e2
                  · omega)
                exact h2.setCell (fun hlt => by have := HR.out.gks.1; have : gk < w.heap.size := hlt; omega) _
              have hz8 : ∀ q, rmz b lv rows7 z7 q → rmz b lv rows z q ∨ w.heap.size ≤ q := fun q hq => by
                rcases hz7 _ hq with e | e
                · exact HR.out.zs _ e
                · exact .inr (by have := HR.out.mods.size; omega)
              have hrun : runK step N (k + 1) = (N7, ks ++ [r], er) := by
                conv => lhs; unfold runK
                rw [HR.out.run, if_pos rfl]
                show ((step Nk k).1, ks ++ [(step Nk k).2.1], (step Nk k).2.2) = _
                rw [← HT.out]
              have hkf := runK_fine HST.out HG.out (k + 1) hlt
              rw [hrun] at hkf
              exact ⟨⟨k + 1, N7, ks ++ [r], z7, rows7, R7, er, by omega, by go_num, Hid.mk_ ⟨hrun, hm8, hkn7, hrl7.trans (HR.out.mem.rl.trans HR.out.rl), hb8, hmo8, hz8, ⟨HR.out.gks.1, hgb⟩, by rw [List.length_append, HR.out.len]; rfl, hkf.pre, HR.out.only.trans (hon7.le HDD.out)⟩⟩, by simp [intOf]; omega⟩
            · by_cases her : er = 0
              · subst her
                have hke : k = sz := by omega
                subst hke
                have hlt1 : ¬ ((k : Nat) : Int) < k := by omega
                have hlen := HR.out.len
                have hints : IntsIn wr (some ⟨gk, 0, none⟩) ks := by
                  refine ⟨by omega, fun h0 => ⟨gk, 0, rfl, HR.out.blk.lt, fun j hj => ?_⟩⟩
                  rw [Nat.zero_add, HR.out.blk.cell j, padI_full hlen]
                  simp [hj]
                have hmake := rmake_at (c := k) HR.out.mem.ra hlS (by rw [hlen, HSZ.out]) hints
                rw [hlen] at hmake
                have hOO : O = makeA S M Nk (ln : Int) ks := by
                  rw [HBU.out]
                  unfold build
                  rw [HSZT.out, HR.out.run, if_pos rfl]
                unfold RMakePost at hmake
                rw [← hOO] at hmake
                have HMK := Hid.mk_ hmake
                have hmay := runK_may (by rw [HSZT.out]; exact HST.out) HG.out HL0.out (by rw [HSZT.out, HR.out.run])
                rw [HSZT.out, HR.out.run] at hmay
                have hfin := make_fine HR.out.mem.ra.good hmay
                simp only at hfin
                rw [← hOO] at hfin
                have HFI := Hid.mk_ hfin
                have y0 := HR.out.mem.blk.cell 0
                clear hints hmake hmay hfin hOO hlen hgo
                obtain ⟨N9, r9, e9⟩ := O
                go_upto_region 18 with (go_at_call 18; (with_reducible refine HMK.out.mono ?_); rintro e w9 ⟨rfl, hg9⟩; have HG9 := Hid.mk_ (HR.out.mem.grew hg9); clear hg9)
                obtain ⟨z9, hm9, hmo9, hz9⟩ := HG9.out
                have c3 := hm9.blk.cell 3
                have c3f := hm9.blk.free 3
                have c3l := hm9.blk.lt
                have hm10 := hm9.setE e9
                have HMO9 := Hid.mk_ hmo9
                have HZ9 := Hid.mk_ hz9
                obtain ⟨w10, hw10⟩ : ∃ w10, w10 = w9.setCell ⟨b, 3, none⟩ (.int .i64 e9) := ⟨_, rfl⟩
                rw [← hw10] at hm10
                have HM10 := Hid.mk_ hm10
                have HW10 := Hid.mk_ hw10
                clear hm9 hmo9 hz9 y0 m3 ml hw10 hm10
                go_upto_region 19 with fail
                rw [← HW10.out]
                clear c3 c3f c3l
                have hrk : rowsk.length = R.length := by have := HM10.out.rl; have := HR.out.rl; have := HRL.out; omega
                have hfk : fn < rowsk.length := by rw [hrk]; exact hfR
                have hfk1 : (fn : Int) < rowsk.length := by omega
                have hfRk : fn < Rk.length := by rw [← HM10.out.rl]; exact hfk
                obtain ⟨gl, cl, hlv, hgl, _⟩ := HM10.out.lrow.some_ (by omega)
                have hm := HM10.out
                rw [hlv] at hm
                have HMV := Hid.mk_ hm
                have y2 : w10.cell? ⟨b, 2, none⟩ = some (.slice (some ⟨gl, 0, none⟩) rowsk.length cl) := hm.blk.cell 2
                have yl := hm.blk.lt
                have k10 : w10.cell? ⟨gl, fn, none⟩ = some (rowsk[fn]'hfk) := by rw [hm.lrow.cell fn (by omega)]; exact List.getElem?_eq_getElem hfk
                have kf10 := hm.lrow.free fn
                have hrr := hm.rws fn hfk hfRk
                have hfew := (HR.out.kn rfl).few fn hfRk
                obtain ⟨AR, cR, hvv⟩ := hrr.shape
                rw [hvv] at k10 hrr
                obtain ⟨lr, hlr⟩ : ∃ lr, lr = Rk[fn]'hfRk := ⟨_, rfl⟩
                rw [← hlr] at k10 hrr hfew
                have HRR := Hid.mk_ hrr
                have HVV := Hid.mk_ hvv
                have HLR := Hid.mk_ hlr
                have HLV := Hid.mk_ hlv
                have hbnv : (rowsk[fn]'hfk).ownBlock ≠ some b := row_blk (hm.rws fn hfk hfRk) hm.blk (by decide)
                have hgnv : (rowsk[fn]'hfk).ownBlock ≠ some gl := fun e => row_type hm.lrow (hm.rws fn hfk hfRk) (by decide) rfl e
                have HBN := Hid.mk_ hbnv
                have HGN := Hid.mk_ hgnv
                obtain ⟨i125, hi125, hz0, hz1, hz2⟩ := info_parts Try.info125
                have hfinal : ∀ (g11 c11 : Nat) (w11 : World), Row w11 125 2 (.slice (some ⟨g11, 0, none⟩) (lr.length + 1) c11) (lr.length + 1) (prs lr ++ [.int .i64 g, .int .i64 r9]) → (w10.alloc (.cells #[.int .i64 g, .int .i64 r9] 125)).drew.grownBy w11 (Value.slice AR lr.length cR).ownBlock → ((Value.slice AR lr.length cR).ownBlock = some g11 ∨ g11 = w10.heap.size + 1) → RApplyPost w b rb what S M N0 z lv rows R (deep S N0 (fn : Int) g) (N9, r9, e9) (.returned (.int .i64 r9)) (w11.setCell ⟨gl, fn, none⟩ (.slice (some ⟨g11, 0, none⟩) (lr.length + 1) c11)) := by
                  intro g11 c11 w11 h1 h2 h3
                  have ha := HMV.out.append hfk hfRk (g := g) (x := r9) (w1 := w11) (g9 := g11) (c9 := c11) (o := .cells #[.int .i64 g, .int .i64 r9] 125) (by rw [← HLR.out]; exact h1) (by rw [HVV.out, ← HLR.out]; exact grown_drew0 h2) (by rw [HVV.out, ← HLR.out]; exact h3)
                  rw [← HLR.out, ← HLV.out] at ha
                  have hs1 := HR.out.mods.size
                  have hs2 := HMO9.out.size
                  have hs3 : w10.heap.size = w9.heap.size := by rw [HW10.out]; simp [World.setCell]
                  have m1 := HR.out.mods.trans HMO9.out (fun q hq hqz => by
                    rcases HR.out.zs q (.inl hqz) with e | e
                    · exact e
                    · omega)
                  have m2 := m1.setCell (p := ⟨b, 3, none⟩) (fun _ => .inr (.inl rfl)) (.int .i64 e9)
                  rw [← HW10.out] at m2
                  have hsub : ∀ q, rmz b lv rowsk z9 q → rmz b lv rows z q ∨ w.heap.size ≤ q := fun q hq => by
                    rcases hq with e | e
                    · rcases HZ9.out q e with e | e
                      · exact HR.out.zs q (.inl e)
                      · exact .inr (by omega)
                    · exact HR.out.zs q (.inr e)
                  have m3 := m2.trans ha.2.1 (fun q hq hqz => by
                    rcases hsub q hqz with e | e
                    · exact e
                    · omega)
                  have hgood9 : Good S M N9 := HM10.out.ra.good
                  have hdl : deep S N0 (fn : Int) g ≤ deep S N0 (fn : Int) g := Int.le_refl _
                  have hlr2 := HLR.out
                  refine ⟨rfl, _, ⟨z9, _, ha.1, m3, fun q hq => ?_⟩, fun e0 => ?_, ?_, ?_⟩
                  · rcases ha.2.2 q hq with e | e
                    · exact hsub q e
                    · exact .inr (by omega)
                  · have hkn := (HR.out.kn rfl).mono HR.out.mem.ra.good hgood9 HFI.out.pre
                    rw [hlr2]
                    refine hkn.put hfRk HF0.out.2 ?_ (HR.out.only.new hfR hfRk (HNO.out (by trivial)) (by omega))
                    show runT (what - 1) S M N9 (fn : Int) g = (N9, r9, 0)
                    have e1 := HO.out
                    have e0' : e9 = 0 := e0
                    have := runT_again (op := what - 1) (N2 := N9) HG.out HFA.out.1 HFA.out.2 (by rw [← e1]; exact e0') (by rw [← e1]; exact List.prefix_refl _) hgood9
                    rw [← e1] at this
                    exact this
                  · rw [List.length_set]; exact HR.out.rl
                  · rw [hlr2]
                    exact (HR.out.only.le (by omega)).set hfRk g r9 hdl
                have HFN2 := Hid.mk_ hfinal
                clear hm hvv hlv hlr hbnv hgnv hrk hfinal
                go_region_law (first
                  | (refine step_append_row _ ?_ (.tmp 120) (.tmp 124) 124 ?_ 125 i125 _ 2 16 Try.underlying124 hi125 hz0 hz1 hz2 rfl (by omega) (.slice AR lr.length cR) lr.length (prs lr) ?_ (Row.drew (HRR.out.alloc _)) ⟨w10.heap.size, 0, none⟩ 1 1 [.int .i64 g, .int .i64 r9] ?_ (by rfl) (fun jj u hj => two_cells w10 _ _ _ rfl jj u hj) (by simp [Value.oneCell']) (by omega) (by unfold maxLen; omega) (by omega) (w10.heap.size + 1) (by simp) ?_; rfl; rfl; go_simp; go_simp; intro g11 c11 w11 hrow11 hgrow11 hloc11 hlt11; have hm11 : Mods (fun q => (rowsk[fn]'hfk).ownBlock = some q) w10 w11 := (Mods.drew ((Mods.refl _ w10).alloc _)).grown hgrow11 (fun q e _ => by rw [HVV.out, HLR.out.symm]; exact e); have y11 : w11.cell? ⟨b, 2, none⟩ = some (.slice (some ⟨gl, 0, none⟩) rowsk.length cl) := (HMV.out.blk.mods hm11 HBN.out).cell 2; have yl11 := (HMV.out.blk.mods hm11 HBN.out).lt; have gg := hm11.block gl hgl HGN.out; have k11 := (World.cell?_of_block (a := ⟨gl, fn, none⟩) gg).trans k10; have f11 := (World.frozen?_of_block (a := ⟨gl, fn, none⟩) gg).trans kf10; have gl11 : gl < w11.heap.size := Nat.lt_of_lt_of_le hgl hm11.size))
                all_goals (
                  go_wp2_with fail
                  go_ret
                  exact HFN2.out _ _ _ hrow11 hgrow11 hloc11)
              · have HE := Hid.mk_ her
                have t1 : (er != 0) = true := by simpa using her
                have t2 : decide (¬ er = 0) = true := by simpa using her
                have t3 : (!(er == 0)) = true := by simpa using her
                have t4 : (er == 0) = false := by simpa using her
                have t5 : decide (er = 0) = false := by simpa using her
                have hOO : O = (Nk, 0, er) := by
                  rw [HBU.out]
                  unfold build
                  rw [HSZT.out, runK_err (k := k) hk (by rw [HR.out.run]; exact her), HR.out.run, if_neg her]
                have HOO := Hid.mk_ hOO
                clear her hOO hgo
                by_cases hks : (k : Int) < sz
                all_goals (
                  go_wp2_with fail
                  go_ret
                  rw [HOO.out]
                  exact ⟨rfl, Rk, ⟨zk, rowsk, HR.out.mem, HR.out.mods, HR.out.zs⟩, fun e => absurd e HE.out, HR.out.rl, HR.out.only.le (by omega)⟩)
end
end Go.Proofs.Ytmfdcaalbpikpaa
