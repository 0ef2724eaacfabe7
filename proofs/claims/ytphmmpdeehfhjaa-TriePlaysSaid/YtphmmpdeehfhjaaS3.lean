import Derived.Test.YtphmmpdeehfhjaaS2
namespace Go.Proofs.Ytphmmpdeehfhjaa
open Go.RowKit
set_option linter.unusedVariables false
set_option linter.unusedSimpArgs false
theorem rows_told {w : World} {t : Tr} {a : Nat} {fp : List Nat} {L : List Row} (h : TrieAt w t a fp) (hh : t.ht ≤ 32) (hL : t.all 0 0 = L) :
    Calls Try.prog 16 #[.pointer (some ⟨a, 0, none⟩)] w fun e w' => ∃ g, e = .returned (.slice (some ⟨g, 0, none⟩) L.length L.length) ∧ RowsIn w' (some ⟨g, 0, none⟩) L ∧ w.heap.size ≤ g ∧ g < w'.heap.size ∧ Below w.heap.size w w' := by
  subst hL
  refine (rows_any t a fp w h hh).mono ?_
  rintro e w' ⟨g, cur, rfl, hg, hc, ht, hB⟩
  refine ⟨g, rfl, ⟨?_, fun hn => ⟨g, 0, rfl, fun j hj => ?_⟩⟩, hg, (Array.getElem?_eq_some_iff.1 hc).1, hB⟩
  · have := Tr.all_length t 0 0
    have hp := Nat.pow_le_pow_right (n := 2) (by omega) hh
    omega
  · have := row_cells hc ht hj
    simp only [Nat.zero_add]
    exact this
def LB (base : Nat) (w : World) (gt : Nat) (told : List Row) (t : Tr) (a a2 : Nat) (fp : List Nat) (x16 : Value) (wr : World) : Prop :=
  ∃ (i : Nat) (z : Int) (fp2 : List Nat), i ≤ told.length ∧ x16 = .int .i64 z ∧ z = (i : Int) - 1 ∧ Two base w wr (some ⟨gt, 0, none⟩) told ((told.drop i).reverse.foldl putRow (.leaf 0)) a2 fp2 t a fp
def LC (w7 : World) (pn : Int) (x20 x21 x22 : Value) (wr : World) : Prop :=
  ∃ k : Nat, k ≤ 65536 ∧ x22 = .int .i64 (k : Int) ∧ Lists w7.heap.size wr x20 x21 k k (thereL pn k) (backL pn k) ∧ Below w7.heap.size w7 wr
theorem Try.info3 : (Try.prog.info? 3).map (fun i => (i.zero, i.size, i.bytes)) = some (some (.int .i64 0), 1, 8) := by kernel_rfl
def LA (base : Nat) (w : World) (A : Option Addr) (all : List Row) (begin : Int) (a a2 : Nat) (fp2 : List Nat) (x14 : Value) (wr : World) : Prop :=
  ∃ (k : Nat) (fp : List Nat), k ≤ all.length ∧ x14 = .int .i64 (k : Int) ∧ Two base w wr A all ((all.take k).foldl putRow (.leaf begin)) a fp (.leaf 0) a2 fp2
theorem Two.start {base : Nat} {w w1 w2 w3 w4 : World} {A : Option Addr} {all : List Row} {a a2 : Nat} {fp fp2 : List Nat} {t t2 : Tr}
    (hb : base = w.heap.size) (h1 : Below w.heap.size w w1) (ht : TrieAt w2 t a fp) (hf : ∀ k ∈ fp, w1.heap.size ≤ k) (h2 : Below w1.heap.size w1 w2)
    (ht2 : TrieAt w3 t2 a2 fp2) (hf2 : ∀ k ∈ fp2, w2.heap.size ≤ k) (h3 : Below w2.heap.size w2 w3) (hR : RowsIn w4 A all) (hA : ∀ g o, A = some ⟨g, o, none⟩ → w3.heap.size ≤ g ∧ g < w4.heap.size) (h4 : Below w3.heap.size w3 w4) :
    Two base w w4 A all t a fp t2 a2 fp2 where
  trie := (ht.new h3).new h4
  still := ht2.new h4
  rows := hR
  fpb := fun q hq => by have := hf q hq; have := h1.size; omega
  fpb2 := fun q hq => by have := hf2 q hq; have := h1.size; have := h2.size; omega
  apart := fun q hq hq2 => by have := hf2 q hq; have := ht.lt q hq2; omega
  rf := fun g o e => by
    obtain ⟨k1, k2⟩ := hA g o e
    exact ⟨k2, fun hq => by have := ht.lt g hq; have := h3.size; omega⟩
  B := by rw [hb]; exact ((h1.trans (h2.mono h1.size)).trans (h3.mono (Nat.le_trans h1.size h2.size))).trans (h4.mono (Nat.le_trans (Nat.le_trans h1.size h2.size) h3.size))
set_option maxHeartbeats 8000000 in
set_option maxRecDepth 100000 in
theorem triesame_any (A : Option Addr) (c : Nat) (l : List Row) (first by_ : Int) (w : World) (hl : RowsIn w A l) (hwf : ∀ r ∈ l, r.wf) (hf : i64 first) (hn : i64 by_) :
    Calls Try.prog 6 #[.int .i64 first, .slice A l.length c, .int .i64 by_] w fun e w' => e = .returned (.bool true) ∧ Below w.heap.size w w' := by
  have HL := Hid.mk_ hl
  have HW := Hid.mk_ hwf
  have HF := Hid.mk_ hf
  have HN := Hid.mk_ hn
  obtain ⟨base, hbase⟩ : ∃ b, b = w.heap.size := ⟨_, rfl⟩
  clear hl hwf hf hn
  by_cases hlen : l.length ≤ 33554431
  · have hle : ¬ ((33554431 : Int) < l.length) := by omega
    obtain ⟨begin, hbg⟩ : ∃ b, b = pickI first 65536 := ⟨_, rfl⟩
    obtain ⟨pn, hpn⟩ : ∃ b, b = pickI by_ 65536 := ⟨_, rfl⟩
    have hb := pickI_range first 65536 (by decide)
    have hp := pickI_range by_ 65536 (by decide)
    rw [← hbg] at hb
    rw [← hpn] at hp
    obtain ⟨b0, b1⟩ : 0 ≤ begin ∧ begin ≤ 65535 := by omega
    obtain ⟨p0, p1⟩ : 0 ≤ pn ∧ pn ≤ 65535 := by omega
    have hok : ∀ r ∈ l.map fitRow, rowOk r = true := by intro r hr; obtain ⟨q, _, rfl⟩ := List.mem_map.1 hr; exact fitRow_ok q
    have hal : (l.map fitRow).length ≤ 33554431 := by simpa using hlen
    obtain ⟨all, hall⟩ : ∃ al, al = l.map fitRow := ⟨_, rfl⟩
    have hfit := fun W h => fit_any' A c l W h hlen HW.out
    rw [← hall] at hok hal hfit
    have HBG := Hid.mk_ hbg
    have HPN := Hid.mk_ hpn
    have HB0 := Hid.mk_ b0
    have HP0 := Hid.mk_ p0
    have HOK := Hid.mk_ hok
    have HFIT := Hid.mk_ hfit
    have HBS := Hid.mk_ hbase
    clear hbg hpn hb hp hok hall hfit hlen hbase b0
    obtain ⟨i0, hi0, hz0, hz1, hz2_⟩ := info_parts Try.info3
    go_enter Try.func6, Try.ntmps6
    go_wp2_with (first
      | (go_at_call 8; (with_reducible refine (awake_any _).mono ?_); rintro e w1 ⟨rfl, hb1⟩)
      | (go_at_call 11; (with_reducible refine (pick_at HBG.out (by decide) HF.out _).mono ?_); rintro e w' ⟨rfl, rfl⟩)
      | (go_at_call 9; (with_reducible refine (new_yes (n := begin) HB0.out b1 _).mono ?_); rintro e w2 ⟨a, fp, rfl, ht2, hf2, hb2⟩)
      | (go_at_call 9; (with_reducible refine (new_yes (n := 0) (by decide) (by decide) _).mono ?_); rintro e w3 ⟨a2, fp2, rfl, ht3, hf3, hb3⟩; have hz3 := Hid.mk_ ((hb1.trans (hb2.mono hb1.size)).trans (hb3.mono (Nat.le_trans hb1.size hb2.size))))
      | (go_at_call 17; (with_reducible refine (HFIT.out _ (HL.out.new hz3.out)).mono ?_); rintro e w4 ⟨A', c', rfl, hR4, hA4, hb4⟩))
    have hst := Two.start HBS.out hb1 ht2 hf2 hb2 ht3 hf3 hb3 hR4 hA4 hb4
    have HST := Hid.mk_ hst
    clear hst hb1 ht2 hf2 hb2 ht3 hf3 hb3 hR4 hA4 hb4 hz3
    go_loopw [14] (fun x14 wr => LA base w A' all begin a a2 fp2 x14 wr) (fun x _ => all.length - (intOf x).toNat)
    case atStart => exact ⟨0, fp, Nat.zero_le _, rfl, HST.out⟩
    case round =>
      clear HST
      obtain ⟨k, fp, hk, rfl, hs⟩ := hrel
      have HS := Hid.mk_ hs
      clear hs
      by_cases hlt : k < all.length
      · have hlt1 : (k : Int) < all.length := by omega
        obtain ⟨g, o, rfl, hc⟩ := HS.out.rows.2 (by omega)
        obtain ⟨c0, c1, c2⟩ := hc k hlt
        have hgl : g < wr.heap.size := World.block_lt_of_cell? wr _ c0
        have hok := HOK.out _ (List.getElem_mem hlt)
        have hT : all.take (k + 1) = all.take k ++ [all[k]'hlt] := List.take_succ_eq_append_getElem hlt
        obtain ⟨r, hr⟩ : ∃ r, r = all[k]'hlt := ⟨_, rfl⟩
        rw [← hr] at c0 c1 c2 hok hT
        have HOK1 := Hid.mk_ hok
        have HT := Hid.mk_ hT
        have hsd := HS.out.new (w' := wr.drew) (by rw [HBS.out]; exact HS.out.B.size) (Drawn_below wr 1)
        have hblk := fun (w2 : World) (h : Mods (· ∈ fp) wr.drew w2) => h.block g hgl (HS.out.rf g o rfl).2
        have HSD := Hid.mk_ hsd
        have HBL := Hid.mk_ hblk
        clear hr hc hok hT hsd hblk
        go_wp2_with fail
        go_region_held3 (fun w' => w'.cell? ⟨g, o + k * 3, none⟩ = some (.int .i64 r.a) ∧ w'.cell? ⟨g, o + k * 3 + 1, none⟩ = some (.int .i64 r.b) ∧ w'.cell? ⟨g, o + k * 3 + 2, none⟩ = some (.int .i64 r.l)) (first | exact ⟨c0, c1, c2⟩ | assumption)
          (first | (go_at_call 18; (with_reducible refine (tput_good HSD.out.trie HOK1.out).mono ?_); rintro e w2 ⟨f2, rfl, ht2, hs2, hm2⟩; have hK := And.intro ((World.cell?_of_block (w := wr.drew) (w' := w2) (a := ⟨g, o + k * 3, none⟩) (HBL.out w2 hm2)).trans c0) (And.intro ((World.cell?_of_block (w := wr.drew) (w' := w2) (a := ⟨g, o + k * 3 + 1, none⟩) (HBL.out w2 hm2)).trans c1) ((World.cell?_of_block (w := wr.drew) (w' := w2) (a := ⟨g, o + k * 3 + 2, none⟩) (HBL.out w2 hm2)).trans c2))))
        have hS2 := HSD.out.put (by rw [HBS.out]; exact HS.out.B.size) ht2 hs2 hm2
        have HS2 := Hid.mk_ hS2
        clear hS2 ht2 hs2 hm2
        go_wp2_with fail
        refine ⟨⟨k + 1, f2, by omega, by go_num, ?_⟩, by simp [intOf]; omega⟩
        rw [HT.out, List.foldl_append]
        exact HS2.out
      · have hge : ¬ ((k : Int) < all.length) := by omega
        obtain ⟨t, htt⟩ : ∃ t, t = all.foldl putRow (.leaf begin) := ⟨_, rfl⟩
        have hS : Two base w wr A' all t a fp (.leaf 0) a2 fp2 := by
          have h := HS.out
          rwa [List.take_of_length_le (show all.length ≤ k by omega), ← htt] at h
        have hht : t.ht ≤ 32 := by rw [htt]; exact ht_puts _ _ (fun r hr => by have := HOK.out r hr; simp [rowOk] at this; exact this.1) (by simp [Tr.ht])
        have hcan : t.canon := by rw [htt]; exact canon_puts _ _ trivial
        have hlab : ∀ v ∈ t.labels, 0 ≤ v ∧ v ≤ 65535 := by rw [htt]; exact labels_puts _ _ HOK.out (by intro v hv; simp [Tr.labels] at hv; subst hv; exact ⟨HB0.out, b1⟩)
        have hbw : base ≤ wr.heap.size := by rw [HBS.out]; exact hS.B.size
        obtain ⟨told, htold⟩ : ∃ L, L = t.all 0 0 := ⟨_, rfl⟩
        have hr16 := rows_told hS.trie hht htold.symm
        have htl : told.length ≤ 4294967296 := by
          have h1 := (Tr.all_length t 0 0).1
          rw [← htold] at h1
          exact Nat.le_trans h1 (Nat.pow_le_pow_right (n := 2) (by omega) hht)
        have HS1 := Hid.mk_ hS
        have HHT := Hid.mk_ hht
        have HCAN := Hid.mk_ hcan
        have HLAB := Hid.mk_ hlab
        have HBW := Hid.mk_ hbw
        have HTOLD := Hid.mk_ htold
        have HR16 := Hid.mk_ hr16
        clear hS hht hcan hlab hbw htold hr16 HS htt HOK HFIT
        go_wp2_with (go_at_call 16; (with_reducible refine HR16.out.mono ?_); rintro e w6 ⟨gt, rfl, hr6, hg6, hgl6, hb6⟩)
        have htwo := (HS1.out.new HBW.out hb6).turn hr6 hgl6 (fun hq => by have := HS1.out.still.lt gt hq; omega)
        have HTWO := Hid.mk_ htwo
        have HB6 := Hid.mk_ (Nat.le_trans HBW.out hb6.size)
        clear htwo hr6 hg6 hb6 HS1 HR16 HL HW HF
        have hrok := rows_ok HHT.out HLAB.out
        rw [← HTOLD.out] at hrok
        have HROK := Hid.mk_ hrok
        clear hrok
        go_loopw [16] (fun x16 wr => LB base w gt told t a a2 fp x16 wr) (fun x _ => (intOf x + 1).toNat)
        case atStart => exact ⟨told.length, _, fp2, Nat.le_refl _, rfl, rfl, by rw [List.drop_length]; exact HTWO.out⟩
        case round =>
          clear HTWO
          obtain ⟨i, z, fp2, hi, rfl, hz, hs⟩ := hrel
          have HS := Hid.mk_ hs
          clear hs
          by_cases h0 : 0 < i
          · obtain ⟨i', rfl⟩ : ∃ i', i = i' + 1 := ⟨i - 1, by omega⟩
            obtain rfl : z = (i' : Int) := by omega
            have hil : i' < told.length := by omega
            have hil1 : (i' : Int) < told.length := by omega
            obtain ⟨g, o, e0, hc⟩ := HS.out.rows.2 (by omega)
            cases e0
            obtain ⟨c0, c1, c2⟩ := hc i' hil
            simp only [Nat.zero_add] at c0 c1 c2
            have hgl : gt < wr.heap.size := World.block_lt_of_cell? wr _ c0
            have hok := HROK.out _ (List.getElem_mem hil)
            have hT : (told.drop i').reverse = (told.drop (i' + 1)).reverse ++ [told[i']'hil] := by rw [List.drop_eq_getElem_cons hil, List.reverse_cons]
            obtain ⟨r, hr⟩ : ∃ r, r = told[i']'hil := ⟨_, rfl⟩
            rw [← hr] at c0 c1 c2 hok hT
            have HOK1 := Hid.mk_ hok
            have HT := Hid.mk_ hT
            have hsd := HS.out.new (w' := wr.drew) (by rw [HBS.out]; exact HS.out.B.size) (Drawn_below wr 1)
            have hblk := fun (w2 : World) (h : Mods (· ∈ fp2) wr.drew w2) => h.block gt hgl (HS.out.rf gt 0 rfl).2
            have HSD := Hid.mk_ hsd
            have HBL := Hid.mk_ hblk
            clear hr hc hok hT hsd hblk hz
            go_wp2_with fail
            go_region_held3 (fun w' => w'.cell? ⟨gt, i' * 3, none⟩ = some (.int .i64 r.a) ∧ w'.cell? ⟨gt, i' * 3 + 1, none⟩ = some (.int .i64 r.b) ∧ w'.cell? ⟨gt, i' * 3 + 2, none⟩ = some (.int .i64 r.l)) (first | exact ⟨c0, c1, c2⟩ | assumption)
              (first | (go_at_call 18; (with_reducible refine (tput_good HSD.out.trie HOK1.out).mono ?_); rintro e w2 ⟨f2, rfl, ht2, hs2, hm2⟩; have hK := And.intro ((World.cell?_of_block (w := wr.drew) (w' := w2) (a := ⟨gt, i' * 3, none⟩) (HBL.out w2 hm2)).trans c0) (And.intro ((World.cell?_of_block (w := wr.drew) (w' := w2) (a := ⟨gt, i' * 3 + 1, none⟩) (HBL.out w2 hm2)).trans c1) ((World.cell?_of_block (w := wr.drew) (w' := w2) (a := ⟨gt, i' * 3 + 2, none⟩) (HBL.out w2 hm2)).trans c2))))
            have hS2 := HSD.out.put (by rw [HBS.out]; exact HS.out.B.size) ht2 hs2 hm2
            have HS2 := Hid.mk_ hS2
            clear hS2 ht2 hs2 hm2
            go_wp2_with fail
            refine ⟨⟨i', _, f2, by omega, rfl, by go_num, ?_⟩, by simp [intOf]⟩
            rw [HT.out, List.foldl_append]
            exact HS2.out
          · obtain rfl : i = 0 := by omega
            obtain rfl : z = -1 := by omega
            have hu : (told.drop 0).reverse.foldl putRow (.leaf 0) = t := puts_rows HHT.out HCAN.out _ (fun r => by rw [HTOLD.out]; simp)
            have hS := HS.out
            rw [hu] at hS
            have hmk := make_all HHT.out HCAN.out HLAB.out
            rw [← HTOLD.out] at hmk
            have hbw : base ≤ wr.heap.size := by rw [HBS.out]; exact hS.B.size
            have hmake : Calls Try.prog 22 #[.slice (some ⟨gt, 0, none⟩) told.length told.length] wr (MakePost wr (some t)) := by rw [← hmk]; exact make_any _ _ told wr hS.rows
            have HS1 := Hid.mk_ hS
            have HMK := Hid.mk_ hmake
            have HBW := Hid.mk_ hbw
            clear hS hmk hmake hbw hu HS hz
            go_wp2_with (go_at_call 22; (with_reducible refine HMK.out.mono ?_); rintro e w7 ⟨a3, fp3, rfl, ht7, hf7, hb7⟩)
            have HT7 := Hid.mk_ ht7
            have HF7 := Hid.mk_ hf7
            have HB7 := Hid.mk_ hb7
            clear ht7 hf7 hb7
            obtain ⟨Wm, hWm⟩ : ∃ W, W = wr := ⟨_, rfl⟩
            rw [← hWm] at HS1 HF7 HB7 HBW
            clear hWm HMK
            go_loopw [20, 21, 22] (fun x20 x21 x22 wr => LC w7 pn x20 x21 x22 wr) (fun _ _ x _ => 65536 - (intOf x).toNat)
            case atStart => exact ⟨0, by omega, rfl, ⟨World.ownsRow_nil _ _ _ _, World.ownsRow_nil _ _ _ _, by simp [Value.ownBlock]⟩, Below.refl _ _⟩
            case round =>
              obtain ⟨k, hk, rfl, hls, hBk⟩ := hrel
              obtain ⟨A20, c20, rfl⟩ := own_shape hls.ownx
              obtain ⟨A21, c21, rfl⟩ := own_shape hls.owny
              have HLS := Hid.mk_ hls
              have HBK := Hid.mk_ hBk
              have hsz := hBk.size
              clear hls hBk
              by_cases hk6 : k < 65536
              · have hk7 : (k : Int) ≤ 65535 := by omega
                obtain ⟨X1, hX1⟩ : ∃ X, X = pickI ((k : Int) + pn) 65536 := ⟨_, rfl⟩
                obtain ⟨X2, hX2⟩ : ∃ X, X = pickI ((k : Int) + 65535 + 1 - pn) 65536 := ⟨_, rfl⟩
                have i1 : i64 ((k : Int) + pn) := ⟨by omega, by omega⟩
                have i2 : i64 ((k : Int) + 65535 + 1 - pn) := ⟨by omega, by omega⟩
                have HX1 := Hid.mk_ hX1
                have HX2 := Hid.mk_ hX2
                have I1 := Hid.mk_ i1
                have I2 := Hid.mk_ i2
                clear hX1 hX2 i1 i2
                go_wp2_with (first
                  | (go_at_call 11; (with_reducible refine (pick_at HPN.out (by decide) HN.out _).mono ?_); rintro e w' ⟨rfl, rfl⟩)
                  | (go_at_call 11; (with_reducible refine (pick_at HX1.out (by decide) I1.out _).mono ?_); rintro e w' ⟨rfl, rfl⟩)
                  | (go_at_call 11; (with_reducible refine (pick_at HX2.out (by decide) I2.out _).mono ?_); rintro e w' ⟨rfl, rfl⟩)
                  | (at_builtin; refine wpList_append_own_at _ rfl _ _ 43 rfl w7.heap.size 3 i0 _ 1 8 Try.underlying43 hi0 hz0 hz1 hz2_ rfl (by omega) _ _ _ rfl (HL2.out.owny.alloc _) ⟨_, 0, none⟩ 1 1 [.int .i64 X2] rfl rfl (one_cells_at _ _ _ (by simp)) (by simp [Value.oneCell']) (by unfold maxLen; omega) (by omega) (by simp; omega) ?_; intro v2 w9 hown2 hgrow2 hnil2 hloc2)
                  | (at_builtin; refine wpList_append_own_at _ rfl _ _ 43 rfl w7.heap.size 3 i0 _ 1 8 Try.underlying43 hi0 hz0 hz1 hz2_ rfl (by omega) _ _ _ rfl (HLS.out.ownx.alloc _) ⟨_, 0, none⟩ 1 1 [.int .i64 X1] rfl rfl (one_cells_at _ _ _ (by simp)) (by simp [Value.oneCell']) (by unfold maxLen; omega) (by omega) (by simp; omega) ?_; intro v1 w8 hown1 hgrow1 hnil1 hloc1; have HL2 := Hid.mk_ ((HLS.out.new ((Below.refl wr.heap.size wr).alloc (Nat.le_refl _) _)).growx (news := [X1]) hgrow1 hloc1 hown1); have hB8 := (HBK.out.alloc hsz _).grown hgrow1 (by simp; omega) (fun q hq => (HLS.out.ownx.lt q hq).1); have hz8 := hB8.size))
                have hL9 := (HL2.out.new ((Below.refl w8.heap.size w8).alloc (Nat.le_refl _) _)).growy (news := [X2]) hgrow2 hloc2 hown2
                have hB9 := (hB8.alloc hz8 _).grown hgrow2 (by simp; omega) (fun q hq => (HL2.out.owny.lt q hq).1)
                have e1 : thereL pn (k + 1) = thereL pn k ++ [X1] := by rw [thereL_succ, HX1.out]
                have e2 : backL pn (k + 1) = backL pn k ++ [X2] := by rw [backL_succ, HX2.out, show (k : Int) + 65535 + 1 - pn = (k : Int) + 65536 - pn by omega]
                exact ⟨⟨k + 1, by omega, by go_num, by rw [e1, e2]; exact hL9, hB9⟩, by simp [intOf]; omega⟩
              · obtain rfl : k = 65536 := by omega
                obtain ⟨g20, c20', e20, hg20, hg20l, hL20⟩ := own_labs HLS.out.ownx (by omega) (by omega)
                obtain ⟨g21, c21', e21, hg21, hg21l, hL21⟩ := own_labs HLS.out.owny (by omega) (by omega)
                cases e20
                cases e21
                have hne : g20 ≠ g21 := fun e => HLS.out.apart g20 rfl (by rw [e]; rfl)
                have ht := HT7.out.new HBK.out
                have hlt3 : ∀ q ∈ fp3, q < w7.heap.size := HT7.out.lt
                obtain ⟨t1, ht1⟩ : ∃ t1, t1 = (t.map (remap (thereL pn 65536))).tidy := ⟨_, rfl⟩
                have hl1 : ∀ v ∈ t1.labels, 0 ≤ v ∧ v ≤ 65535 := by
                  intro v hv
                  rw [ht1] at hv
                  have hv := Tr.labels_tidy _ v hv
                  rw [Tr.labels_map] at hv
                  obtain ⟨x, hx, rfl⟩ := List.mem_map.1 hv
                  have hx2 := HLAB.out x hx
                  rw [remap_there hx2.1 hx2.2]
                  have := pickI_range (x + pn) 65536 (by decide)
                  omega
                have hh1 : t1.ht ≤ 32 := by rw [ht1]; exact Nat.le_trans (Tr.ht_tidy _) (by rw [Tr.ht_map]; exact HHT.out)
                have ht2 : (t1.map (remap (backL pn 65536))).tidy = t := by
                  rw [ht1]
                  exact map_back HCAN.out _ _ (fun x hx => by have := HLAB.out x hx; exact there_back HP0.out p1 this.1 this.2)
                have hm1 : Calls Try.prog 23 #[.pointer (some ⟨a3, 0, none⟩), .slice (some ⟨g20, 0, none⟩) 65536 c20] wr (TmapPost wr t1 a3 fp3) := by
                  rw [ht1]
                  exact tmap_yes t a3 fp3 _ 65536 c20 _ wr ht HHT.out (fun v hv => (HLAB.out v hv).1) hL20 (fun g o e hq => by cases e; have := hlt3 _ hq; omega) (List.all_eq_true.2 (fun v hv => by have := HLAB.out v hv; exact good_there this.1 this.2))
                have hm2 : ∀ (W : World) (f : List Nat), TrieAt W t1 a3 f → (∀ q ∈ f, q ∈ fp3) → Mods (· ∈ fp3) wr W → Calls Try.prog 23 #[.pointer (some ⟨a3, 0, none⟩), .slice (some ⟨g21, 0, none⟩) 65536 c21] W (TmapPost W t a3 f) := by
                  intro W f hW hf hmW
                  rw [← ht2]
                  have hB : ∀ q, q < wr.heap.size → q ∉ fp3 → W.heap[q]? = wr.heap[q]? := fun q h1 h2 => hmW.block q h1 h2
                  have hn21 : g21 ∉ fp3 := fun hq => by have := hlt3 _ hq; omega
                  have hLW : LabsAt W.heap.size W (some ⟨g21, 0, none⟩) 65536 (backL pn 65536) := by
                    obtain ⟨l1, l2, l3⟩ := hL21
                    refine ⟨l1, l2, fun hn => ?_⟩
                    obtain ⟨g, o, e, hg, hc⟩ := l3 hn
                    cases e
                    exact ⟨_, _, rfl, Nat.lt_of_lt_of_le hg hmW.size, fun j hj => (World.cell?_of_block (hB g21 hg hn21)).trans (hc j hj)⟩
                  exact tmap_yes t1 a3 f _ 65536 c21 _ W hW hh1 (fun v hv => (hl1 v hv).1) hLW (fun g o e hq => by cases e; exact hn21 (hf _ hq)) (List.all_eq_true.2 (fun v hv => by have := hl1 v hv; exact good_back this.1 this.2))
                have HM1 := Hid.mk_ hm1
                have HM2 := Hid.mk_ hm2
                clear hm1 hm2 ht hL20 hL21 ht1 hl1 hh1 ht2 hlt3
                have hbwr : base ≤ wr.heap.size := Nat.le_trans HBW.out (Nat.le_trans HB7.out.size hsz)
                have hu := (HS1.out.new HBW.out HB7.out).new (Nat.le_trans HBW.out HB7.out.size) HBK.out
                have hfin : ∀ W, Mods (· ∈ fp3) wr W → Two base w W (some ⟨gt, 0, none⟩) told t a2 fp2 t a fp := fun W hm => {
                  trie := hu.trie.mods hm (fun q hq hq3 => by have := HS1.out.trie.lt q hq; have := HF7.out q hq3; omega)
                  still := hu.still.mods hm (fun q hq hq3 => by have := HS1.out.still.lt q hq; have := HF7.out q hq3; omega)
                  rows := hu.rows.move fun g o e hg => hm.block g hg (fun hq3 => by cases e; have := (HS1.out.rf gt 0 rfl).1; have := HF7.out _ hq3; omega)
                  fpb := hu.fpb
                  fpb2 := hu.fpb2
                  apart := hu.apart
                  rf := fun g o e => ⟨Nat.lt_of_lt_of_le (hu.rf g o e).1 hm.size, (hu.rf g o e).2⟩
                  B := hu.B.trans (hm.below hbwr (fun q _ hq3 => Nat.le_trans HBW.out (HF7.out q hq3))) }
                have hsame : ∀ (W : World) (tt : Tr) (p : Nat) (f : List Nat), tt = t → TrieAt W tt p f → Calls Try.prog 16 #[.pointer (some ⟨p, 0, none⟩)] W fun e w' => ∃ g, e = .returned (.slice (some ⟨g, 0, none⟩) told.length told.length) ∧ RowsIn w' (some ⟨g, 0, none⟩) told ∧ Below W.heap.size W w' := by
                  intro W tt p f e hW
                  subst e
                  refine (rows_told hW HHT.out HTOLD.out.symm).mono ?_
                  rintro e w' ⟨g, he, h1, _, _, h2⟩
                  exact ⟨g, he, h1, h2⟩
                have hlaw : ∀ (W : World) (g : Nat), RowsIn W (some ⟨g, 0, none⟩) told → RowsIn W (some ⟨gt, 0, none⟩) told → Calls Try.prog 15 #[.slice (some ⟨g, 0, none⟩) told.length told.length, .slice (some ⟨gt, 0, none⟩) told.length told.length] W fun e w' => e = .returned (.bool true) ∧ Below W.heap.size W w' := by
                  intro W g h1 h2
                  refine (lawrows_any _ _ _ _ told told W h1 h2).mono ?_
                  rintro e w' ⟨he, n, rfl⟩
                  rw [decide_eq_true rfl] at he
                  exact ⟨he, Drawn_below _ _⟩
                have HFIN := Hid.mk_ hfin
                have HSAME := Hid.mk_ hsame
                have HLAW := Hid.mk_ hlaw
                clear hu hsame hlaw hfin hbwr
                go_wp2_with (first
                  | (go_at_call 23; (with_reducible refine (HM2.out _ _ ht9 hf9 hm9).mono ?_); rintro e w10 ⟨f10, rfl, ht10, hf10, hm10⟩; have hm3 := hm9.trans hm10 (fun q _ hq => hf9 q hq); have hB10 : Below w10.heap.size w10 w10 := Below.refl _ _; have HALL := Hid.mk_ (fun (W : World) (hB : Below w10.heap.size w10 W) => And.intro ((HFIN.out w10 hm3).trie.new hB) (And.intro ((HFIN.out w10 hm3).still.new hB) (And.intro (ht10.new hB) (And.intro ((HFIN.out w10 hm3).rows.new hB) ((HFIN.out w10 hm3).B.trans (hB.mono (by rw [HBS.out]; exact (HFIN.out w10 hm3).B.size))))))))
                  | (go_at_call 23; (with_reducible refine HM1.out.mono ?_); rintro e w9 ⟨f9, rfl, ht9, hf9, hm9⟩)
                  | (go_at_call 16; (with_reducible refine (HSAME.out _ t a2 fp2 rfl (HALL.out _ hB10).1).mono ?_); rintro e w11 ⟨g1, rfl, hr1, hb11⟩; have hB11 := hB10.trans (hb11.mono hB10.size))
                  | (go_at_call 15; (with_reducible refine (HLAW.out _ g1 hr1 (HALL.out _ hB11).2.2.2.1).mono ?_); rintro e w12 ⟨rfl, hb12⟩; have hB12 := hB11.trans (hb12.mono hB11.size))
                  | (go_at_call 16; (with_reducible refine (HSAME.out _ t a3 f10 rfl (HALL.out _ hB12).2.2.1).mono ?_); rintro e w13 ⟨g2, rfl, hr2, hb13⟩; have hB13 := hB12.trans (hb13.mono hB12.size))
                  | (go_at_call 15; (with_reducible refine (HLAW.out _ g2 hr2 (HALL.out _ hB13).2.2.2.1).mono ?_); rintro e w14 ⟨rfl, hb14⟩; have hB14 := hB13.trans (hb14.mono hB13.size))
                  | (go_at_call 16; (with_reducible refine (HSAME.out _ t a fp rfl (HALL.out _ hB14).2.1).mono ?_); rintro e w15 ⟨g3, rfl, hr3, hb15⟩; have hB15 := hB14.trans (hb15.mono hB14.size))
                  | (go_at_call 15; (with_reducible refine (HLAW.out _ g3 hr3 (HALL.out _ hB15).2.2.2.1).mono ?_); rintro e w16 ⟨rfl, hb16⟩; have hB16 := hB15.trans (hb16.mono hB15.size)))
                go_ret
                have hend := (HALL.out _ hB16).2.2.2.2
                rw [HBS.out] at hend
                exact ⟨rfl, hend⟩
  · have hle : (33554431 : Int) < l.length := by omega
    go_enter Try.func6, Try.ntmps6
    go_wp2_with fail
    go_ret
    exact ⟨rfl, Below.refl _ _⟩
end Go.Proofs.Ytphmmpdeehfhjaa
