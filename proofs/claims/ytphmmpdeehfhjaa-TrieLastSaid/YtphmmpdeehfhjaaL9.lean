import Derived.Test.YtphmmpdeehfhjaaL8
namespace Go.Proofs.Ytphmmpdeehfhjaa
open Go.RowKit
set_option linter.unusedVariables false
set_option linter.unusedSimpArgs false
theorem Try.info3 : (Try.prog.info? 3).map (fun i => (i.zero, i.size, i.bytes)) = some (some (.int .i64 0), 1, 8) := by kernel_rfl
theorem row_range {r : Row} (h : rightB r.a r.b = true) : 0 ≤ r.a ∧ r.a ≤ r.hi ∧ r.hi ≤ 4294967295 := by
  have hh : 0 ≤ r.b ∧ r.b ≤ 32 ∧ 0 ≤ r.a ∧ r.a ≤ 4294967295 ∧ r.a % 2 ^ (32 - r.b).toNat = 0 := of_decide_eq_true h
  obtain ⟨b0, b1, a0, a1, am⟩ := hh
  unfold Row.hi
  have e : (4294967296 : Int) = 2 ^ (32 - r.b).toNat * 2 ^ r.b.toNat := by
    rw [← pw_split]
    have : (32 - r.b).toNat + r.b.toNat = 32 := by omega
    rw [this]; rfl
  obtain ⟨q, hq⟩ := Int.dvd_of_emod_eq_zero am
  obtain ⟨S, hS⟩ : ∃ S : Int, S = 2 ^ (32 - r.b).toNat := ⟨_, rfl⟩
  obtain ⟨M, hM⟩ : ∃ M : Int, M = 2 ^ r.b.toNat := ⟨_, rfl⟩
  have hSp : 0 < S := hS ▸ pw_pos _
  rw [← hS] at hq e ⊢
  rw [← hM] at e
  have hqM : q < M := by
    by_cases h : q < M
    · exact h
    · have := Int.mul_le_mul_of_nonneg_left (show M ≤ q by omega) (Int.le_of_lt hSp)
      omega
  have := Int.mul_le_mul_of_nonneg_left (show q + 1 ≤ M by omega) (Int.le_of_lt hSp)
  rw [Int.mul_add] at this
  omega
def LI (base : Nat) (w : World) (A : Option Addr) (all : List Row) (begin : Int) (a : Nat) (x12 x13 : Value) (wr : World) : Prop :=
  ∃ (k : Nat) (fp : List Nat) (ats : List Int), k ≤ all.length ∧ x13 = .int .i64 (k : Int) ∧ St base w wr A all ((all.take k).foldl putRow (.leaf begin)) a fp x12 (3 + k * 4) ats
theorem St.start {base : Nat} {w w3 w4 : World} {A : Option Addr} {all : List Row} {a : Nat} {fp : List Nat} {t : Tr} {x : Int}
    (ht : TrieAt w3 t a fp) (hfp : ∀ q ∈ fp, base ≤ q) (hB : Below base w w3) (hbs : base ≤ w3.heap.size) (hb4 : Below w3.heap.size w3 w4) (hR : RowsIn w4 A all) (hA : ∀ g o, A = some ⟨g, o, none⟩ → w3.heap.size ≤ g ∧ g < w4.heap.size) (x0 : 0 ≤ x) (x1 : x ≤ 4294967295) :
    St base w (w4.alloc (.cells #[.int .i64 0, .int .i64 4294967295, .int .i64 x] 3)) A all t a fp (.slice (some ⟨w4.heap.size, 0, none⟩) 3 3) 3 [0, 4294967295, x] where
  own := ⟨rfl, .inr ⟨w4.heap.size, 3, _, rfl, by have := hb4.size; omega, heap_alloc_new w4 _, Nat.le_refl _, by unfold maxLen; omega, rfl, rfl⟩⟩
  trie := (ht.new hb4).new ((Below.refl _ _).alloc (Nat.le_refl _) _)
  rows := hR.new ((Below.refl _ _).alloc (Nat.le_refl _) _)
  fpb := hfp
  xf := fun g hg hq => by cases hg; exact absurd (Nat.lt_of_lt_of_le (ht.lt _ hq) hb4.size) (Nat.lt_irrefl _)
  rf := fun g o e => by
    obtain ⟨h1, h2⟩ := hA g o e
    refine ⟨by simp; omega, fun hq => ?_, fun e => ?_⟩
    · have := ht.lt _ hq; omega
    · cases e; exact absurd h2 (Nat.lt_irrefl _)
  B := (hB.trans (hb4.mono hbs)).alloc (by have := hb4.size; omega) _
  ok := by intro y hy; simp at hy; omega
set_option maxHeartbeats 8000000 in
set_option maxRecDepth 100000 in
theorem trielast_any (A : Option Addr) (c : Nat) (l : List Row) (first n : Int) (w : World) (hl : RowsIn w A l) (hwf : ∀ r ∈ l, r.wf) (hf : i64 first) (hn : i64 n) :
    Calls Try.prog 5 #[.int .i64 first, .slice A l.length c, .int .i64 n] w fun e w' => e = .returned (.bool true) ∧ Below w.heap.size w w' := by
  have HL := Hid.mk_ hl
  have HW := Hid.mk_ hwf
  have HF := Hid.mk_ hf
  have HN := Hid.mk_ hn
  obtain ⟨base, hbase⟩ : ∃ b, b = w.heap.size := ⟨_, rfl⟩
  clear hl hwf hf hn
  by_cases hlen : l.length ≤ 33554431
  · have hle : ¬ ((33554431 : Int) < l.length) := by omega
    obtain ⟨begin, hbg⟩ : ∃ b, b = pickI first 65536 := ⟨_, rfl⟩
    obtain ⟨pn, hpn⟩ : ∃ b, b = pickI n 4294967296 := ⟨_, rfl⟩
    have hb := pickI_range first 65536 (by decide)
    have hp := pickI_range n 4294967296 (by decide)
    rw [← hbg] at hb
    rw [← hpn] at hp
    have b1 : begin ≤ 65535 := by omega
    have p1 : pn ≤ 4294967295 := by omega
    have hok : ∀ r ∈ l.map fitRow, rowOk r = true := by intro r hr; obtain ⟨q, _, rfl⟩ := List.mem_map.1 hr; exact fitRow_ok q
    have hal : (l.map fitRow).length ≤ 33554431 := by simpa using hlen
    obtain ⟨all, hall⟩ : ∃ al, al = l.map fitRow := ⟨_, rfl⟩
    have hfit := fun W h => fit_any' A c l W h hlen HW.out
    rw [← hall] at hok hal hfit
    have HBG := Hid.mk_ hbg
    have HPN := Hid.mk_ hpn
    have HB := Hid.mk_ hb
    have HP := Hid.mk_ hp
    have HOK := Hid.mk_ hok
    have HALL := Hid.mk_ hall
    have HFIT := Hid.mk_ hfit
    have HLEN := Hid.mk_ hlen
    clear hbg hpn hb hp hok hall hfit hlen
    have HBS := Hid.mk_ hbase
    clear hbase
    obtain ⟨i0, hi, hz0, hz1, hz2_⟩ := info_parts Try.info3
    go_enter Try.func5, Try.ntmps5
    go_wp2_with (first
      | (go_at_call 8; (with_reducible refine (awake_any _).mono ?_); rintro e w1 ⟨rfl, hb1⟩)
      | (go_at_call 11; (with_reducible refine (pick_at HBG.out (by decide) HF.out _).mono ?_); rintro e w' ⟨rfl, rfl⟩)
      | (go_at_call 11; (with_reducible refine (pick_at HPN.out (by decide) HN.out _).mono ?_); rintro e w' ⟨rfl, rfl⟩)
      | (go_at_call 9; (with_reducible refine (new_yes (n := begin) HB.out.1 b1 _).mono ?_); rintro e w3 ⟨a, fp, rfl, ht3, hf3, hb3⟩; have hz3 := Hid.mk_ (hb1.trans (hb3.mono hb1.size)))
      | (go_at_call 17; (with_reducible refine (HFIT.out _ (HL.out.new hz3.out)).mono ?_); rintro e w4 ⟨A', c', rfl, hR4, hA4, hb4⟩))
    have hst : St base w (w4.alloc (.cells #[.int .i64 0, .int .i64 4294967295, .int .i64 pn] 3)) A' all (.leaf begin) a fp (.slice (some ⟨w4.heap.size, 0, none⟩) 3 3) 3 [0, 4294967295, pn] := by
      rw [HBS.out]
      exact St.start ht3 (fun q hq => Nat.le_trans hb1.size (hf3 q hq)) hz3.out hz3.out.size hb4 hR4 hA4 HP.out.1 p1
    have HST := Hid.mk_ hst
    clear hst hR4 hA4 ht3 hf3 hb3 hb4 hz3 hb1
    go_loopw [12, 13] (fun x12 x13 wr => LI base w A' all begin a x12 x13 wr) (fun _ x _ => all.length - (intOf x).toNat)
    case atStart => exact ⟨0, fp, _, Nat.zero_le _, rfl, HST.out⟩
    case round =>
      clear HST
      obtain ⟨k, fp, ats, hk, rfl, hs⟩ := hrel
      obtain ⟨gx, cap, rfl, hgx, hgb, _, _⟩ := hs.at (by omega)
      have HS := Hid.mk_ hs
      clear hs
      by_cases hlt : k < all.length
      · have hlt1 : (k : Int) < all.length := by omega
        obtain ⟨g, o, rfl, hc⟩ := HS.out.rows.2 (by omega)
        obtain ⟨c0, c1, c2⟩ := hc k hlt
        have hgl : g < wr.heap.size := World.block_lt_of_cell? wr _ c0
        have hok := HOK.out _ (List.getElem_mem hlt)
        have hT : all.take (k + 1) = all.take k ++ [all[k]'hlt] := List.take_succ_eq_append_getElem hlt
        obtain ⟨r, hr⟩ : ∃ r, r = all[k]'hlt := ⟨_, rfl⟩
        rw [← hr] at c0 c1 c2 hok hT
        have HOK1 := Hid.mk_ hok
        have HT := Hid.mk_ hT
        have hsd := HS.out.new (w' := wr.drew) (by rw [HBS.out]; exact HS.out.size) (Drawn_below wr 1)
        have hblk := fun (w2 : World) (h : Mods (· ∈ fp) wr.drew w2) => h.block g hgl (HS.out.rf g o rfl).2.1
        have HSD := Hid.mk_ hsd
        have HBL := Hid.mk_ hblk
        clear hr hc hok hT hsd hblk
        go_wp2_with fail
        go_region_held3 (fun w' => w'.cell? ⟨g, o + k * 3, none⟩ = some (.int .i64 r.a) ∧ w'.cell? ⟨g, o + k * 3 + 1, none⟩ = some (.int .i64 r.b) ∧ w'.cell? ⟨g, o + k * 3 + 2, none⟩ = some (.int .i64 r.l)) (first | exact ⟨c0, c1, c2⟩ | assumption)
          (first | (go_at_call 18; (with_reducible refine (tput_good HSD.out.trie HOK1.out).mono ?_); rintro e w2 ⟨f2, rfl, ht2, hs2, hm2⟩; have hK := And.intro ((World.cell?_of_block (w := wr.drew) (w' := w2) (a := ⟨g, o + k * 3, none⟩) (HBL.out w2 hm2)).trans c0) (And.intro ((World.cell?_of_block (w := wr.drew) (w' := w2) (a := ⟨g, o + k * 3 + 1, none⟩) (HBL.out w2 hm2)).trans c1) ((World.cell?_of_block (w := wr.drew) (w' := w2) (a := ⟨g, o + k * 3 + 2, none⟩) (HBL.out w2 hm2)).trans c2))))
        have hS2 := HSD.out.put (by rw [HBS.out]; exact HS.out.size) ht2 hs2 hm2
        obtain ⟨x0, x1, x2⟩ := row_range (r := r) (by have := HOK1.out; simp [rowOk] at this; exact this.1)
        have HS2 := Hid.mk_ hS2
        obtain ⟨hi_, hhi⟩ : ∃ h, h = r.hi := ⟨_, rfl⟩
        have hrng := fun W => range_hi r W (by have := HOK1.out; simp [rowOk] at this; exact this.1)
        rw [← hhi] at x1 x2 hrng
        have HRNG := Hid.mk_ hrng
        have HHI := Hid.mk_ hhi
        clear hhi hrng hS2 ht2 hs2 hm2
        have hz2 := Hid.mk_ (show base ≤ w2.heap.size by rw [HBS.out]; exact HS2.out.size)
        have HK := Hid.mk_ (show (3 + k * 4 : Nat) + 4 ≤ 134217731 by omega)
        go_wp2_with (first
          | (go_at_call 19; (with_reducible refine (HRNG.out _).mono ?_); rintro e w4 ⟨rfl, hb4⟩; have HS4 := Hid.mk_ (HS2.out.new hz2.out hb4); have hz4 := Hid.mk_ (Nat.le_trans hz2.out hb4.size))
          | (at_builtin; (refine wpList_append_own_at _ rfl _ _ 43 rfl base 3 i0 _ 1 8 Try.underlying43 hi hz0 hz1 hz2_ rfl (by omega) _ _ _ rfl ((HS4.out.own.alloc _).alloc _) ⟨_, 0, none⟩ 4 4 [.int .i64 r.a, .int .i64 hi_, .int .i64 _, .int .i64 _] rfl rfl (one_cells_at _ _ _ (by simp)) (by simp [Value.oneCell']) (by have := HK.out; unfold maxLen; omega) (by have := HK.out; omega) (by have := hz4.out; simp; omega) ?_; intro v' w5 hown' hgrow hnil hloc)))
        have hA : Below w4.heap.size w4 ((w4.alloc (.cells #[.int .i64 r.a, .int .i64 hi_] 58)).alloc (.cells #[.int .i64 r.a, .int .i64 hi_, .int .i64 (if r.a - 1 < 0 then 0 else r.a - 1), .int .i64 (if 4294967295 < hi_ + 1 then 4294967295 else hi_ + 1)] 3)) := ((Below.refl _ _).alloc (Nat.le_refl _) _).alloc (by simp) _
        have hS5 := (HS4.out.new hz4.out hA).grow (news := [r.a, hi_, if r.a - 1 < 0 then 0 else r.a - 1, if 4294967295 < hi_ + 1 then 4294967295 else hi_ + 1]) (by have := hz4.out; simp; omega) hgrow hloc hown' (by
          intro y hy
          simp only [List.mem_cons, List.not_mem_nil, or_false] at hy
          rcases hy with rfl | rfl | rfl | rfl
          · omega
          · omega
          · split <;> omega
          · split <;> omega)
        have h6 : 3 + (k + 1) * 4 = 3 + k * 4 + 4 := by omega
        refine ⟨⟨k + 1, f2, ats ++ [r.a, hi_, if r.a - 1 < 0 then 0 else r.a - 1, if 4294967295 < hi_ + 1 then 4294967295 else hi_ + 1], by omega, by go_num, ?_⟩, by simp [intOf]; omega⟩
        rw [HT.out, List.foldl_append, h6]
        exact hS5
      · have hge : ¬ ((k : Int) < all.length) := by omega
        have hS : St base w wr A' all (all.foldl putRow (.leaf begin)) a fp (.slice (some ⟨gx, 0, none⟩) (3 + k * 4) cap) (3 + k * 4) ats := by
          have h := HS.out
          rwa [List.take_of_length_le (show all.length ≤ k by omega)] at h
        obtain ⟨m, hm⟩ : ∃ m, m = 3 + k * 4 := ⟨_, rfl⟩
        have hmb : m ≤ 134217727 := by omega
        obtain ⟨t, htt⟩ : ∃ t, t = all.foldl putRow (.leaf begin) := ⟨_, rfl⟩
        rw [← hm, ← htt] at hS
        have HS1 := Hid.mk_ hS
        have HTT := Hid.mk_ htt
        clear hS htt HS
        have hht : t.ht ≤ 32 := by rw [HTT.out]; exact ht_puts _ _ (fun r hr => by have := HOK.out r hr; simp [rowOk] at this; exact this.1) (by simp [Tr.ht])
        have hfl : ∀ q, 0 ≤ q → q ≤ 4294967295 → Tr.find q t 0 = lastI all begin q := fun q q0 q1 => by rw [HTT.out, find_puts q q0 q1 _ _ (fun r hr => by have := HOK.out r hr; simp [rowOk] at this; exact this.1)]; rfl
        have HHT := Hid.mk_ hht
        have HFL := Hid.mk_ hfl
        have hbw : base ≤ wr.heap.size := by rw [HBS.out]; exact HS1.out.size
        have HBW := Hid.mk_ hbw
        clear hht hfl hbw
        obtain ⟨W1, hW1⟩ : ∃ W, W = wr := ⟨_, rfl⟩
        rw [← hW1] at HS1 HBW
        go_wp2_with fail
        go_loopw [17] (fun x17 wr => ∃ j : Nat, j ≤ m ∧ x17 = .int .i64 (j : Int) ∧ Below W1.heap.size W1 wr) (fun x _ => m - (intOf x).toNat)
        case atStart => exact ⟨0, Nat.zero_le _, rfl, by rw [hW1]; exact Below.refl _ _⟩
        case round =>
          clear hW1
          obtain ⟨j, hj, rfl, hBj⟩ := hrel
          by_cases hjm : j < m
          · have hjm1 : (j : Int) < m := by omega
            obtain ⟨q, hq0, hq1, cq⟩ : ∃ q, 0 ≤ q ∧ q ≤ 4294967295 ∧ wr.cell? ⟨gx, j, none⟩ = some (.int .i64 q) := by
              obtain ⟨g2, cap2, e2, h1, _, h2, h3⟩ := HS1.out.at (by omega)
              cases e2
              have hmem := HS1.out.ok _ (List.getElem_mem (show j < ats.length by omega))
              exact ⟨_, hmem.1, hmem.2, (hBj.cell (p := ⟨gx, j, none⟩) h1).trans (h3 j (by omega))⟩
            obtain ⟨z, hz⟩ : ∃ z, z = lastI all begin q := ⟨_, rfl⟩
            have hfz : Tr.find q t 0 = z := by rw [hz]; exact HFL.out q hq0 hq1
            have cfind : Calls Try.prog 20 #[.pointer (some ⟨a, 0, none⟩), .int .i64 q] wr fun e w' => e = .returned (.tuple #[.int .i64 z, .int .i64 0]) ∧ Below wr.heap.size wr w' := by
              refine (tfind_yes t a fp q wr (HS1.out.trie.new hBj) HHT.out hq0 hq1).mono ?_
              rintro e w' ⟨he, mm, rfl⟩
              rw [hfz] at he
              exact ⟨he, Drawn_below _ _⟩
            have clast : ∀ W, Below wr.heap.size wr W → Calls Try.prog 21 #[.slice A' all.length c', .int .i64 begin, .int .i64 q] W fun e w' => e = .returned (.int .i64 z) ∧ Below wr.heap.size wr w' := fun W hW => by
              refine (last_any A' c' all begin q W ((HS1.out.rows.new hBj).new hW) (fun r hr => by have := HOK.out r hr; simp [rowOk] at this; exact this.1)).mono ?_
              rintro e w' ⟨he, hB⟩
              exact ⟨by rw [hz]; exact he, hW.trans (hB.mono hW.size)⟩
            have CF := Hid.mk_ cfind
            have CL := Hid.mk_ clast
            have hgw : gx < wr.heap.size := World.block_lt_of_cell? wr _ cq
            clear hz hfz cfind clast hq0 hq1
            go_wp2_with (first
              | (go_at_call 20; (with_reducible refine CF.out.mono ?_); rintro e w2 ⟨rfl, hb2⟩; have cq2 := ((hb2.cell (p := ⟨gx, j, none⟩) hgw).trans cq))
              | (go_at_call 21; (with_reducible refine (CL.out _ hb2).mono ?_); rintro e w3 ⟨rfl, hb3⟩))
            exact ⟨⟨j + 1, by omega, by go_num, hBj.trans (hb3.mono hBj.size)⟩, by simp [intOf]; omega⟩
          · have hjge : ¬ ((j : Int) < m) := by omega
            obtain ⟨told, htold⟩ : ∃ L, L = t.all 0 0 := ⟨_, rfl⟩
            have hcanon : t.canon := by rw [HTT.out]; exact canon_puts _ _ trivial
            have hall := all_rows t 0 0 Spot.root HHT.out
            have hnoh := no_half t 0 0 Spot.root HHT.out hcanon
            rw [← htold] at hall hnoh
            obtain ⟨hch, hri⟩ := hall
            have htl : told.length ≤ 4294967296 := by
              have h1 := (Tr.all_length t 0 0).1
              rw [← htold] at h1
              exact Nat.le_trans h1 (Nat.pow_le_pow_right (n := 2) (by omega) HHT.out)
            have hst2 := HS1.out.new HBW.out hBj
            have hr16 : Calls Try.prog 16 #[.pointer (some ⟨a, 0, none⟩)] wr (AwRows wr fp told told.length) := rows_seen hst2.trie HHT.out htold.symm rfl
            have hrw := hst2.rows
            have hbw := hst2.B
            have HCH := Hid.mk_ hch
            have HRI := Hid.mk_ hri
            have HNH := Hid.mk_ hnoh
            have HRW := Hid.mk_ hrw
            have HBB := Hid.mk_ hbw
            have HR16 := Hid.mk_ hr16
            clear htold hcanon hch hri hnoh hst2 hr16 hrw hbw
            go_wp2_with (go_at_call 16; (with_reducible refine HR16.out.mono ?_); rintro e w6 ⟨gt, rfl, hs6, hb6⟩)
            have HS6 := Hid.mk_ hs6
            have hgt6 : gt < w6.heap.size := hs6.2.1
            have HR6 := Hid.mk_ (HRW.out.new hb6)
            have HB6 := Hid.mk_ (HBB.out.trans (hb6.mono (Nat.le_trans HBW.out hBj.size)))
            clear hs6 hb6 hBj
            go_loopw [21, 22] (fun x21 x22 wr => ∃ i : Nat, i ≤ told.length ∧ x22 = .int .i64 (i : Int) ∧ x21 = .int .i64 (afterR 0 (told.take i)) ∧ Below w6.heap.size w6 wr) (fun _ x _ => told.length - (intOf x).toNat)
            case atStart => exact ⟨0, Nat.zero_le _, rfl, rfl, Below.refl _ _⟩
            case round =>
              obtain ⟨i, hi_, rfl, rfl, hBi⟩ := hrel
              by_cases hil : i < told.length
              · have hil1 : (i : Int) < told.length := by omega
                obtain ⟨c0, c1, c2⟩ := (HS6.out.below hBi).cells i hil
                have hrow := HRI.out _ (List.getElem_mem hil)
                have hra := HCH.out.at i hil
                have hT : told.take (i + 1) = told.take i ++ [told[i]'hil] := List.take_succ_eq_append_getElem hil
                obtain ⟨r, hr⟩ : ∃ r, r = told[i]'hil := ⟨_, rfl⟩
                rw [← hr] at c0 c1 c2 hrow hra hT
                obtain ⟨k0, k1, k2, k3, k4, k5, k6, k7⟩ := hrow
                obtain ⟨x0, x1, x2⟩ := row_range k0
                obtain ⟨rb0, rb1⟩ : 0 ≤ r.b ∧ r.b ≤ 32 := by have h : 0 ≤ r.b ∧ r.b ≤ 32 ∧ _ := of_decide_eq_true k0; exact ⟨h.1, h.2.1⟩
                have hl1 : lastI all begin r.a = r.l := by rw [← HFL.out r.a x0 (by omega)]; exact k7 _ (Int.le_refl _) x1
                have hl2 : lastI all begin r.hi = r.l := by rw [← HFL.out r.hi (by omega) x2]; exact k7 _ x1 (Int.le_refl _)
                have hrng := fun W => range_hi r W k0
                have hnx : afterR 0 (told.take (i + 1)) = r.hi + 1 := by rw [hT, after_snoc]
                obtain ⟨nx, hnx0⟩ : ∃ nx, nx = afterR 0 (told.take i) := ⟨_, rfl⟩
                rw [← hnx0] at hra ⊢
                subst hra
                obtain ⟨rh, hrh⟩ : ∃ rh, rh = r.hi := ⟨_, rfl⟩
                rw [← hrh] at hl2 hrng hnx x1 x2
                have HRNG := Hid.mk_ hrng
                have HL1 := Hid.mk_ hl1
                have HL2 := Hid.mk_ hl2
                have HNX := Hid.mk_ hnx
                have HRR := Hid.mk_ hr
                have HRH := Hid.mk_ hrh
                have hgw : gt < wr.heap.size := Nat.lt_of_lt_of_le hgt6 hBi.size
                clear hnx0 hrh hrng hl1 hl2 hnx hr hT k0 k1 k2 k3 k4 k5 k6 k7
                go_wp2_with (go_at_call 19; (with_reducible refine (HRNG.out _).mono ?_); rintro e w7 ⟨rfl, hb7⟩; have n7 : ¬ gt = w7.heap.size := (by have := hb7.size; omega))
                obtain ⟨W8, hW8⟩ : ∃ W, W = w7.alloc (.cells #[.int .i64 r.a, .int .i64 rh] 58) := ⟨_, rfl⟩
                have hblk := Blk.new w7 [.int .i64 r.a, .int .i64 rh] 58
                have hsz8 : W8.heap.size = w7.heap.size + 1 := by rw [hW8, World.size_alloc]
                obtain ⟨bq, hbq⟩ : ∃ b, b = w7.heap.size := ⟨_, rfl⟩
                have h68 : Below w6.heap.size w6 W8 := by rw [hW8]; exact (hBi.trans (hb7.mono hBi.size)).alloc (Nat.le_trans hBi.size hb7.size) _
                rw [← hbq, ← hW8]
                rw [← hbq, ← hW8] at hblk
                rw [← hbq] at n7 hsz8
                have bq8 : bq < W8.heap.size := by omega
                have gt8 : gt < W8.heap.size := Nat.lt_of_lt_of_le hgt6 h68.size
                have hK0 : K3 W8 bq gt (i * 3 + 2) r.a rh r.l W8.drew := ⟨hblk.cell 0, hblk.cell 1, by obtain ⟨_, _, e2⟩ := (HS6.out.below h68).cells i hil; rw [HRR.out]; exact e2, Drawn_below _ 1⟩
                have HK0 := Hid.mk_ hK0
                have HR8 := Hid.mk_ (HR6.out.new h68)
                have H68 := Hid.mk_ h68
                clear hW8 hblk hbq h68 hK0 hsz8 c0 c1 c2 hb7
                go_region_held3 (fun w' => w'.cell? ⟨bq, 0, none⟩ = some (.int .i64 r.a) ∧ w'.cell? ⟨bq, 1, none⟩ = some (.int .i64 rh) ∧ w'.cell? ⟨gt, i * 3 + 2, none⟩ = some (.int .i64 r.l) ∧ Below W8.heap.size W8 w') (first | exact HK0.out | assumption)
                  (first | (go_at_call 21; (with_reducible refine (K3.last HR8.out HOK.out bq8 gt8 r.a HL1.out (by assumption)).mono ?_); rintro e w9 ⟨rfl, hS⟩) | (go_at_call 21; (with_reducible refine (K3.last HR8.out HOK.out bq8 gt8 rh HL2.out (by assumption)).mono ?_); rintro e w9 ⟨rfl, hS⟩))
                obtain ⟨e0, e1, e2, h89⟩ := hS
                have h69 : Below w6.heap.size w6 w9 := H68.out.trans (h89.mono H68.out.size)
                have hs9 := HS6.out.below h69
                have hq9 : bq < w9.heap.size := Nat.lt_of_lt_of_le bq8 h89.size
                have hg9 : gt < w9.heap.size := Nat.lt_of_lt_of_le gt8 h89.size
                have HEND := Hid.mk_ (fun (W : World) (h : Below w9.heap.size w9 W) => h69.trans (h.mono h69.size))
                obtain ⟨d0, d1, _⟩ := hs9.cells i hil
                rw [← HRR.out] at d0 d1
                have hw9 : w9.heap.size ≤ w9.heap.size := Nat.le_refl _
                by_cases hi0 : (0 : Int) < i
                · obtain ⟨j', hj'⟩ : ∃ j' : Nat, (i : Int) - 1 = j' := ⟨i - 1, by omega⟩
                  have hjl : j' < told.length := by omega
                  have hjl1 : (j' : Int) < told.length := by omega
                  have hno := HNH.out.at j' (by omega)
                  have hii : j' + 1 = i := by omega
                  simp only [hii] at hno
                  rw [← HRR.out] at hno
                  obtain ⟨p0, p1, p2⟩ := hs9.cells j' hjl
                  obtain ⟨p, hp⟩ : ∃ p, p = told[j']'hjl := ⟨_, rfl⟩
                  rw [← hp] at p0 p1 p2 hno
                  have HNO := Hid.mk_ hno
                  clear hno hii hp HRR hs9 h69 h89
                  have hw1 : IntKind.i64.wrap ((i : Int) - 1) = j' := by rw [hj', IntKind.wrap_i64]; omega
                  have hi0n : 0 < i := by omega
                  have t1 : decide ((0 : Int) < i) = true := decide_eq_true hi0
                  have t1n : decide (0 < i) = true := decide_eq_true hi0n
                  clear hj'
                  by_cases h1 : r.l = p.l
                  · rw [← h1] at p2
                    have H1 := Hid.mk_ h1
                    clear h1
                    by_cases h2 : r.b = p.b
                    · rw [← h2] at p1
                      have H2 := Hid.mk_ h2
                      clear h2
                      by_cases h3 : 0 < r.b
                      · have t3 : decide (0 < r.b) = true := decide_eq_true h3
                        have hR0 : rightB p.a (r.b - 1) = false := by
                          cases hx : rightB p.a (r.b - 1) with
                          | false => rfl
                          | true => exact absurd ⟨H1.out, H2.out, h3, hx⟩ HNO.out
                        have HR0 := Hid.mk_ hR0
                        have hw2 : IntKind.i64.wrap (r.b - 1) = r.b - 1 := by rw [IntKind.wrap_i64]; omega
                        clear hR0
                        go_wp2_with fail
                        go_big_quiet (fail)
                        go_wp2_with fail
                        go_region_held3 (fun w' => w'.cell? ⟨gt, j' * 3, none⟩ = some (.int .i64 p.a) ∧ w'.cell? ⟨gt, i * 3 + 1, none⟩ = some (.int .i64 r.b) ∧ w'.cell? ⟨bq, 1, none⟩ = some (.int .i64 rh) ∧ Below w9.heap.size w9 w') (first | exact ⟨p0, d1, e1, ⟨rfl, rfl, rfl, Nat.le_refl _, fun _ _ => rfl⟩⟩ | assumption | exact K4.alloc (by assumption) hg9 hq9 | exact K4.set (by assumption) hg9 hq9 (by simp <;> omega) | exact K4.set (K4.set (by assumption) hg9 hq9 (by simp <;> omega)) hg9 hq9 (by simp <;> omega))
                          (first | (go_at_call 19; (with_reducible refine (range_no _ _ _ HR0.out).mono ?_); rintro e w10 ⟨rfl, hb10⟩; (first | (obtain ⟨u0, u1, u2, u3⟩ := laid_ahead hb10; simp only [World.heap_drewN] at u0 u1 u2 u3) | skip); have hK := K4.thn (W := w9) (gt := gt) (o1 := j' * 3) (o2 := i * 3 + 1) (bq := bq) (x := p.a) (y := r.b) (z := rh) (by assumption) hg9 hq9 hb10; have hy10 : w9.heap.size ≤ w10.heap.size := hK.2.2.2.size))
                        all_goals go_wp2_with fail
                        all_goals exact ⟨⟨i + 1, by omega, by go_num, by rw [HNX.out], HEND.out _ (by first | assumption | exact (And.right (And.right (And.right (by assumption)))) | exact hK.2.2.2 | exact (K4.alloc hK hg9 hq9).2.2.2 | exact (K4.set hK hg9 hq9 (by simp <;> omega)).2.2.2 | exact (K4.set (K4.set hK hg9 hq9 (by simp <;> omega)) hg9 hq9 (by simp <;> omega)).2.2.2)⟩, by simp [intOf]; omega⟩
                      · have t3 : decide (0 < r.b) = false := decide_eq_false h3
                        go_wp2_with fail
                        go_big_quiet (fail)
                        go_wp2_with fail
                        exact ⟨⟨i + 1, by omega, by go_num, by rw [HNX.out], HEND.out _ (Drawn_below _ _)⟩, by simp [intOf]; omega⟩
                    · have t2 : decide (r.b = p.b) = false := decide_eq_false h2
                      have t2b : (r.b == p.b) = false := by simpa using h2
                      go_wp2_with fail
                      go_big_quiet (fail)
                      go_wp2_with fail
                      exact ⟨⟨i + 1, by omega, by go_num, by rw [HNX.out], HEND.out _ (Drawn_below _ _)⟩, by simp [intOf]; omega⟩
                  · have t2 : decide (r.l = p.l) = false := decide_eq_false h1
                    have t2b : (r.l == p.l) = false := by simpa using h1
                    go_wp2_with fail
                    go_big_quiet (fail)
                    go_wp2_with fail
                    exact ⟨⟨i + 1, by omega, by go_num, by rw [HNX.out], HEND.out _ (Drawn_below _ _)⟩, by simp [intOf]; omega⟩
                · clear h69 h89 hs9
                  obtain rfl : i = 0 := by omega
                  go_wp2_with fail
                  go_big_quiet (fail)
                  go_wp2_with fail
                  exact ⟨⟨0 + 1, by omega, by go_num, by rw [HNX.out], HEND.out _ (Drawn_below _ _)⟩, by simp [intOf]; omega⟩
              · have hige : ¬ ((i : Int) < told.length) := by omega
                have he : afterR 0 (told.take i) = 4294967296 := by rw [List.take_of_length_le (by omega)]; exact HCH.out.after
                rw [he]
                have HEND := Hid.mk_ (HB6.out.trans (hBi.mono (by have := HB6.out.size; have := HBS.out; omega)))
                go_wp2_with fail
                go_ret
                rw [← HBS.out]
                exact ⟨rfl, HEND.out⟩
  · have hle : (33554431 : Int) < l.length := by omega
    go_enter Try.func5, Try.ntmps5
    go_wp2_with fail
    go_ret
    exact ⟨rfl, Below.refl _ _⟩
end Go.Proofs.Ytphmmpdeehfhjaa
