/- book.still: the walk. -/
import Derived.Test.YtphmmpdeehfhjaaQ4
import Derived.ArgAppend
import Derived.Deep.CutBlock
namespace Go.Proofs.Ytphmmpdeehfhjaa
open Go.RowKit
set_option linter.unusedVariables false
set_option linter.unusedSimpArgs false
theorem mark_any (n : Int) (h0 : 0 ≤ n) (h1 : n ≤ 4294967296) (w : World) :
    Calls Try.prog 32 #[.int .i64 n] w fun e w' => e = .returned (.agg #[.int .i64 0, .int .i64 0, .int .i64 (-1 - n)]) ∧ Below w.heap.size w w' := by
  have hw : IntKind.i64.wrap (-1 - n) = -1 - n := by rw [IntKind.wrap_i64]; omega
  go_enter Try.func32, Try.ntmps32
  go_wp2
  refine bodyPost_ret (v := .agg #[.int .i64 0, .int .i64 0, .int .i64 (-1 - n)]) (by simp [results, Try.results32, go_sem]) rfl ⟨rfl, ?_⟩
  exact (Below.refl _ _).alloc (Nat.le_refl _) _
theorem rows_quiet {A B : Option Addr} {ca cb : Nat} {L : List Row} {w : World} (ha : RowsIn w A L) (hb : RowsIn w B L) (m : Nat) :
    Calls Try.prog 15 #[.slice A L.length ca, .slice B L.length cb] (w.drewN m) fun e w'' => e = .returned (.bool true) ∧ ∃ k, w'' = w.drewN k := by
  refine (lawrows_any A B ca cb L L (w.drewN m) (ha.move fun _ _ _ _ => rfl) (hb.move fun _ _ _ _ => rfl)).mono ?_
  rintro e w' ⟨he, n, rfl⟩
  rw [decide_eq_true rfl] at he
  exact ⟨he, m + n, World.drewN_drewN ..⟩
theorem rows_quiet2 {A B : Option Addr} {ca cb : Nat} {L : List Row} {w : World} (ha : RowsIn w A L) (hb : RowsIn w B L) (j m : Nat) :
    Calls Try.prog 15 #[.slice A L.length ca, .slice B L.length cb] (w.drewN (j + m)) fun e w'' => e = .returned (.bool true) ∧ ∃ k, w'' = w.drewN (j + k) := by
  refine (lawrows_any A B ca cb L L (w.drewN (j + m)) (ha.move fun _ _ _ _ => rfl) (hb.move fun _ _ _ _ => rfl)).mono ?_
  rintro e w' ⟨he, n, rfl⟩
  rw [decide_eq_true rfl] at he
  exact ⟨he, m + n, by rw [World.drewN_drewN, Nat.add_assoc]⟩
/-- a list of lists and its cells -/
theorem own_vals {base : Nat} {w : World} {e : TypeId} {v : Value} {n : Nat} {xs : List Value} (h : w.ownsRow base e 1 v n xs) (hn : 0 < n) : ∃ g c, v = .slice (some ⟨g, 0, none⟩) n c ∧ ∀ i (hi : i < xs.length), w.cell? ⟨g, i, none⟩ = some (xs[i]'hi) := by
  obtain ⟨g, c, rfl, _, _⟩ := h.form hn
  refine ⟨g, c, rfl, fun i hi => ?_⟩
  rw [h.cellAt i (by rw [← h.1]; exact hi), List.getElem?_eq_getElem hi]
theorem RowBlk.rowsIn {w : World} {g : Nat} {L : List Row} (h : RowBlk w g (rowsCells L)) (hl : L.length ≤ 9223372036854775807) : RowsIn w (some ⟨g, 0, none⟩) L :=
  ⟨hl, fun _ => ⟨g, 0, rfl, fun j hj => by simpa using h.rows hj⟩⟩
theorem Book.hf {w : World} {bb : Nat} {fv wv av : Value} {fl : List (Nat × List Row)} {ws es : List Value} {wz dz : List Nat} {N : Nat} (h : Book w bb fv wv av fl ws es wz dz N) : w.ownsRow 0 44 1 fv fl.length (fl.map fval) := by
  have := h.head.f
  rwa [List.length_map] at this
theorem Book.hw {w : World} {bb : Nat} {fv wv av : Value} {fl : List (Nat × List Row)} {ws es : List Value} {wz dz : List Nat} {N : Nat} (h : Book w bb fv wv av fl ws es wz dz N) : w.ownsRow 0 44 1 wv fl.length ws := by
  have := h.head.wn
  rwa [h.lw] at this
/-- what the marking reads -/
theorem Book.reads {w : World} {bb : Nat} {fv wv av : Value} {fl : List (Nat × List Row)} {ws es : List Value} {wz dz : List Nat} {N : Nat} (h : Book w bb fv wv av fl ws es wz dz N) {gf cf : Nat} (hfv : fv = .slice (some ⟨gf, 0, none⟩) fl.length cf) (W : World) (hm : Mods (· ∈ fl.map (·.1)) w W) :
    W.cell? ⟨bb, 0, none⟩ = some fv ∧ W.cell? ⟨bb, 3, none⟩ = some (.int .i64 (N : Int)) ∧ ∀ i (hi : i < fl.length), W.cell? ⟨gf, i, none⟩ = some (fval (fl[i]'hi)) := by
  have hnd := h.nd
  have hdis : ∀ k ∈ hz bb fv wv av, k ∉ fl.map (·.1) := fun k hk hk2 => (List.nodup_append.1 hnd).2.2 k hk k hk2 rfl
  have hb : W.heap[bb]? = w.heap[bb]? := hm.block bb h.head.blk.lt (hdis bb (by simp [hz]))
  have hg : W.heap[gf]? = w.heap[gf]? := hm.block gf (h.hf.lt gf (by rw [hfv]; rfl)).2 (hdis gf (by simp [hz, hfv, Value.ownBlock]))
  refine ⟨(World.cell?_of_block (w := w) (w' := W) (a := ⟨bb, 0, none⟩) hb).trans (h.head.blk.cell 0), (World.cell?_of_block (w := w) (w' := W) (a := ⟨bb, 3, none⟩) hb).trans (h.head.blk.cell 3), fun i hi => (World.cell?_of_block (w := w) (w' := W) (a := ⟨gf, i, none⟩) hg).trans ?_⟩
  have h1 := h.hf
  rw [hfv] at h1
  rw [h1.cellAt i (by omega), List.getElem?_eq_getElem (by rw [List.length_map]; exact hi), List.getElem_map]
theorem S3.set {w' : World} {bb gf g i k : Nat} {x y z : Value} {r : Row} (h : w'.cell? ⟨bb, 0, none⟩ = some x ∧ w'.cell? ⟨gf, i, none⟩ = some y ∧ w'.cell? ⟨bb, 3, none⟩ = some z) (h1 : bb ≠ g) (h2 : gf ≠ g) :
    (setRow3 w' g k r).cell? ⟨bb, 0, none⟩ = some x ∧ (setRow3 w' g k r).cell? ⟨gf, i, none⟩ = some y ∧ (setRow3 w' g k r).cell? ⟨bb, 3, none⟩ = some z := by
  have e : ∀ b, b ≠ g → (setRow3 w' g k r).heap[b]? = w'.heap[b]? := fun b hb => by
    unfold setRow3
    rw [Below.heap_setCell _ _ _ _ hb, Below.heap_setCell _ _ _ _ hb, Below.heap_setCell _ _ _ _ hb]
  exact ⟨(World.cell?_of_block (a := ⟨bb, 0, none⟩) (e bb h1)).trans h.1, (World.cell?_of_block (a := ⟨gf, i, none⟩) (e gf h2)).trans h.2.1, (World.cell?_of_block (a := ⟨bb, 3, none⟩) (e bb h1)).trans h.2.2⟩
theorem blk4 {w : World} {bb : Nat} {x y z u : Value} (h : Blk w bb [x, y, z, u] 28) : w.cell? ⟨bb, 0, none⟩ = some x ∧ w.cell? ⟨bb, 2, none⟩ = some z ∧ w.cell? ⟨bb, 3, none⟩ = some u ∧ w.frozen? ⟨bb, 2, none⟩ = false ∧ bb < w.heap.size := ⟨h.cell 0, h.cell 2, h.cell 3, h.free 2, h.lt⟩
theorem Try.info44 : (Try.prog.info? 44).map (fun i => (i.zero, i.size, i.bytes)) = some (some (.slice none 0 0), 1, 24) := by kernel_rfl
theorem Ph2.marks {w wr : World} {fl : List (Nat × List Row)} {N : Nat} (h : Ph2 w wr fl N fl.length 0) (j : Nat) (hj : j < fl.length) : RowBlk wr (fl[j]'hj).1 (rowsCells (List.replicate (fl[j]'hj).2.length (mrk ((N + j : Nat) : Int)))) := by
  have := h.r j hj
  unfold ctn at this
  rwa [if_pos hj] at this
theorem Book.stat {w wc : World} {bb : Nat} {fv wv av : Value} {fl : List (Nat × List Row)} {ws es : List Value} {wz dz : List Nat} {N : Nat} (h : Book w bb fv wv av fl ws es wz dz N) (hs : w.heap.size ≤ wc.heap.size) : Stat wc bb fv wv av (fl.map (·.1)) dz :=
  ⟨h.nd, h.dd, fun k hk => Nat.lt_of_lt_of_le (h.lt k (by rcases hk with hk | hk | hk; exact .inl hk; exact .inr (.inl hk); exact .inr (.inr (.inl hk)))) hs⟩
theorem Book.p4 {w wc : World} {bb : Nat} {fv wv av : Value} {fl : List (Nat × List Row)} {ws es : List Value} {wz dz : List Nat} {N : Nat} (h : Book w bb fv wv av fl ws es wz dz N) (hm : Mods (· ∈ fl.map (·.1)) w wc) : P4 wc wc bb fv wv av (fl.map (·.1)) dz N 0 av es dz := by
  have hs := h.stat hm.size
  have hdis : ∀ k ∈ hz bb fv wv av, k ∉ fl.map (·.1) := fun k hk hk2 => (List.nodup_append.1 h.nd).2.2 k hk k hk2 rfl
  have hdz : ∀ k ∈ dz, k ∉ fl.map (·.1) := fun k hk => (h.dd k hk).2
  have hd := h.head.move (w' := wc) (fun k hk => hm.block k (h.lt k (.inl hk)) (hdis k hk))
  refine ⟨Mods.refl _ _, hd.blk, hd.a, by rw [h.la]; omega, fun j hj => (h.all j hj).move fun k hk => hm.block k (h.lt k (.inr (.inr (.inl hk)))) (hdz k hk), fun k hk => .inl hk, fun k hk => ?_⟩
  obtain ⟨_, z2, z3⟩ := hs.zone (.inr hk)
  exact ⟨.inl hk, z2, z3⟩
def StillPost (w : World) (bb : Nat) (fv wv av : Value) (fl : List (Nat × List Row)) (dz : List Nat) (N : Nat) (e : Ending) (w' : World) : Prop :=
  e = .returned (.bool true) ∧ ∃ av' es' D, Book w' bb (.slice none 0 0) (.slice none 0 0) av' [] [] es' [] D (N + fl.length) ∧
    (∀ k, k ∈ hz bb (.slice none 0 0) (.slice none 0 0) av' ∨ k ∈ D → (k ∈ hz bb fv wv av ∨ k ∈ fl.map (·.1) ∨ k ∈ dz) ∨ w.heap.size ≤ k) ∧ Mods (fun k => k ∈ hz bb fv wv av ∨ k ∈ fl.map (·.1)) w w'
theorem P4.book {wc wr w' : World} {bb : Nat} {fv wv av av' : Value} {gs dz D : List Nat} {N : Nat} {es : List Value} (hs : Stat wc bb fv wv av gs dz) (h : P4 wc wr bb fv wv av gs dz N gs.length av' es D) (hm : Mods (· = bb) wr w') (hb : Blk w' bb [.slice none 0 0, .slice none 0 0, av', .int .i64 ((N + gs.length : Nat) : Int)] 28) :
    Book w' bb (.slice none 0 0) (.slice none 0 0) av' [] [] es [] D (N + gs.length) ∧ ∀ k, k ∈ hz bb (.slice none 0 0) (.slice none 0 0) av' ∨ k ∈ D → (k ∈ hz bb fv wv av ∨ k ∈ gs ∨ k ∈ dz) ∨ wc.heap.size ≤ k := by
  have hva : av'.ownBlock ≠ some bb := fun e => by
    rcases h.avz bb e with h1 | h1
    · exact hs.av_bb h1
    · have := hs.lt bb (.inl (by simp [hz])); omega
  have hDbb : ∀ q ∈ D, q ≠ bb := fun q hq e => by
    subst e
    rcases (h.dz_ q hq).1 with h1 | h1 | h1
    · exact (hs.zone (.inr h1)).1 rfl
    · exact (hs.zone (.inl (List.mem_of_mem_take h1))).1 rfl
    · have := hs.lt q (.inl (by simp [hz])); omega
  have hh : hz bb (.slice none 0 0) (.slice none 0 0) av' = bb :: av'.ownBlock.toList := by simp [hz, Value.ownBlock]
  have hmem : ∀ k, k ∈ hz bb (.slice none 0 0) (.slice none 0 0) av' ↔ k = bb ∨ av'.ownBlock = some k := fun k => by rw [hh]; simp
  refine ⟨⟨⟨hb, World.ownsRow_nil _ _ _ _, World.ownsRow_nil _ _ _ _, own_move h.a fun k hk => hm.block k (h.a.lt k hk).2 (fun e => hva (e ▸ hk))⟩, rfl, by simp, by simp, h.la, fun i hi => (h.ent i hi).move fun k hk => hm.block k (h.dz_ k hk).2.2 (hDbb k hk), ?_, fun k hk => ⟨?_, by simp⟩, by simp, fun k hk => ?_⟩, fun k hk => ?_⟩
  · rw [hh, List.map_nil, List.append_nil]
    refine List.nodup_cons.2 ⟨by simpa using fun e => hva e, ?_⟩
    cases av'.ownBlock <;> simp
  · rw [hmem]
    rintro (e | e)
    · exact hDbb k hk e
    · exact (h.dz_ k hk).2.1 e
  · rcases hk with hk | hk | hk | hk
    · rcases (hmem k).1 hk with e | e
      · subst e; exact Nat.lt_of_lt_of_le h.blk.lt hm.size
      · exact Nat.lt_of_lt_of_le (h.a.lt k e).2 hm.size
    · simp at hk
    · exact Nat.lt_of_lt_of_le (h.dz_ k hk).2.2 hm.size
    · simp at hk
  · rcases hk with hk | hk
    · rcases (hmem k).1 hk with e | e
      · exact .inl (.inl (by simp [hz, e]))
      · rcases h.avz k e with h1 | h1
        · exact .inl (.inl (by simp [hz, h1]))
        · exact .inr h1
    · rcases (h.dz_ k hk).1 with h1 | h1 | h1
      · exact .inl (.inr (.inr h1))
      · exact .inl (.inr (.inl (List.mem_of_mem_take h1)))
      · exact .inr h1
set_option maxHeartbeats 8000000 in
set_option maxRecDepth 100000 in
theorem still_any {w : World} {bb : Nat} {fv wv av : Value} {fl : List (Nat × List Row)} {ws es : List Value} {wz dz : List Nat} {N : Nat} (h : Book w bb fv wv av fl ws es wz dz N) (hN : N + fl.length ≤ 1000000) :
    Calls Try.prog 13 #[.pointer (some ⟨bb, 0, none⟩)] w (StillPost w bb fv wv av fl dz N) := by
  have H := Hid.mk_ h
  have HN := Hid.mk_ hN
  have c0 : w.cell? ⟨bb, 0, none⟩ = some fv := h.head.blk.cell 0
  have c1 : w.cell? ⟨bb, 1, none⟩ = some wv := h.head.blk.cell 1
  obtain ⟨Af, cf, hfv⟩ := own_shape h.hf
  obtain ⟨Aw, cw, hwv⟩ := own_shape h.hw
  have hfl : fl.length ≤ 1000000 := by omega
  clear h hN
  go_enter Try.func13, Try.ntmps13
  go_upto_block 0 with fail
  go_cut [3, 4] from 12 to 37 (fun x3 x4 wx => ∃ n, wx = w.drewN n)
  case first =>
    subst hfv hwv
    go_wp2_with fail
    go_loopw [3] (fun x3 wr => ∃ (i m : Nat), i ≤ fl.length ∧ x3 = .int .i64 (i : Int) ∧ wr = w.drewN m) (fun x _ => fl.length - (intOf x).toNat)
    case atStart => exact ⟨0, 0, Nat.zero_le _, rfl, rfl⟩
    case round =>
      obtain ⟨i, m, hi, rfl, rfl⟩ := hrel
      by_cases hlt : i < fl.length
      · have hlt1 : (i : Int) < fl.length := by omega
        obtain ⟨gf, cf', e1, hcf⟩ := own_vals H.out.hf (by omega)
        obtain ⟨gw, cw', e2, hcw⟩ := own_vals H.out.hw (by omega)
        cases e1
        cases e2
        have d0 := hcf i (by rw [List.length_map]; exact hlt)
        have hiw : i < ws.length := by have := H.out.lw; omega
        have d1 := hcw i hiw
        obtain ⟨A, c, hv, hR, _⟩ := H.out.want i hiw
        rw [hv] at d1
        rw [List.getElem_map] at d0
        have hfr := (H.out.free _ (List.getElem_mem hlt))
        have hR1 := hfr.1.rowsIn (by omega)
        obtain ⟨p, hp⟩ : ∃ p, p = fl[i]'hlt := ⟨_, rfl⟩
        rw [← hp] at d0 d1 hR hR1
        unfold fval at d0
        have HQ := Hid.mk_ (fun m => rows_quiet (ca := p.2.length) (cb := c) hR1 hR m)
        have HQ2 := Hid.mk_ (fun j m => rows_quiet2 (ca := p.2.length) (cb := c) hR1 hR j m)
        clear hp hv hcf hcw hfr hR hR1
        obtain ⟨g, L⟩ := p
        simp only at d0 d1 HQ HQ2
        go_wp2_with fail
        go_big_quiet (first | (go_at_call 15; with_reducible exact HQ.out _) | (go_at_call 15; with_reducible exact HQ2.out _ _))
        go_wp2_with fail
        exact ⟨⟨i + 1, _, by omega, by go_num, rfl⟩, by simp [intOf]; omega⟩
      · have hge : ¬ ((i : Int) < fl.length) := by omega
        go_wp2_with fail
        go_meet
        exact ⟨m, rfl⟩
  case rest =>
    obtain ⟨n0, rfl⟩ := hcut
    have hB0 := H.out.move (w' := w.drewN n0) (Nat.le_refl _) (fun _ _ => rfl)
    have hm0 : Mods (fun _ => False) w (w.drewN n0) := (Mods.refl _ _).drewN _
    obtain ⟨wa, hwa⟩ : ∃ wa, wa = w.drewN n0 := ⟨_, rfl⟩
    rw [← hwa] at hB0 hm0 ⊢
    have HA := Hid.mk_ hB0
    have HM0 := Hid.mk_ hm0
    have k0 : wa.cell? ⟨bb, 0, none⟩ = some fv := hB0.head.blk.cell 0
    clear hwa hB0 hm0 c0 c1 H
    go_upto_block 2 with fail
    go_cut [5, 6] from 38 to 74 (fun x5 x6 wx => Hid (Ph2 wa wx fl N fl.length 0))
    case first =>
      subst hfv
      go_wp2_with fail
      go_loopw [5] (fun x5 wr => ∃ i : Nat, i ≤ fl.length ∧ x5 = .int .i64 (i : Int) ∧ Hid (Ph2 wa wr fl N i 0)) (fun x _ => fl.length - (intOf x).toNat)
      case atStart => exact ⟨0, Nat.zero_le _, rfl, Ph2.start (fun p hp => (HA.out.free p hp).1)⟩
      case round =>
        obtain ⟨i, hi, rfl, HP⟩ := hrel
        have q0 : wr.cell? ⟨bb, 0, none⟩ = some (.slice Af fl.length cf) := by
          have hb : wr.heap[bb]? = wa.heap[bb]? := HP.out.m.block bb HA.out.head.blk.lt (fun hk2 => (List.nodup_append.1 HA.out.nd).2.2 bb (by simp [hz]) bb hk2 rfl)
          exact (World.cell?_of_block (w := wa) (w' := wr) (a := ⟨bb, 0, none⟩) hb).trans k0
        by_cases hlt : i < fl.length
        · have hlt1 : (i : Int) < fl.length := by omega
          obtain ⟨gf, cf', e1, _⟩ := own_vals HA.out.hf (by omega)
          cases e1
          have HRD := Hid.mk_ (HA.out.reads rfl)
          have hnd : (fl.map (·.1)).Nodup := (List.nodup_append.1 HA.out.nd).2.1
          have hfr := HA.out.free _ (List.getElem_mem hlt)
          have hne1 : bb ≠ (fl[i]'hlt).1 := fun e => (List.nodup_append.1 HA.out.nd).2.2 bb (by simp [hz]) (fl[i]'hlt).1 (List.mem_map_of_mem (List.getElem_mem hlt)) e
          have hne2 : gf ≠ (fl[i]'hlt).1 := fun e => (List.nodup_append.1 HA.out.nd).2.2 gf (by simp [hz, Value.ownBlock]) (fl[i]'hlt).1 (List.mem_map_of_mem (List.getElem_mem hlt)) e
          have hst := fun (W : World) (k : Nat) (h : Ph2 wa W fl N i k) (hk : k < (fl[i]'hlt).2.length) => h.step hlt hk hnd
          have hnx := fun (W : World) (k : Nat) (h : Ph2 wa W fl N i k) (hk : k = (fl[i]'hlt).2.length) => h.next hlt hk
          have hrb := fun (W : World) (k : Nat) (h : Ph2 wa W fl N i k) => h.r i hlt
          have hrd := fun (W : World) (h : Mods (· ∈ fl.map (·.1)) wa W) => And.intro (HRD.out W h).1 (And.intro ((HRD.out W h).2.2 i hlt) (HRD.out W h).2.1)
          obtain ⟨p, hp⟩ : ∃ p, p = fl[i]'hlt := ⟨_, rfl⟩
          rw [← hp] at hfr hne1 hne2 hst hnx hrb hrd
          obtain ⟨g, L⟩ := p
          have hL0 := hfr.2.1
          have hL1 := hfr.2.2
          simp only at hL0 hL1 hne1 hne2 hst hnx hrb
          have HST := Hid.mk_ hst
          have HNX := Hid.mk_ hnx
          have HRB := Hid.mk_ hrb
          have HRR := Hid.mk_ hrd
          have hNi : (N : Int) + i ≤ 4294967296 := by have := HN.out; omega
          have hwn : IntKind.i64.wrap ((N : Int) + i) = N + i := by rw [IntKind.wrap_i64]; omega
          clear hp hfr hst hnx hrb hrd hnd
          go_wp2_with fail
          go_loopw [6] (fun x6 wr => ∃ k : Nat, k ≤ L.length ∧ x6 = .int .i64 (k : Int) ∧ Hid (Ph2 wa wr fl N i k)) (fun x _ => L.length - (intOf x).toNat)
          case atStart => exact ⟨0, Nat.zero_le _, rfl, HP⟩
          case round =>
            obtain ⟨k, hk, rfl, HK⟩ := hrel
            obtain ⟨a0, a1, a2⟩ := HRR.out _ HK.out.m
            unfold fval at a1
            by_cases hkl : k < L.length
            · have hkl1 : (k : Int) < L.length := by omega
              go_wp2_with fail
              go_region_held3 (fun w' => w'.cell? ⟨bb, 0, none⟩ = some (.slice (some ⟨gf, 0, none⟩) fl.length cf) ∧ w'.cell? ⟨gf, i, none⟩ = some (.slice (some ⟨g, 0, none⟩) L.length L.length) ∧ w'.cell? ⟨bb, 3, none⟩ = some (.int .i64 (N : Int))) (first | exact ⟨a0, a1, a2⟩ | assumption | exact S3.set (r := ⟨0, 0, -1 - ((N : Int) + i)⟩) (by assumption) hne1 hne2)
                (first | (go_at_call 32; (with_reducible refine (mark_any ((N : Int) + i) (by omega) hNi _).mono ?_); rintro e w2 ⟨rfl, hb2⟩; have HK2 := Hid.mk_ (HK.out.below ((Drawn_below wr 1).trans hb2)); have hK := HRR.out w2 HK2.out.m; have hrb := HRB.out w2 k HK2.out; have x0 := (hrb.rows (k := k) (by rw [ctn_length (fun _ => hk)]; exact hkl)).1; have x1 := (hrb.rows (k := k) (by rw [ctn_length (fun _ => hk)]; exact hkl)).2.1; have x2 := (hrb.rows (k := k) (by rw [ctn_length (fun _ => hk)]; exact hkl)).2.2; have y0 := hrb.free (k * 3); have y1 := hrb.free (k * 3 + 1); have y2 := hrb.free (k * 3 + 2); have hgl := hrb.lt; clear hrb))
              go_wp2_with fail
              have h3 := HST.out w2 k HK2.out hkl
              unfold setRow3 mrk at h3
              simp only [Int.natCast_add] at h3
              exact ⟨⟨k + 1, by omega, by go_num, h3⟩, by simp [intOf]; omega⟩
            · have hge : ¬ ((k : Int) < L.length) := by omega
              have HNEXT := Hid.mk_ (HNX.out _ k HK.out (by omega))
              go_wp2_with fail
              exact ⟨⟨i + 1, by omega, by go_num, HNEXT⟩, by simp [intOf]; omega⟩
        · have hge : ¬ ((i : Int) < fl.length) := by omega
          have e : i = fl.length := by omega
          rw [e] at HP
          go_wp2_with fail
          go_meet
          exact HP
    case rest =>
      have HP := hcut
      have HS := Hid.mk_ (HA.out.stat HP.out.m.size)
      have HP0 := Hid.mk_ (HA.out.p4 HP.out.m)
      have HMK := Hid.mk_ (HP.out.marks)
      have HMC := Hid.mk_ (Mods.trans (S := fun k => k ∈ fl.map (·.1)) (HM0.out.mono (fun _ _ h => h.elim)) HP.out.m (fun _ _ h => h))
      obtain ⟨i0, hi0, hz0, hz1, hz2⟩ := info_parts Try.info65
      obtain ⟨i1, hi1, hy0, hy1, hy2⟩ := info_parts Try.info44
      have hcfv : wc.cell? ⟨bb, 0, none⟩ = some fv := HP0.out.blk.cell 0
      clear hcut
      go_upto_block 6 with fail
      go_cut [7, 8, 9] from 75 to 114 (fun x7 x8 x9 wx => ∃ (av' : Value) (es' : List Value) (D : List Nat), Hid (P4 wc wx bb fv wv av (fl.map (·.1)) dz N fl.length av' es' D))
      case first =>
        go_wp2_with fail
        go_loopw [7] (fun x7 wr => ∃ (i : Nat) (av' : Value) (es' : List Value) (D : List Nat), i ≤ fl.length ∧ x7 = .int .i64 (i : Int) ∧ Hid (P4 wc wr bb fv wv av (fl.map (·.1)) dz N i av' es' D)) (fun x _ => fl.length - (intOf x).toNat)
        case atStart => exact ⟨0, av, es, dz, Nat.zero_le _, rfl, HP0⟩
        case round =>
          obtain ⟨i, av', es', D, hi, rfl, H4⟩ := hrel
          have q0 : wr.cell? ⟨bb, 0, none⟩ = some fv := H4.out.blk.cell 0
          rw [hfv] at q0
          by_cases hlt : i < fl.length
          · have hlt1 : (i : Int) < fl.length := by omega
            obtain ⟨gf, cf', e1, hcf⟩ := own_vals HA.out.hf (by omega)
            rw [hfv] at e1
            cases e1
            have hgf := HS.out.fv_ (k := gf) (by rw [hfv]; rfl)
            have d0 : wr.cell? ⟨gf, i, none⟩ = some (fval (fl[i]'hlt)) := by
              have h1 : wr.heap[gf]? = wc.heap[gf]? := H4.out.m.block gf hgf.2.2 (fun e => by rcases e with e | e; exact hgf.1 e; exact hgf.2.1 e)
              have h2 : wc.heap[gf]? = wa.heap[gf]? := HP.out.m.block gf (HA.out.hf.lt gf (by rw [hfv]; rfl)).2 (fun hk2 => (List.nodup_append.1 HA.out.nd).2.2 gf (by simp [hz, hfv, Value.ownBlock]) gf hk2 rfl)
              have h3 := (World.cell?_of_block (w := wa) (w' := wr) (a := ⟨gf, i, none⟩) (h1.trans h2)).trans (hcf i (by rw [List.length_map]; exact hlt))
              rwa [List.getElem_map] at h3
            have hfr := HA.out.free _ (List.getElem_mem hlt)
            have hen := fun (n : Nat) => H4.out.enter (n := n) (g := (fl[i]'hlt).1) HS.out (by rw [List.length_map]; exact hlt) (by rw [List.getElem?_map, List.getElem?_eq_getElem hlt]; rfl)
            have hmk := HMK.out i hlt
            obtain ⟨p, hp⟩ : ∃ p, p = fl[i]'hlt := ⟨_, rfl⟩
            rw [← hp] at hfr hmk hen d0
            obtain ⟨g, L⟩ := p
            simp only at hfr hmk hen
            unfold fval at d0
            simp only at d0
            have HEN := Hid.mk_ (hen L.length hmk hfr.2.2)
            have hL1 := hfr.2.2
            clear hp hfr hmk hen hcf
            go_wp2_with fail
            go_loopw [8, 9] (fun x8 x9 wr => ∃ (k : Nat) (b : Bool) (av' : Value) (es' : List Value) (D : List Nat) (gx nx cx : Nat), k ≤ 5 ∧ (0 < k → b = true) ∧ x9 = .int .i64 (k : Int) ∧ x8 = .slice (some ⟨gx, 0, none⟩) nx cx ∧ Hid (P5 wc wr bb fv wv av (fl.map (·.1)) dz N i k b av' es' D gx nx cx)) (fun _ x _ => 5 - (intOf x).toNat)
            case atStart => exact ⟨0, false, av', es', D, g, L.length, L.length, by omega, by omega, rfl, rfl, HEN⟩
            case round =>
              obtain ⟨k, b, av5, es5, D5, gx, nx, cx, hk, hb, rfl, rfl, H5⟩ := hrel
              by_cases hk5 : k < 5
              · have hk6 : (k : Int) < 5 := by omega
                obtain ⟨Aa, ca, rfl⟩ := own_shape H5.out.a
                have hla := H5.out.la
                have hNl := HN.out
                have hn0 := H5.out.n0
                have hlen5 : es5.length ≤ 10000000 := by omega
                have hnk : nx + 1 ≤ 4294967296 + (k + 1) := by omega
                have hNi : (N : Int) + i ≤ 4294967296 := by omega
                have hwn : IntKind.i64.wrap ((N : Int) + i) = N + i := by rw [IntKind.wrap_i64]; omega
                have a2 : wr.cell? ⟨bb, 2, none⟩ = some (.slice Aa es5.length ca) := H5.out.blk.cell 2
                have hbbl := H5.out.blk.lt
                have HA5 := Hid.mk_ (fun (O : Obj) => (own_move H5.out.a (fun q hq => Below.heap_alloc wr O q (H5.out.a.lt q hq).2) : (wr.alloc O).ownsRow 0 44 1 (.slice Aa es5.length ca) es5.length es5))
                have HCELL := Hid.mk_ (fun (W : World) {es6 : List Value} {av6 : Value} (h : P5 wc W bb fv wv av (fl.map (·.1)) dz N i (k + 1) b av6 es6 D5 gx nx cx) (O : Obj) => show ∀ q, some (⟨gx, 0, none⟩ : Addr) = some q → ∀ j u, (rowsCells (List.replicate nx (mrk ((N + i : Nat) : Int))))[j]? = some u → (W.alloc O).cell? (q.add j) = some u by
                  intro q e j u hu
                  cases e
                  have hj := (List.getElem?_eq_some_iff.1 hu).1
                  have h2 : RowBlk (W.alloc O) gx _ := h.x.move (Below.heap_alloc W O gx h.x.lt)
                  have e2 : (⟨gx, 0, none⟩ : Addr).add j = ⟨gx, j, none⟩ := by cases j <;> simp [Addr.add]
                  rw [e2, h2.cell hj]
                  exact hu)
                clear hla
                by_cases hroom : nx + 1 ≤ cx
                · have hroom2 := hroom
                  have HOWN := Hid.mk_ (fun (W : World) {es6 : List Value} {av6 : Value} (h : P5 wc W bb fv wv av (fl.map (·.1)) dz N i (k + 1) b av6 es6 D5 gx nx cx) (O : Obj) => show (W.alloc O).ownsRow 0 65 3 (.slice (some ⟨gx, 0, none⟩) nx cx) nx (rowsCells (List.replicate nx (mrk ((N + i : Nat) : Int)))) by
                    have h2 := (h.gz.1.resolve_left (fun e => by have := e.2.1; omega)).2
                    exact own_move h2 (fun q hq => Below.heap_alloc W O q (h2.lt q hq).2))
                  go_wp2_with (first
                    | (at_builtin; refine wpList_append_own_at _ rfl _ _ 26 rfl 0 44 i1 _ 1 24 Try.underlying26 hi1 hy0 hy1 hy2 rfl (by omega) _ _ _ rfl (HA5.out _) ⟨_, 0, none⟩ 1 1 [.slice (some ⟨gx, 0, none⟩) nx cx] rfl rfl (one_cells_at _ _ _ (by simp)) (by simp [Value.oneCell']) (by unfold maxLen; omega) (by omega) (by simp) ?_; intro v2 w2 hown2 hgrow2 hnil2 hloc2; obtain ⟨A2, c2, rfl⟩ := own_shape hown2; have HP6 := Hid.mk_ (P5.push HS.out (H5.out.below ((Below.refl wr.heap.size wr).alloc (Nat.le_refl _) _)) hk5 hown2 hgrow2 hloc2); obtain ⟨b0, b2, b3, b4, b5⟩ := blk4 HP6.out.2; clear hown2 hgrow2 hnil2 hloc2)
                    | (go_at_call 32; (with_reducible refine (mark_any ((N : Int) + i) (by omega) hNi _).mono ?_); rintro e w3 ⟨rfl, hb3⟩; have HP7 := Hid.mk_ (P5.below HP6.out.1 hb3); clear hb3)
                    | (at_builtin; refine wpList_append_fits _ rfl _ _ 44 rfl 0 65 i0 3 Try.underlying44 hi0 hz1 gx nx cx _ rfl (HOWN.out _ HP7.out _) ⟨_, 0, none⟩ 1 1 [.int .i64 0, .int .i64 0, .int .i64 (-1 - ((N : Int) + i))] rfl rfl (one_cells_at _ _ _ (by simp)) (by simp [Value.oneCell']) (by omega) ?_; intro w4 hown4 hgrow4; have HP8 := Hid.mk_ (P5.room (HP7.out.below ((Below.refl w3.heap.size w3).alloc (Nat.le_refl _) _)) HS.out hroom hnk (by rw [mrk_cells]; exact hown4) hgrow4); clear hown4 hgrow4))
                  exact ⟨⟨k + 1, true, _, _, _, gx, nx + 1, cx, by omega, fun _ => rfl, by go_num, rfl, HP8⟩, by simp [intOf]; omega⟩
                · have hfull : cx < nx + 1 := by omega
                  go_wp2_with (first
                    | (at_builtin; refine wpList_append_own_at _ rfl _ _ 26 rfl 0 44 i1 _ 1 24 Try.underlying26 hi1 hy0 hy1 hy2 rfl (by omega) _ _ _ rfl (HA5.out _) ⟨_, 0, none⟩ 1 1 [.slice (some ⟨gx, 0, none⟩) nx cx] rfl rfl (one_cells_at _ _ _ (by simp)) (by simp [Value.oneCell']) (by unfold maxLen; omega) (by omega) (by simp) ?_; intro v2 w2 hown2 hgrow2 hnil2 hloc2; obtain ⟨A2, c2, rfl⟩ := own_shape hown2; have HP6 := Hid.mk_ (P5.push HS.out (H5.out.below ((Below.refl wr.heap.size wr).alloc (Nat.le_refl _) _)) hk5 hown2 hgrow2 hloc2); obtain ⟨b0, b2, b3, b4, b5⟩ := blk4 HP6.out.2; clear hown2 hgrow2 hnil2 hloc2)
                    | (go_at_call 32; (with_reducible refine (mark_any ((N : Int) + i) (by omega) hNi _).mono ?_); rintro e w3 ⟨rfl, hb3⟩; have HP7 := Hid.mk_ (P5.below HP6.out.1 hb3); clear hb3)
                    | (at_builtin; refine wpList_append_grows _ rfl _ _ 44 rfl 65 i0 _ 3 24 Try.underlying44 hi0 hz0 hz1 hz2 rfl (by omega) (some ⟨gx, 0, none⟩) nx cx (rowsCells (List.replicate nx (mrk ((N + i : Nat) : Int)))) rfl (by simp) (by rw [rowsCells_length, List.length_replicate]) (HCELL.out _ HP7.out _) ⟨_, 0, none⟩ 1 1 [.int .i64 0, .int .i64 0, .int .i64 (-1 - ((N : Int) + i))] rfl rfl (one_cells_at _ _ _ (by simp)) (by simp [Value.oneCell']) (by omega) (by unfold maxLen; omega) (by omega) ?_; intro v4 w4 hown4 hgrow4; obtain ⟨gy, cy, rfl, _, _⟩ := hown4.form (by omega); have HP8 := Hid.mk_ (P5.fresh (HP7.out.below ((Below.refl w3.heap.size w3).alloc (Nat.le_refl _) _)) HS.out (by omega) hnk (by rw [List.length_map]; exact hlt) (by rw [mrk_cells]; exact hown4) hgrow4); clear hown4 hgrow4))
                  exact ⟨⟨k + 1, true, _, _, _, gy, nx + 1, cy, by omega, fun _ => rfl, by go_num, rfl, HP8⟩, by simp [intOf]; omega⟩
              · have hge : ¬ ((k : Int) < 5) := by omega
                obtain rfl : k = 5 := by omega
                obtain rfl := hb (by omega)
                have HNEXT := Hid.mk_ (H5.out.leave HS.out)
                go_wp2_with fail
                exact ⟨⟨i + 1, _, _, _, by omega, by go_num, HNEXT⟩, by simp [intOf]; omega⟩
          · have hge : ¬ ((i : Int) < fl.length) := by omega
            have e : i = fl.length := by omega
            rw [e] at H4
            go_wp2_with fail
            go_meet
            exact ⟨av', es', D, H4⟩
      case rest =>
        obtain ⟨av', es', D, H4⟩ := hcut
        have hla := H4.out.la
        have hNl := HN.out
        have hlN : es'.length ≤ 10000000 := by omega
        clear hla
        obtain ⟨Aa, ca, hav⟩ := own_shape H4.out.a
        have hB4 := H4.out.blk
        obtain ⟨b0, b2, b3, b4, b5⟩ := blk4 hB4
        have b1 : wc.cell? ⟨bb, 1, none⟩ = some wv := hB4.cell 1
        have f0 := hB4.free 0
        have f1 := hB4.free 1
        have f3 := hB4.free 3
        have hwN : IntKind.i64.wrap ((N : Int) + fl.length) = N + fl.length := by rw [IntKind.wrap_i64]; omega
        have HB4 := Hid.mk_ hB4
        rw [hfv] at b0
        rw [hwv] at b1
        rw [hav] at b2
        clear hB4 hcfv k0
        go_upto_region 23 with fail
        go_region
        go_upto_block 10 with fail
        have hblk5 : Blk ((((wc.setCell ⟨bb, 3, none⟩ (.int .i64 ((N : Int) + fl.length))).setCell ⟨bb, 0, none⟩ (.slice none 0 0)).setCell ⟨bb, 1, none⟩ (.slice none 0 0)).drew) bb [.slice none 0 0, .slice none 0 0, av', .int .i64 ((N + (fl.map (·.1)).length : Nat) : Int)] 28 := by
          have h1 := (((HB4.out.set 3 (.int .i64 ((N : Int) + fl.length))).set 0 (.slice none 0 0)).set 1 (.slice none 0 0)).drew
          rw [show ((N + (fl.map (·.1)).length : Nat) : Int) = (N : Int) + fl.length by rw [List.length_map]; omega]
          exact h1
        have hm5 : Mods (· = bb) wc ((((wc.setCell ⟨bb, 3, none⟩ (.int .i64 ((N : Int) + fl.length))).setCell ⟨bb, 0, none⟩ (.slice none 0 0)).setCell ⟨bb, 1, none⟩ (.slice none 0 0)).drew) := ((((Mods.refl (· = bb) wc).setCell (p := ⟨bb, 3, none⟩) (fun _ => rfl) _).setCell (p := ⟨bb, 0, none⟩) (fun _ => rfl) _).setCell (p := ⟨bb, 1, none⟩) (fun _ => rfl) _).drew
        obtain ⟨wz', hwz⟩ : ∃ W, W = ((((wc.setCell ⟨bb, 3, none⟩ (.int .i64 ((N : Int) + fl.length))).setCell ⟨bb, 0, none⟩ (.slice none 0 0)).setCell ⟨bb, 1, none⟩ (.slice none 0 0)).drew) := ⟨_, rfl⟩
        rw [← hwz] at hblk5 hm5 ⊢
        have H4' := H4.out
        rw [show fl.length = (fl.map (·.1)).length by rw [List.length_map]] at H4'
        have hbk := P4.book HS.out H4' hm5 hblk5
        have hmall : Mods (fun k => k ∈ hz bb fv wv av ∨ k ∈ fl.map (·.1)) w wz' := by
          have h0 := HMC.out.mono (T := fun k => k ∈ hz bb fv wv av ∨ k ∈ fl.map (·.1)) (fun _ _ h => .inr h)
          have h1 := h0.trans H4.out.m (fun k _ e => .inl (by rcases e with e | e; simp [hz, e]; simp [hz, e]))
          exact h1.trans hm5 (fun k _ e => .inl (by simp [hz, e]))
        rw [List.length_map] at hbk
        have HBK := Hid.mk_ hbk.1
        have HBZ := Hid.mk_ hbk.2
        have HMA := Hid.mk_ hmall
        have g2 : wz'.cell? ⟨bb, 2, none⟩ = some (.slice Aa es'.length ca) := by rw [← hav]; exact hblk5.cell 2
        have hbz : bb < wz'.heap.size := hblk5.lt
        clear hwz H4' hbk hmall hblk5 hm5 b0 b1 b2 b3 b4 b5 f0 f1 f3 HB4
        go_wp2_with fail
        go_loopw [10] (fun x10 wr => ∃ i : Nat, i ≤ es'.length ∧ x10 = .int .i64 (i : Int) ∧ Hid (Below wz'.heap.size wz' wr)) (fun x _ => es'.length - (intOf x).toNat)
        case atStart => exact ⟨0, Nat.zero_le _, rfl, Below.refl _ _⟩
        case round =>
          obtain ⟨i, hi, rfl, HB⟩ := hrel
          have q2 : wr.cell? ⟨bb, 2, none⟩ = some (.slice Aa es'.length ca) := (HB.out.cell (p := ⟨bb, 2, none⟩) hbz).trans g2
          by_cases hlt : i < es'.length
          · have hlt1 : (i : Int) < es'.length := by omega
            have hown := HBK.out.head.a
            rw [hav] at hown
            obtain ⟨ga, ca', e1, hcf⟩ := own_vals hown (by omega)
            cases e1
            have d0 := hcf i hlt
            obtain ⟨g, n, c, he, hgD, hn, hrb⟩ := HBK.out.all i hlt
            rw [he] at d0
            have hgal : ga < wz'.heap.size := (hown.lt ga rfl).2
            have hgl := hrb.lt
            have ei : ((i / 5 : Nat) : Int) = (i : Int) / 5 := by omega
            rw [ei] at hrb
            have hi5 : 0 ≤ (i : Int) / 5 := by omega
            have hi6 : (i : Int) / 5 ≤ 4294967296 := by omega
            obtain ⟨y, hy⟩ : ∃ y, y = (i : Int) / 5 := ⟨_, rfl⟩
            have HCELL := Hid.mk_ (fun (W : World) (h : Below wz'.heap.size wz' W) => And.intro ((h.cell (p := ⟨bb, 2, none⟩) hbz).trans g2) ((h.cell (p := ⟨ga, i, none⟩) hgal).trans d0))
            have HROW := Hid.mk_ (fun (W : World) (h : Below wz'.heap.size wz' W) (k : Nat) (hk : k < n) => show W.cell? ⟨g, k * 3, none⟩ = some (.int .i64 0) ∧ W.cell? ⟨g, k * 3 + 1, none⟩ = some (.int .i64 0) ∧ W.cell? ⟨g, k * 3 + 2, none⟩ = some (.int .i64 (-1 - (i : Int) / 5)) by
              have h1 := (hrb.move (h.block g hgl)).rows (k := k) (by rw [List.length_replicate]; exact hk)
              rw [List.getElem_replicate] at h1
              exact h1)
            clear hcf he hgD hrb hown ei hy
            go_wp2_with fail
            go_loopw [11] (fun x11 wr => ∃ k : Nat, k ≤ n ∧ x11 = .int .i64 (k : Int) ∧ Hid (Below wz'.heap.size wz' wr)) (fun x _ => n - (intOf x).toNat)
            case atStart => exact ⟨0, Nat.zero_le _, rfl, HB⟩
            case round =>
              obtain ⟨k, hk, rfl, HK⟩ := hrel
              obtain ⟨a0, a1⟩ := HCELL.out _ HK.out
              by_cases hkl : k < n
              · have hkl1 : (k : Int) < n := by omega
                obtain ⟨r0, r1, r2⟩ := HROW.out _ HK.out k hkl
                have heq := row_eq ⟨0, 0, -1 - (i : Int) / 5⟩ ⟨0, 0, -1 - (i : Int) / 5⟩
                rw [decide_eq_true rfl] at heq
                simp only at heq
                have HMKC := Hid.mk_ (fun (W : World) => show Calls Try.prog 32 #[.int .i64 (IntKind.i64.wrap ((i : Int) / 5))] W fun e w' => e = .returned (.agg #[.int .i64 0, .int .i64 0, .int .i64 (-1 - (i : Int) / 5)]) ∧ Below W.heap.size W w' by
                  rw [show IntKind.i64.wrap ((i : Int) / 5) = (i : Int) / 5 by rw [IntKind.wrap_i64]; omega]
                  exact mark_any ((i : Int) / 5) hi5 hi6 W)
                have HRC := Hid.mk_ (fun (W : World) (h : Below wz'.heap.size wz' W) => show W.cell? ⟨bb, 2, none⟩ = some (.slice (some ⟨ga, 0, none⟩) es'.length ca) ∧ W.cell? ⟨ga, i, none⟩ = some (.slice (some ⟨g, 0, none⟩) n c) ∧ W.cell? ⟨g, k * 3, none⟩ = some (.int .i64 0) ∧ W.cell? ⟨g, k * 3 + 1, none⟩ = some (.int .i64 0) ∧ W.cell? ⟨g, k * 3 + 2, none⟩ = some (.int .i64 (-1 - (i : Int) / 5)) from
                  ⟨(HCELL.out W h).1, (HCELL.out W h).2, HROW.out W h k hkl⟩)
                go_wp2_with fail
                go_region_held3 (fun w' => w'.cell? ⟨bb, 2, none⟩ = some (.slice (some ⟨ga, 0, none⟩) es'.length ca) ∧ w'.cell? ⟨ga, i, none⟩ = some (.slice (some ⟨g, 0, none⟩) n c) ∧ w'.cell? ⟨g, k * 3, none⟩ = some (.int .i64 0) ∧ w'.cell? ⟨g, k * 3 + 1, none⟩ = some (.int .i64 0) ∧ w'.cell? ⟨g, k * 3 + 2, none⟩ = some (.int .i64 (-1 - (i : Int) / 5))) (first | exact ⟨a0, a1, r0, r1, r2⟩ | assumption)
                  (first | (go_at_call 32; (with_reducible refine (HMKC.out _).mono ?_); rintro e w2 ⟨rfl, hb2⟩; have HB2 := Hid.mk_ (HK.out.trans (((Drawn_below wr 1).trans hb2).mono HK.out.size)); have hK := HRC.out w2 HB2.out))
                go_wp2_with fail
                exact ⟨⟨k + 1, by omega, by go_num, HB2⟩, by simp [intOf]; omega⟩
              · have hge : ¬ ((k : Int) < n) := by omega
                go_wp2_with fail
                exact ⟨⟨i + 1, by omega, by go_num, HK⟩, by simp [intOf]; omega⟩
          · have hge : ¬ ((i : Int) < es'.length) := by omega
            go_wp2_with fail
            go_ret
            have hsz := HB.out.size
            have h9 := HMA.out.then_new HB.out
            have h8 := HBZ.out
            have h7 := HBK.out.move hsz (fun k hk => HB.out.block k (HBK.out.lt k hk))
            have h6 := HMC.out.size
            rw [hfv, hwv] at h9
            rw [hfv, hwv] at h8
            refine ⟨rfl, av', es', D, h7, fun k hk => ?_, h9⟩
            rcases h8 k hk with h1 | h1
            · exact .inl h1
            · exact .inr (Nat.le_trans h6 h1)
end Go.Proofs.Ytphmmpdeehfhjaa
