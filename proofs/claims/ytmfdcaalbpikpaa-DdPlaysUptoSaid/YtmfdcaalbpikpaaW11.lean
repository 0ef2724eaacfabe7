/- A table's point. -/
import Derived.Test.YtmfdcaalbpikpaaW9
import Derived.Test.YtmfdcaalbpikpaaQ7
namespace Go.Proofs.Ytmfdcaalbpikpaa
open Go.RowKit Go.Maps
set_option linter.unusedVariables false
set_option linter.unusedSimpArgs false
section
variable {w w' : World} {tb : Nat} {S : List Int} {sv fv yv : Value} {P : Int}
def RowPost (w : World) (xs : List Int) (e : Ending) (w' : World) : Prop :=
  ∃ v, e = .returned v ∧ Row w' 3 1 v xs.length (xs.map (Value.int .i64)) ∧ (∀ k, v.ownBlock = some k → w.heap.size ≤ k) ∧ Below w.heap.size w w'
set_option maxRecDepth 100000 in
set_option maxHeartbeats 4000000 in
theorem point_any {n : Int} (hb : Blk w tb [sv, .int .i64 P, fv, yv] 28) (hs : Row w 3 1 sv S.length (S.map (Value.int .i64))) (hS : ∀ s ∈ S, 1 ≤ s ∧ s ≤ 256) (hl : S.length ≤ 12) (hn : 0 ≤ n ∧ n ≤ 9223372036854775807) :
    Calls Try.prog 33 #[.pointer (some ⟨tb, 0, none⟩), .int .i64 n] w (RowPost w (pt S n)) := by
  have HSR := Hid.mk_ hs
  have HBK := Hid.mk_ hb
  have HS := Hid.mk_ hS
  obtain ⟨As, cs, rfl⟩ := hs.shape
  obtain ⟨i3, hi3, ha0, ha1, ha2⟩ := info_parts Try.info3
  have HN := Hid.mk_ hn
  obtain ⟨T, hT⟩ : ∃ T, T = pt S n := ⟨_, rfl⟩
  have hTl : T.length = S.length := by rw [hT]; exact pt_length S n
  rw [← hT]
  have HT := Hid.mk_ hT
  have HTL := Hid.mk_ hTl
  clear hb hs hS hn hT hTl
  go_enter Try.func33, Try.ntmps33
  go_wp2_with fail
  go_loopw [1, 5, 6] (fun x1 x5 x6 wr => ∃ (k : Nat) (m : Int) (A : Option Addr) (c : Nat), k ≤ S.length ∧ x6 = .int .i64 (k : Int) ∧ x1 = .int .i64 m ∧ x5 = .slice A k c ∧ Hid (0 ≤ m ∧ m ≤ 9223372036854775807 ∧ T.drop k = pt (S.drop k) m) ∧ Hid (Row wr 3 1 (.slice A k c) k ((T.take k).map (Value.int .i64))) ∧ Hid (∀ q, (Value.slice A k c).ownBlock = some q → w.heap.size ≤ q) ∧ Hid (Below w.heap.size w wr)) (fun _ _ x6 _ => S.length - (intOf x6).toNat)
  case atStart => exact ⟨0, n, none, 0, Nat.zero_le _, rfl, rfl, rfl, ⟨HN.out.1, HN.out.2, by rw [HT.out]; rfl⟩, Row.nil _ _ _, fun q hq => by simp [Value.ownBlock] at hq, Below.refl _ _⟩
  case round =>
    obtain ⟨k, m, A, c, hk, rfl, rfl, rfl, HM, HR, HQ, HB⟩ := hrel
    have x0 : wr.cell? ⟨tb, 0, none⟩ = some (.slice As S.length cs) := (HBK.out.below HB.out HBK.out.lt).cell 0
    have hbl := (HBK.out.below HB.out HBK.out.lt).lt
    by_cases hlt : k < S.length
    · have hlt1 : (k : Int) < S.length := by omega
      obtain ⟨g, c2, e, hg, _⟩ := HSR.out.some_ (by omega)
      cases e
      have s0 : wr.cell? ⟨g, k, none⟩ = some (.int .i64 (S[k]'hlt)) := (HB.out.cell (p := ⟨g, k, none⟩) hg).trans (row3 HSR.out k hlt)
      have hgl : g < wr.heap.size := Nat.lt_of_lt_of_le hg HB.out.size
      have hs1 := HS.out _ (List.getElem_mem hlt)
      have hd := HM.out.2.2
      rw [List.drop_eq_getElem_cons hlt, List.drop_eq_getElem_cons (by rw [HTL.out]; exact hlt)] at hd
      obtain ⟨s, hse⟩ : ∃ s, s = S[k]'hlt := ⟨_, rfl⟩
      rw [← hse] at s0 hs1 hd
      unfold pt at hd
      injection hd with hd1 hd2
      have hz : ¬ s = 0 := by omega
      have hm0 := HM.out.1
      have hm1 := HM.out.2.1
      have HD1 := Hid.mk_ hd1
      have HD2 := Hid.mk_ hd2
      have em : m.tmod s = m % s := Int.tmod_eq_emod_of_nonneg hm0
      have ed : m.tdiv s = m / s := Int.tdiv_eq_ediv_of_nonneg hm0
      have hdv : 0 ≤ m / s ∧ m / s ≤ m := ⟨Int.ediv_nonneg hm0 (by omega), Int.ediv_le_self _ hm0⟩
      have HDV := Hid.mk_ hdv
      have EM := Hid.mk_ em
      have ED := Hid.mk_ ed
      clear hd1 hd2 hse em ed hdv
      go_wp2_with (at_builtin; refine wpList_append_row _ rfl _ _ 22 rfl 3 i3 (.int .i64 0) 1 8 Try.underlying22 hi3 ha0 ha1 ha2 rfl (by decide) (.slice A k c) k ((T.take k).map (Value.int .i64)) rfl (HR.out.alloc _) ⟨wr.heap.size, 0, none⟩ 1 1 [.int .i64 (m % s)] rfl rfl (one_cells_at wr _ _ rfl) (by simp [Value.oneCell']) (by decide) (by unfold maxLen; omega) (by omega) (wr.heap.size + 1) (by simp) ?_; intro g' cap' w1 hrow hgrow hloc hlt'; have hgB : w.heap.size ≤ g' := (by rcases hloc with e | e; exact HQ.out _ e; have := HB.out.size; omega); have hb1 : Below w.heap.size w w1 := Below.grown (HB.out.alloc HB.out.size _) hgrow (by simp; have := HB.out.size; omega) (fun q e => HQ.out q e); have x0' : w1.cell? ⟨tb, 0, none⟩ = some (.slice (some ⟨g, 0, none⟩) S.length cs) := (HBK.out.below hb1 HBK.out.lt).cell 0; have hbl' := (HBK.out.below hb1 HBK.out.lt).lt; have s0' : w1.cell? ⟨g, k, none⟩ = some (.int .i64 s) := (hb1.cell (p := ⟨g, k, none⟩) hg).trans ((HB.out.cell (p := ⟨g, k, none⟩) hg).symm.trans s0); have hgl' : g < w1.heap.size := Nat.lt_of_lt_of_le hg hb1.size; have HROW := Hid.mk_ hrow; have HGB := Hid.mk_ hgB; have HB1 := Hid.mk_ hb1; clear hrow hgB hb1 hgrow hloc x0 s0)
      refine ⟨⟨k + 1, m / s, some ⟨g', 0, none⟩, cap', by omega, by go_num, rfl, rfl, Hid.mk_ ⟨?_, ?_, ?_⟩, Hid.mk_ ?_, Hid.mk_ ?_, HB1⟩, by simp [intOf]; omega⟩
      · exact HDV.out.1
      · have := HDV.out.2; omega
      · exact HD2.out
      · have hlT : k < T.length := by rw [HTL.out]; exact hlt
        have e : (T.take (k + 1)).map (Value.int .i64) = (T.take k).map (Value.int .i64) ++ [.int .i64 (m % s)] := by
          rw [List.take_succ_eq_append_getElem hlT, List.map_append, HD1.out]; rfl
        rw [e]; exact HROW.out
      · intro q hq; cases hq; exact HGB.out
    · have hke : k = S.length := by omega
      subst hke
      have hlt1 : ¬ ((S.length : Nat) : Int) < S.length := by omega
      go_wp2_with fail
      go_ret
      refine ⟨_, rfl, ?_, HQ.out, HB.out⟩
      have := HR.out
      rw [List.take_of_length_le (by rw [HTL.out]; exact Nat.le_refl _)] at this
      rw [HTL.out]
      exact this
end
end Go.Proofs.Ytmfdcaalbpikpaa
namespace Go.Proofs.Ytmfdcaalbpikpaa
open Go.RowKit Go.Maps
set_option linter.unusedVariables false
set_option linter.unusedSimpArgs false
theorem Try.info4 : (Try.prog.info? 4).map (fun i => (i.zero, i.size, i.bytes)) = some (some (.bool false), 1, 1) := by kernel_rfl
theorem Try.info34 : (Try.prog.info? 34).map (fun i => (i.zero, i.size, i.bytes)) = some (some (.slice none 0 0), 1, 24) := by kernel_rfl
def tblk (tb : Nat) (sv fv yv : Value) (V : List Value) (k : Nat) : Prop := k = tb ∨ sv.ownBlock = some k ∨ fv.ownBlock = some k ∨ yv.ownBlock = some k ∨ ∃ v ∈ V, v.ownBlock = some k
/-- a table -/
structure Tab (w : World) (tb : Nat) (S : List Int) (F : List Int) (T : List (List Bool)) (V : List Value) (sv fv yv : Value) : Prop where
  blk : Blk w tb [sv, .int .i64 (prodI S), fv, yv] 28
  srow : Row w 3 1 sv S.length (S.map (Value.int .i64))
  frow : Row w 3 1 fv F.length (F.map (Value.int .i64))
  yrow : Row w 34 1 yv V.length V
  vl : V.length = T.length
  fl : F.length = T.length
  rows : ∀ i (h : i < V.length) (h2 : i < T.length), Row w 4 1 (V[i]'h) (T[i]'h2).length ((T[i]'h2).map Value.bool)
  sf : ∀ k, sv.ownBlock = some k → fv.ownBlock ≠ some k
section
variable {w w' w0 : World} {tb ab : Nat} {S F : List Int} {T : List (List Bool)} {V : List Value} {sv fv yv : Value} {N N' : List Nd} {z : List Nat}
theorem Tab.move (h : Tab w tb S F T V sv fv yv) (hm : ∀ k, tblk tb sv fv yv V k → w'.heap[k]? = w.heap[k]?) : Tab w' tb S F T V sv fv yv where
  blk := h.blk.move (hm tb (.inl rfl))
  srow := h.srow.move fun k hk => hm k (.inr (.inl hk))
  frow := h.frow.move fun k hk => hm k (.inr (.inr (.inl hk)))
  yrow := h.yrow.move fun k hk => hm k (.inr (.inr (.inr (.inl hk))))
  vl := h.vl
  fl := h.fl
  rows := fun i hi hi2 => (h.rows i hi hi2).move fun k hk => hm k (.inr (.inr (.inr (.inr ⟨_, List.getElem_mem hi, hk⟩))))
  sf := h.sf
theorem Tab.lt (h : Tab w tb S F T V sv fv yv) {k : Nat} (hk : tblk tb sv fv yv V k) : k < w.heap.size := by
  rcases hk with rfl | e | e | e | ⟨v, hv, e⟩
  · exact h.blk.lt
  · exact h.srow.lt k e
  · exact h.frow.lt k e
  · exact h.yrow.lt k e
  · obtain ⟨i, hi, rfl⟩ := List.getElem_of_mem hv
    exact (h.rows i hi (by rw [← h.vl]; exact hi)).lt k e
theorem Tab.new (h : Tab w tb S F T V sv fv yv) (hb : Below w.heap.size w w') : Tab w' tb S F T V sv fv yv := h.move fun k hk => hb.block k (h.lt hk)
/-- the state of DdTables -/
structure TS (w0 w : World) (ab tb : Nat) (S : List Int) (N : List Nd) (z : List Nat) (F : List Int) (V : List Value) (sv fv yv : Value) : Prop where
  pa : PAt w ab S 8192 N z
  tbl : Tab w tb S F (F.map (tab S N)) V sv fv yv
  zB : ∀ k ∈ z, w0.heap.size ≤ k
  tB : ∀ k, tblk tb sv fv yv V k → w0.heap.size ≤ k ∧ k ∉ z
  below : Below w0.heap.size w0 w
  hasF : ∀ f ∈ F, hasA N f = true
theorem TS.new (h : TS w0 w ab tb S N z F V sv fv yv) (hb : Below w.heap.size w w') : TS w0 w' ab tb S N z F V sv fv yv :=
  ⟨h.pa.new hb, h.tbl.new hb, h.zB, h.tB, h.below.trans (hb.mono h.below.size), h.hasF⟩
theorem TS.op (h : TS w0 w ab tb S N z F V sv fv yv) (hp : N <+: N') (hg : Grew w w' ab S 8192 N' z) : ∃ z', TS w0 w' ab tb S N' z' F V sv fv yv ∧ (∀ k ∈ z', k ∈ z ∨ w.heap.size ≤ k) ∧ Mods (· ∈ z) w w' := by
  obtain ⟨z', hp', hm, hz⟩ := hg
  have e : F.map (tab S N') = F.map (tab S N) := List.map_congr_left fun f hf => tab_ext h.pa.good hp (h.hasF f hf)
  refine ⟨z', ⟨hp', ?_, fun k hk => ?_, fun k hk => ⟨(h.tB k hk).1, fun hkz => ?_⟩, h.below.trans (hm.below h.below.size (fun k _ hk => h.zB k hk)), fun f hf => has_pre hp (h.hasF f hf)⟩, hz, hm⟩
  · rw [e]; exact h.tbl.move fun k hk => hm.block k (h.tbl.lt hk) (h.tB k hk).2
  · rcases hz k hk with e | e
    · exact h.zB k e
    · have := h.below.size; omega
  · rcases hz k hkz with e | e
    · exact (h.tB k hk).2 e
    · have := h.tbl.lt hk; omega
/-- numbers of levels and classes -/
structure Few (S : List Int) : Prop where
  len : 1 ≤ S.length ∧ S.length ≤ 4
  sz : ∀ s ∈ S, 1 ≤ s ∧ s ≤ 3
theorem Few.prod : ∀ (S : List Int), (∀ s ∈ S, 1 ≤ s ∧ s ≤ 3) → 1 ≤ prodI S ∧ prodI S ≤ 3 ^ S.length
  | [], _ => by simp [prodI]
  | s :: S, h => by
    have ih := Few.prod S (fun x hx => h x (by simp [hx]))
    have hs := h s (by simp)
    unfold prodI
    rw [List.length_cons, Int.pow_succ]
    have m1 : 1 * prodI S ≤ s * prodI S := Int.mul_le_mul_of_nonneg_right hs.1 (by omega)
    have m2 : s * prodI S ≤ 3 * prodI S := Int.mul_le_mul_of_nonneg_right hs.2 (by omega)
    omega
theorem Few.pts (h : Few S) : 1 ≤ prodI S ∧ prodI S ≤ 81 := by
  have h1 := Few.prod S h.sz
  have h2 := h.len.2
  refine ⟨h1.1, Int.le_trans h1.2 ?_⟩
  rcases (by omega : S.length = 0 ∨ S.length = 1 ∨ S.length = 2 ∨ S.length = 3 ∨ S.length = 4) with e | e | e | e | e <;> rw [e] <;> decide
end
end Go.Proofs.Ytmfdcaalbpikpaa
