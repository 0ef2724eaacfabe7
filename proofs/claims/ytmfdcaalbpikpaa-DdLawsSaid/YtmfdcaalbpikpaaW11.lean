/- A table in memory; what changes beside it. -/
import Derived.Test.YtmfdcaalbpikpaaW10
namespace Go.Proofs.Ytmfdcaalbpikpaa
open Go.RowKit Go.Maps
set_option linter.unusedVariables false
set_option linter.unusedSimpArgs false
theorem Try.info4 : (Try.prog.info? 4).map (fun i => (i.zero, i.size, i.bytes)) = some (some (.bool false), 1, 1) := by kernel_rfl
theorem Try.info34 : (Try.prog.info? 34).map (fun i => (i.zero, i.size, i.bytes)) = some (some (.slice none 0 0), 1, 24) := by kernel_rfl
def tblk (tb : Nat) (sv fv yv : Value) (V : List Value) (k : Nat) : Prop := k = tb ∨ sv.ownBlock = some k ∨ fv.ownBlock = some k ∨ yv.ownBlock = some k ∨ ∃ v ∈ V, v.ownBlock = some k
/-- a table -/
structure Tab (w : World) (tb : Nat) (S : List Int) (F : List Int) (T : List (List Bool)) (V : List Value) (sv fv yv : Value) : Prop where
  blk : Blk w tb [sv, .int .i64 (prodI S), fv, yv] 28
  srow : Row w 3 1 sv S.length (S.map (Value.int .i64))
  frow : Row w 3 1 fv F.length (F.map (Value.int .i64))
  yrow : Row w 34 1 yv V.length V
  vl : V.length = T.length
  fl : F.length = T.length
  rows : ∀ i (h : i < V.length) (h2 : i < T.length), Row w 4 1 (V[i]'h) (T[i]'h2).length ((T[i]'h2).map Value.bool)
  sf : ∀ k, sv.ownBlock = some k → fv.ownBlock ≠ some k
section
variable {w w' w0 : World} {tb ab : Nat} {S F : List Int} {T : List (List Bool)} {V : List Value} {sv fv yv : Value} {N N' : List Nd} {z : List Nat}
theorem Tab.move (h : Tab w tb S F T V sv fv yv) (hm : ∀ k, tblk tb sv fv yv V k → w'.heap[k]? = w.heap[k]?) : Tab w' tb S F T V sv fv yv where
  blk := h.blk.move (hm tb (.inl rfl))
  srow := h.srow.move fun k hk => hm k (.inr (.inl hk))
  frow := h.frow.move fun k hk => hm k (.inr (.inr (.inl hk)))
  yrow := h.yrow.move fun k hk => hm k (.inr (.inr (.inr (.inl hk))))
  vl := h.vl
  fl := h.fl
  rows := fun i hi hi2 => (h.rows i hi hi2).move fun k hk => hm k (.inr (.inr (.inr (.inr ⟨_, List.getElem_mem hi, hk⟩))))
  sf := h.sf
theorem Tab.lt (h : Tab w tb S F T V sv fv yv) {k : Nat} (hk : tblk tb sv fv yv V k) : k < w.heap.size := by
  rcases hk with rfl | e | e | e | ⟨v, hv, e⟩
  · exact h.blk.lt
  · exact h.srow.lt k e
  · exact h.frow.lt k e
  · exact h.yrow.lt k e
  · obtain ⟨i, hi, rfl⟩ := List.getElem_of_mem hv
    exact (h.rows i hi (by rw [← h.vl]; exact hi)).lt k e
theorem Tab.new (h : Tab w tb S F T V sv fv yv) (hb : Below w.heap.size w w') : Tab w' tb S F T V sv fv yv := h.move fun k hk => hb.block k (h.lt hk)
/-- the state of DdTables -/
structure TS (w0 w : World) (ab tb : Nat) (S : List Int) (N : List Nd) (z : List Nat) (F : List Int) (V : List Value) (sv fv yv : Value) : Prop where
  pa : PAt w ab S 8192 N z
  tbl : Tab w tb S F (F.map (tab S N)) V sv fv yv
  zB : ∀ k ∈ z, w0.heap.size ≤ k
  tB : ∀ k, tblk tb sv fv yv V k → w0.heap.size ≤ k ∧ k ∉ z
  below : Below w0.heap.size w0 w
  hasF : ∀ f ∈ F, hasA N f = true
theorem TS.new (h : TS w0 w ab tb S N z F V sv fv yv) (hb : Below w.heap.size w w') : TS w0 w' ab tb S N z F V sv fv yv :=
  ⟨h.pa.new hb, h.tbl.new hb, h.zB, h.tB, h.below.trans (hb.mono h.below.size), h.hasF⟩
theorem TS.op (h : TS w0 w ab tb S N z F V sv fv yv) (hp : N <+: N') (hg : Grew w w' ab S 8192 N' z) : ∃ z', TS w0 w' ab tb S N' z' F V sv fv yv ∧ (∀ k ∈ z', k ∈ z ∨ w.heap.size ≤ k) ∧ Mods (· ∈ z) w w' := by
  obtain ⟨z', hp', hm, hz⟩ := hg
  have e : F.map (tab S N') = F.map (tab S N) := List.map_congr_left fun f hf => tab_ext h.pa.good hp (h.hasF f hf)
  refine ⟨z', ⟨hp', ?_, fun k hk => ?_, fun k hk => ⟨(h.tB k hk).1, fun hkz => ?_⟩, h.below.trans (hm.below h.below.size (fun k _ hk => h.zB k hk)), fun f hf => has_pre hp (h.hasF f hf)⟩, hz, hm⟩
  · rw [e]; exact h.tbl.move fun k hk => hm.block k (h.tbl.lt hk) (h.tB k hk).2
  · rcases hz k hk with e | e
    · exact h.zB k e
    · have := h.below.size; omega
  · rcases hz k hkz with e | e
    · exact (h.tB k hk).2 e
    · have := h.tbl.lt hk; omega
/-- numbers of levels and classes -/
structure Few (S : List Int) : Prop where
  len : 1 ≤ S.length ∧ S.length ≤ 4
  sz : ∀ s ∈ S, 1 ≤ s ∧ s ≤ 3
theorem Few.prod : ∀ (S : List Int), (∀ s ∈ S, 1 ≤ s ∧ s ≤ 3) → 1 ≤ prodI S ∧ prodI S ≤ 3 ^ S.length
  | [], _ => by simp [prodI]
  | s :: S, h => by
    have ih := Few.prod S (fun x hx => h x (by simp [hx]))
    have hs := h s (by simp)
    unfold prodI
    rw [List.length_cons, Int.pow_succ]
    have m1 : 1 * prodI S ≤ s * prodI S := Int.mul_le_mul_of_nonneg_right hs.1 (by omega)
    have m2 : s * prodI S ≤ 3 * prodI S := Int.mul_le_mul_of_nonneg_right hs.2 (by omega)
    omega
theorem Few.pts (h : Few S) : 1 ≤ prodI S ∧ prodI S ≤ 81 := by
  have h1 := Few.prod S h.sz
  have h2 := h.len.2
  refine ⟨h1.1, Int.le_trans h1.2 ?_⟩
  rcases (by omega : S.length = 0 ∨ S.length = 1 ∨ S.length = 2 ∨ S.length = 3 ∨ S.length = 4) with e | e | e | e | e <;> rw [e] <;> decide
end
end Go.Proofs.Ytmfdcaalbpikpaa
