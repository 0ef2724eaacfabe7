/- What the operations answer, by what it says of points. No program in sight. -/
import Derived.Test.YtmfdcaalbpikpaaW13
namespace Go.Proofs.Ytmfdcaalbpikpaa
open Go.RowKit Go.Maps
set_option linter.unusedVariables false
set_option linter.unusedSimpArgs false
theorem getD_bool {l : List Bool} {i : Nat} (h : i < l.length) : l.getD i false = l[i]'h := by simp [List.getD, h]
structure Res (S : List Int) (M : Int) (N : List Nd) (R : Out) (φ : List Int → Bool) : Prop where
  pre : N <+: R.1
  err : R.2.2 = 0 ∨ R.2.2 = 2
  good : Good S M R.1
  ok : R.2.2 = 0 → hasA R.1 R.2.1 = true ∧ ∀ p, Pt S p → den R.1 p R.2.1 = φ p
section
variable {S : List Int} {M : Int} {N : List Nd} {f g op : Int} {φ : List Int → Bool} {R : Out}
theorem Fine.res {b : Int} (hG : Good S M N) (h : Fine S M N b R) (hd : R.2.2 = 0 → ∀ p, Pt S p → den R.1 p R.2.1 = φ p) : Res S M N (outA N R) φ := by
  unfold outA
  by_cases e : R.2.2 = 0
  · rw [if_pos e]
    exact ⟨h.pre, .inl e, h.good, fun _ => ⟨(h.ok e).1, hd e⟩⟩
  · rw [if_neg e]
    refine ⟨List.prefix_refl _, ?_, hG, fun e2 => absurd e2 e⟩
    rcases h.err with e2 | e2
    · exact absurd e2 e
    · exact .inr e2.1
theorem binA_res (hG : Good S M N) (hf : hasA N f = true) (hg : hasA N g = true) : Res S M N (binA op S M N f g) (fun p => opB op (den N p f) (den N p g)) := by
  unfold binA
  rw [if_pos ⟨hf, hg⟩]
  exact (runT_fine hG hf hg).res hG fun e p hp => runT_den hG hf hg hp e
theorem resA_res {lv cl : Int} (hG : Good S M N) (hf : hasA N f = true) (hL : 0 ≤ lv ∧ lv < S.length) (hC : 0 ≤ cl ∧ cl < S.getD lv.toNat 0) : Res S M N (resA S M lv cl N f) (fun p => den N (p.set lv.toNat cl) f) := by
  unfold resA
  rw [if_pos ⟨hf, hL, hC⟩]
  exact (cutT_fine hL hC hG hf).res hG fun e p hp => cutT_den hL hC hp _ N f hG hf (cut_lt hG f) e
theorem setA_res {lv : Int} {ins : List Bool} (hG : Good S M N) (hL : 0 ≤ lv ∧ lv < S.length) (hi : (ins.length : Int) = S.getD lv.toNat 0) : Res S M N (setA S M N lv ins) (fun p => ins.getD (p.getD lv.toNat 0).toNat false) := by
  unfold setA
  rw [if_pos ⟨hL, hi⟩]
  have hmay : mayA S N lv (ins.map toI) = true := by
    unfold mayA
    rw [Bool.and_eq_true_iff]
    refine ⟨shape_iff.2 ⟨hL.1, hL.2, by rw [List.length_map]; exact hi⟩, List.all_eq_true.2 fun r hr => ?_⟩
    obtain ⟨b, _, rfl⟩ := List.mem_map.1 hr
    have h01 : toI b = 0 ∨ toI b = 1 := by cases b <;> simp [toI]
    unfold lowA
    rw [has01 h01, lvl01 (by omega), decide_eq_true hL.2]
    rfl
  have hf := make_fine hG hmay
  refine ⟨hf.pre, ?_, hf.good, fun e => ⟨(hf.ok e).1, fun p hp => ?_⟩⟩
  · rcases hf.err with e | e
    · exact .inl e
    · exact .inr e.1
  · have hp1 := hp.each lv.toNat (by omega)
    have hc : (p.getD lv.toNat 0).toNat < ins.length := by omega
    rw [den_kid hf.good hp (hf.ok e).1 hL.2, make_kid hG hmay e (by rw [List.length_map]; exact hc)]
    rw [getD_mem (by rw [List.length_map]; exact hc), List.getElem_map, getD_bool hc]
    cases ins[(p.getD lv.toNat 0).toNat]'hc
    · exact den0
    · exact den1
theorem Res.tab (h : Res S M N R φ) (e : R.2.2 = 0) : tab S R.1 R.2.1 = (List.range (prodI S).toNat).map (fun n : Nat => φ (pt S (n : Int))) := by
  unfold Ytmfdcaalbpikpaa.tab
  refine List.map_congr_left fun n _ => ?_
  exact (h.ok e).2 _ (pt_Pt S _ (fun s hs => (h.good.sz s hs).1))
end
end Go.Proofs.Ytmfdcaalbpikpaa
