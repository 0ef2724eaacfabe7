/- What a Writer laid down, a Reader takes up. No program in sight. -/
import Derived.Test.YtdccgmfhnofabaaDoorP5
namespace Go.Proofs.YtdccgmfhnofabaaDoor
set_option linter.unusedVariables false
set_option linter.unusedSimpArgs false
/-- a thing: a number of k bytes, a text, bytes as they are -/
inductive It where
  | num (k : Nat) (n : Nat)
  | text (t : List UInt8) (more : Nat)
  | raw (t : List UInt8)
def It.ok : It → Prop
  | .num k n => 1 ≤ k ∧ k ≤ 8 ∧ n ≤ 9223372036854775807 ∧ n < 256 ^ k
  | .text t _ => t.length ≤ 65535
  | .raw _ => True
def It.enc : It → List UInt8
  | .num k n => byL k n
  | .text t _ => byL 2 t.length ++ t
  | .raw t => t
def It.put (W : Wr) : It → Wr
  | .num k n => W.num k n
  | .text t _ => W.text t
  | .raw t => W.raw t
def It.get (r : Rd) : It → Bool × Rd
  | .num k n => (decide ((r.num k).1 = (n : Int)), (r.num k).2)
  | .text t m => (decide ((r.text (t.length + m)).1 = t), (r.text (t.length + m)).2)
  | .raw t => (decide ((r.raw t.length).1 = t), (r.raw t.length).2)
theorem pow_cast {n k : Nat} (h : n < 256 ^ k) : (n : Int) < 256 ^ (k : Int).toNat := by
  have h2 := Int.ofNat_lt.2 h
  rw [Int.natCast_pow] at h2
  rw [Int.toNat_natCast]
  exact h2
theorem It.put_lay {x : It} (h : x.ok) (W : Wr) : x.put W = W.lay x.enc 0 := by
  cases x with
  | num k n =>
    obtain ⟨h1, h2, h3, h4⟩ := h
    show W.num k n = _
    unfold Wr.num
    have hf : fitsB (k : Int) (n : Int) = true := decide_eq_true ⟨by omega, by omega, by omega, .inr (pow_cast h4)⟩
    rw [if_pos hf, Int.toNat_natCast, Int.toNat_natCast]; rfl
  | text t m =>
    show W.text t = _
    unfold Wr.text
    rw [if_neg (by have : t.length ≤ 65535 := h; omega)]; rfl
  | raw t => rfl
theorem take2 {n : Nat} (h : n < 65536) (rest : List UInt8) : numL ((byL 2 n ++ rest).take 2) = n := by
  rw [List.take_append_of_le_length (Nat.le_of_eq (byL_length _ _).symm), List.take_of_length_le (Nat.le_of_eq (byL_length _ _)), numL_byL]
  exact Nat.mod_eq_of_lt h
theorem It.get_ok {x : It} (h : x.ok) (rest : List UInt8) : x.get ⟨x.enc ++ rest, 0⟩ = (true, ⟨rest, 0⟩) := by
  cases x with
  | num k n =>
    obtain ⟨h1, h2, h3, h4⟩ := h
    have hl := byL_length n k
    have e : (⟨byL k n ++ rest, 0⟩ : Rd).num k = ((n : Int), ⟨rest, 0⟩) := by
      unfold Rd.num
      have ht : (byL k n ++ rest).take k = byL k n := by rw [List.take_append_of_le_length (by omega), List.take_of_length_le (by omega)]
      have hd : (byL k n ++ rest).drop k = rest := by rw [List.drop_append_of_le_length (by omega), List.drop_of_length_le (by omega)]; rfl
      have hn : numL (byL k n) = n := by rw [numL_byL, Nat.mod_eq_of_lt h4]
      simp only [Int.toNat_natCast, ht, hd, hn]
      rw [if_neg (by simp), if_neg (by omega), if_neg (by rw [List.length_append, hl]; omega), if_neg (by omega)]
    show (decide (((⟨byL k n ++ rest, 0⟩ : Rd).num k).1 = (n : Int)), ((⟨byL k n ++ rest, 0⟩ : Rd).num k).2) = _
    rw [e]; simp
  | text t m =>
    have ht : t.length ≤ 65535 := h
    have hl := byL_length t.length 2
    have e : (⟨(byL 2 t.length ++ t) ++ rest, 0⟩ : Rd).text (t.length + m) = (t, ⟨rest, 0⟩) := by
      unfold Rd.text
      have hn : numL (((byL 2 t.length ++ t) ++ rest).take 2) = t.length := by rw [List.append_assoc]; exact take2 (by omega) _
      simp only [hn]
      have hd : ((byL 2 t.length ++ t) ++ rest).drop 2 = t ++ rest := by rw [List.append_assoc, List.drop_append_of_le_length (by omega), List.drop_of_length_le (by omega)]; rfl
      rw [if_neg (by simp), if_neg (by simp [hl]), if_neg (by omega), if_neg (by simp [hl]), ← List.drop_drop, hd]
      simp
    show (decide (((⟨(byL 2 t.length ++ t) ++ rest, 0⟩ : Rd).text (t.length + m)).1 = t), ((⟨(byL 2 t.length ++ t) ++ rest, 0⟩ : Rd).text (t.length + m)).2) = _
    rw [e]; simp
  | raw t =>
    have e : (⟨t ++ rest, 0⟩ : Rd).raw t.length = (t, ⟨rest, 0⟩) := by
      unfold Rd.raw
      rw [if_neg (by simp), if_neg (by omega), if_neg (by simp; omega), Int.toNat_natCast]
      simp
    show (decide (((⟨t ++ rest, 0⟩ : Rd).raw t.length).1 = t), ((⟨t ++ rest, 0⟩ : Rd).raw t.length).2) = _
    rw [e]; simp
theorem It.get_short {x : It} (h : x.ok) (hne : x.enc ≠ []) : (x.get ⟨x.enc.dropLast, 0⟩).2.e = 12 := by
  cases x with
  | num k n =>
    obtain ⟨h1, h2, h3, h4⟩ := h
    show ((⟨(byL k n).dropLast, 0⟩ : Rd).num k).2.e = 12
    unfold Rd.num
    rw [if_neg (by simp), if_neg (by omega), if_pos (by simp [byL_length]; omega)]
  | text t m =>
    have ht : t.length ≤ 65535 := h
    have hl := byL_length t.length 2
    show ((⟨(byL 2 t.length ++ t).dropLast, 0⟩ : Rd).text (t.length + m)).2.e = 12
    unfold Rd.text
    have hlen : (byL 2 t.length ++ t).dropLast.length = 1 + t.length := by simp [hl]
    by_cases h0 : t.length = 0
    · rw [if_neg (by simp), if_pos (by rw [hlen]; omega)]
    · have h2 : ((byL 2 t.length ++ t).dropLast).take 2 = (byL 2 t.length ++ t).take 2 := by
        rw [List.dropLast_eq_take, List.take_take, Nat.min_eq_left (by simp only [List.length_append, hl]; omega)]
      have hn : numL (((byL 2 t.length ++ t).dropLast).take 2) = t.length := by rw [h2]; exact take2 (by omega) _
      simp only [hn]
      rw [if_neg (by simp), if_neg (by rw [hlen]; omega), if_neg (by omega), if_pos (by rw [hlen]; omega)]
  | raw t =>
    have hp : 0 < t.length := List.length_pos_iff.2 hne
    show ((⟨t.dropLast, 0⟩ : Rd).raw t.length).2.e = 12
    unfold Rd.raw
    rw [if_neg (by simp), if_neg (by omega), if_pos (by simp; omega)]
theorem It.get_err {r : Rd} (h : r.e ≠ 0) (x : It) : (x.get r).2 = r := by
  cases x with
  | num k n => show (r.num k).2 = r; unfold Rd.num; rw [if_pos h]
  | text t m => show (r.text (t.length + m)).2 = r; unfold Rd.text; rw [if_pos h]
  | raw t => show (r.raw t.length).2 = r; unfold Rd.raw; rw [if_pos h]
def encs (l : List It) : List UInt8 := l.flatMap It.enc
def getAll (r : Rd) (l : List It) : Rd := l.foldl (fun r x => (x.get r).2) r
theorem getAll_snoc (r : Rd) (l : List It) (x : It) : getAll r (l ++ [x]) = (x.get (getAll r l)).2 := by unfold getAll; rw [List.foldl_append]; rfl
theorem getAll_err {r : Rd} (h : r.e ≠ 0) : ∀ l : List It, getAll r l = r
  | [] => rfl
  | x :: l => by
    show getAll (x.get r).2 l = r
    rw [It.get_err h]; exact getAll_err h l
theorem encs_cons (x : It) (l : List It) : encs (x :: l) = x.enc ++ encs l := rfl
theorem encs_append (a b : List It) : encs (a ++ b) = encs a ++ encs b := by unfold encs; exact List.flatMap_append
theorem getAll_ok : ∀ (l m : List It) (tail : List UInt8), (∀ x ∈ l, x.ok) → getAll ⟨encs (l ++ m) ++ tail, 0⟩ l = ⟨encs m ++ tail, 0⟩
  | [], m, tail, _ => rfl
  | x :: l, m, tail, h => by
    show getAll (x.get ⟨encs (x :: (l ++ m)) ++ tail, 0⟩).2 l = _
    rw [encs_cons, List.append_assoc, It.get_ok (h x (by simp))]
    exact getAll_ok l m tail (fun y hy => h y (by simp [hy]))
theorem getAll_short : ∀ (l : List It), (∀ x ∈ l, x.ok) → encs l ≠ [] → (getAll ⟨(encs l).dropLast, 0⟩ l).e = 12
  | [], _, h => absurd rfl h
  | x :: l, hok, hne => by
    show (getAll (x.get ⟨(encs (x :: l)).dropLast, 0⟩).2 l).e = 12
    rw [encs_cons]
    by_cases he : encs l = []
    · rw [he, List.append_nil]
      rw [encs_cons, he, List.append_nil] at hne
      have h12 := It.get_short (hok x (by simp)) hne
      rw [getAll_err (by rw [h12]; omega)]
      exact h12
    · rw [List.dropLast_append_of_ne_nil he, It.get_ok (hok x (by simp))]
      exact getAll_short l (fun y hy => hok y (by simp [hy])) he
theorem get_at {l : List It} (hok : ∀ x ∈ l, x.ok) (tail : List UInt8) (j : Nat) (hj : j < l.length) : ((l[j]'hj).get (getAll ⟨encs l ++ tail, 0⟩ (l.take j))).1 = true := by
  have e : l = l.take j ++ (l[j]'hj) :: l.drop (j + 1) := by rw [List.getElem_cons_drop, List.take_append_drop]
  have h := getAll_ok (l.take j) ((l[j]'hj) :: l.drop (j + 1)) tail (fun x hx => hok x (List.mem_of_mem_take hx))
  rw [← e] at h
  rw [h, encs_cons, List.append_assoc, It.get_ok (hok _ (List.getElem_mem hj))]
theorem getAll_take (r : Rd) (l : List It) (j : Nat) (hj : j < l.length) : getAll r (l.take (j + 1)) = ((l[j]'hj).get (getAll r (l.take j))).2 := by
  rw [List.take_succ_eq_append_getElem hj, getAll_snoc]
theorem getAll_end {l : List It} (hok : ∀ x ∈ l, x.ok) (tail : List UInt8) : getAll ⟨encs l ++ tail, 0⟩ l = ⟨tail, 0⟩ := by
  have h := getAll_ok l [] tail hok
  rwa [List.append_nil] at h
/-- all laid down, where there is room -/
theorem put_take {l : List It} (hok : ∀ x ∈ l, x.ok) (room : Int) (hr : ((encs l).length : Int) ≤ room) (j : Nat) (hj : j ≤ l.length) :
    (l.take j).foldl (fun W x => x.put W) (⟨room, [], 0⟩ : Wr) = ⟨room - (encs (l.take j)).length, encs (l.take j), 0⟩ := by
  induction j with
  | zero => simp [encs]
  | succ j ih =>
    have hj2 : j < l.length := by omega
    rw [List.take_succ_eq_append_getElem hj2, List.foldl_append, ih (by omega)]
    show (l[j]'hj2).put _ = _
    rw [It.put_lay (hok _ (List.getElem_mem hj2)), encs_append]
    have e : encs [l[j]'hj2] = (l[j]'hj2).enc := by simp [encs]
    have e2 : encs l = encs (l.take j) ++ ((l[j]'hj2).enc ++ encs (l.drop (j + 1))) := by
      conv => lhs; rw [show l = l.take j ++ (l[j]'hj2) :: l.drop (j + 1) by rw [List.getElem_cons_drop, List.take_append_drop]]
      rw [encs_append, encs_cons]
    have hl := congrArg List.length e2
    rw [List.length_append, List.length_append] at hl
    have hle : ((l[j]'hj2).enc.length : Int) ≤ room - ((encs (l.take j)).length : Int) := by omega
    rw [e, lay_ok rfl hle]
    rw [List.length_append]
    congr 1
    show room - ((encs (l.take j)).length : Int) - ((l[j]'hj2).enc.length : Int) = _
    omega
end Go.Proofs.YtdccgmfhnofabaaDoor
