/- The plain law of cuts: what a list of cuts says, and how one is built. No program in sight. -/
import Derived.Test.YtphmmpdeehfhjaaK6
import Derived.Test.YtphmmpdeehfhjaaK8
namespace Go.Proofs.Ytphmmpdeehfhjaa
set_option linter.unusedVariables false
set_option linter.unusedSimpArgs false
instance : Inhabited Cut := ⟨⟨0, 0⟩⟩
/-- the label of an address: the last cut's that is not behind it -/
def val (l : List Cut) (n : Int) : Int := l.foldl (fun acc c => if c.f ≤ n then c.l else acc) 0
theorem val_snoc (l : List Cut) (c : Cut) (n : Int) : val (l ++ [c]) n = if c.f ≤ n then c.l else val l n := by simp [val]
/-- cuts that rise, neighbours with unlike labels -/
structure Adj (l : List Cut) : Prop where
  rise : ∀ i j (hj : j < l.length) (hi : i < j), (l[i]'(by omega)).f < (l[j]'hj).f
  unlike : ∀ i (h : i + 1 < l.length), (l[i]'(by omega)).l ≠ (l[i + 1]'h).l
theorem Adj.nil : Adj [] := ⟨fun i j hj => by simp at hj, fun i h => by simp at h⟩
theorem Adj.snoc {l : List Cut} {c : Cut} (h : Adj l) (h1 : ∀ q ∈ l, q.f < c.f) (h2 : ∀ q, l.getLast? = some q → q.l ≠ c.l) : Adj (l ++ [c]) where
  rise := fun i j hj hi => by
    simp at hj
    by_cases hjl : j < l.length
    · rw [List.getElem_append_left hjl, List.getElem_append_left (by omega)]
      exact h.rise i j hjl hi
    · obtain rfl : j = l.length := by omega
      rw [List.getElem_append_left hi, List.getElem_append_right (Nat.le_refl _)]
      simp
      exact h1 _ (List.getElem_mem hi)
  unlike := fun i hi => by
    simp at hi
    by_cases hjl : i + 1 < l.length
    · rw [List.getElem_append_left hjl, List.getElem_append_left (by omega)]
      exact h.unlike i hjl
    · have e : i + 1 = l.length := by omega
      have hil : i < l.length := by omega
      rw [List.getElem_append_left hil, List.getElem_append_right (by omega)]
      simp
      refine h2 _ ?_
      rw [List.getLast?_eq_getElem?, show l.length - 1 = i from by omega, List.getElem?_eq_getElem hil]
/-- a cut's place tells the label -/
theorem val_at_len : ∀ (m : Nat) {l : List Cut} {n : Int} {i : Nat} (hm : l.length = m) (hi : i < l.length), (l[i]'hi).f ≤ n → (∀ j (hj : j < l.length), i < j → n < (l[j]'hj).f) → val l n = (l[i]'hi).l := by
  intro m
  induction m with
  | zero => intro l n i hm hi; omega
  | succ m ih =>
    intro l' n i hm hi h1 h2
    have hne : l' ≠ [] := fun e => by subst e; simp at hm
    obtain ⟨l, c, rfl⟩ : ∃ l c, l' = l ++ [c] := ⟨l'.dropLast, l'.getLast hne, (List.dropLast_concat_getLast hne).symm⟩
    rw [val_snoc]
    by_cases hil : i < l.length
    · have h3 := h2 l.length (by simp) hil
      rw [List.getElem_append_right (Nat.le_refl _)] at h3
      simp at h3
      rw [if_neg (by omega)]
      rw [List.getElem_append_left hil] at h1 ⊢
      refine ih (by simpa using hm) hil h1 (fun j hj hij => ?_)
      have := h2 j (by simp; omega) hij
      rwa [List.getElem_append_left hj] at this
    · have e : i = l.length := by simp at hi; omega
      subst e
      rw [List.getElem_append_right (Nat.le_refl _)] at h1 ⊢
      simp only [Nat.sub_self, List.getElem_cons_zero] at h1 ⊢
      rw [if_pos h1]
theorem val_at {l : List Cut} {n : Int} {i : Nat} (hi : i < l.length) (h1 : (l[i]'hi).f ≤ n) (h2 : ∀ j (hj : j < l.length), i < j → n < (l[j]'hj).f) : val l n = (l[i]'hi).l := val_at_len l.length rfl hi h1 h2
theorem Adj.val {l : List Cut} (h : Adj l) {n : Int} {i : Nat} (hi : i < l.length) (h1 : (l[i]'hi).f ≤ n) (h2 : ∀ h : i + 1 < l.length, n < (l[i + 1]'h).f) : val l n = (l[i]'hi).l := by
  refine val_at hi h1 (fun j hj hij => ?_)
  have h3 := h2 (by omega)
  by_cases e : j = i + 1
  · subst e; exact h3
  · have := h.rise (i + 1) j hj (by omega); omega
theorem val_last {l : List Cut} {q : Cut} {n : Int} (h : l.getLast? = some q) (hn : q.f ≤ n) : val l n = q.l := by
  obtain ⟨l', rfl⟩ := List.getLast?_eq_some_iff.1 h
  rw [val_snoc, if_pos hn]
/-- cuts that say g of all addresses ahead of p -/
structure Part (g : Int → Int) (l : List Cut) (p : Int) : Prop where
  adj : Adj l
  lt : ∀ c ∈ l, 0 ≤ c.f ∧ c.f < p
  val : ∀ n, 0 ≤ n → n < p → val l n = g n
  zero : l = [] → p = 0
  head : ∀ c, l.head? = some c → c.f = 0
theorem Part.nil (g : Int → Int) : Part g [] 0 := ⟨Adj.nil, by simp, fun n h0 h1 => by omega, fun _ => rfl, by simp⟩
theorem Part.congr {g g' : Int → Int} {l : List Cut} {p : Int} (h : Part g l p) (e : ∀ n, 0 ≤ n → n < p → g n = g' n) : Part g' l p := ⟨h.adj, h.lt, fun n h0 h1 => (h.val n h0 h1).trans (e n h0 h1), h.zero, h.head⟩
theorem Part.with_ {g : Int → Int} {l : List Cut} {p q v : Int} (h : Part g l p) (hp : 0 ≤ p) (hpq : p < q) (hv : ∀ n, p ≤ n → n < q → g n = v) : Part g (withL l ⟨p, v⟩) q := by
  unfold withL
  split
  · rename_i hl
    have hl : l = [] := List.getLast?_eq_none_iff.1 hl
    subst hl
    have := h.zero rfl
    subst this
    refine ⟨Adj.nil.snoc (by simp) (by simp), by simp; omega, fun n h0 h1 => ?_, by simp, by simp⟩
    rw [val_snoc, if_pos h0]
    exact (hv n h0 h1).symm
  · rename_i c hl
    have hm : c ∈ l := List.mem_of_getLast? hl
    split
    · rename_i hc
      have hc : c.l = v := hc
      refine ⟨h.adj, fun x hx => ⟨(h.lt x hx).1, by have := (h.lt x hx).2; omega⟩, fun n h0 h1 => ?_, fun e => by subst e; simp at hl, h.head⟩
      by_cases hn : n < p
      · exact h.val n h0 hn
      · rw [val_last hl (by have := (h.lt c hm).2; omega), hc, hv n (by omega) h1]
    · rename_i hc
      refine ⟨h.adj.snoc (fun x hx => (h.lt x hx).2) (fun x hx e => by rw [hl] at hx; cases hx; exact hc e), ?_, fun n h0 h1 => ?_, by simp, fun x hx => ?_⟩
      · intro x hx
        rcases List.mem_append.1 hx with hx | hx
        · exact ⟨(h.lt x hx).1, by have := (h.lt x hx).2; omega⟩
        · simp at hx; subst hx; exact ⟨hp, hpq⟩
      · rw [val_snoc]
        by_cases hn : p ≤ n
        · rw [if_pos hn, hv n hn h1]
        · rw [if_neg hn, h.val n h0 (by omega)]
      · have hne : l ≠ [] := fun e => by subst e; simp at hl
        cases l with
        | nil => exact absurd rfl hne
        | cons y l => exact h.head x (by simpa using hx)
theorem withL_ne (l : List Cut) (c : Cut) : withL l c ≠ [] := by
  unfold withL
  split
  · simp
  · rename_i hl
    split
    · intro e; rw [e] at hl; simp at hl
    · simp
/-- cuts that say g of all addresses -/
structure Norm (g : Int → Int) (l : List Cut) : Prop where
  part : Part g l 4294967296
  ne : 0 < l.length
section
variable {g : Int → Int} {l : List Cut}
theorem Norm.congr {g' : Int → Int} (h : Norm g l) (e : ∀ n, 0 ≤ n → n ≤ 4294967295 → g n = g' n) : Norm g' l := ⟨h.part.congr fun n h0 h1 => e n h0 (by omega), h.ne⟩
theorem Norm.first (h : Norm g l) : (l[0]'h.ne).f = 0 := by
  refine h.part.head _ ?_
  have := h.ne
  cases l with
  | nil => simp at this
  | cons c l => rfl
/-- where the cut behind place i begins -/
def nextF (l : List Cut) (i : Nat) : Int := if h : i < l.length then (l[i]'h).f else 4294967296
theorem nextF_in {i : Nat} (h : i < l.length) : nextF l i = (l[i]'h).f := dif_pos h
theorem nextF_out {i : Nat} (h : ¬ i < l.length) : nextF l i = 4294967296 := dif_neg h
theorem Norm.rise (h : Norm g l) {i : Nat} (hi : i < l.length) : (l[i]'hi).f < nextF l (i + 1) := by
  unfold nextF
  split
  · exact h.part.adj.rise i (i + 1) (by omega) (by omega)
  · exact (h.part.lt _ (List.getElem_mem hi)).2
theorem Norm.says (h : Norm g l) {i : Nat} (hi : i < l.length) {n : Int} (h1 : (l[i]'hi).f ≤ n) (h2 : n < nextF l (i + 1)) : g n = (l[i]'hi).l := by
  have h0 := (h.part.lt _ (List.getElem_mem hi)).1
  have hlt : n < 4294967296 := by
    unfold nextF at h2
    split at h2
    · rename_i hh; have := (h.part.lt _ (List.getElem_mem hh)).2; omega
    · exact h2
  rw [← h.part.val n (by omega) hlt]
  exact h.part.adj.val hi h1 (fun hh => by rwa [nextF_in hh] at h2)
theorem Norm.label (h : Norm g l) {i : Nat} (hi : i < l.length) : (l[i]'hi).l = g (l[i]'hi).f := (h.says hi (Int.le_refl _) (h.rise hi)).symm
theorem Norm.rise2 (h : Norm g l) {i j : Nat} (hi : i < l.length) (hij : i < j) : (l[i]'hi).f < nextF l j := by
  unfold nextF
  split
  · exact h.part.adj.rise i j (by omega) hij
  · exact (h.part.lt _ (List.getElem_mem hi)).2
theorem Norm.place (h : Norm g l) {n : Int} (n0 : 0 ≤ n) (n1 : n ≤ 4294967295) : ∃ i, ∃ hi : i < l.length, (l[i]'hi).f ≤ n ∧ n < nextF l (i + 1) := by
  have key : ∀ k, k ≤ l.length → 0 < k → n < nextF l k → ∃ i, ∃ hi : i < l.length, (l[i]'hi).f ≤ n ∧ n < nextF l (i + 1) := by
    intro k
    induction k with
    | zero => intro _ h; omega
    | succ k ih =>
      intro h1 _ h2
      by_cases h3 : (l[k]'(by omega)).f ≤ n
      · exact ⟨k, by omega, h3, h2⟩
      · by_cases hk : 0 < k
        · exact ih (by omega) hk (by rw [nextF_in (by omega)]; omega)
        · obtain rfl : k = 0 := by omega
          have := h.first
          omega
  exact key l.length (Nat.le_refl _) h.ne (by rw [nextF_out (by omega)]; omega)
end
/-! Put -/
def putG (g : Int → Int) (a e v : Int) (n : Int) : Int := if a ≤ n ∧ n < e then v else g n
section
variable {g : Int → Int} {l : List Cut} {a e v : Int}
/-- at the head of Put's first loop -/
theorem put1_start : Part g [] (min (nextF l 0) a) → True := fun _ => trivial
theorem put1_step {acc : List Cut} {i : Nat} (h : Norm g l) (hi : i < l.length) (hf : (l[i]'hi).f < a) (hp : Part g acc (min (nextF l i) a)) : Part g (withL acc (l[i]'hi)) (min (nextF l (i + 1)) a) := by
  have h0 := (h.part.lt _ (List.getElem_mem hi)).1
  have hr := h.rise hi
  rw [nextF_in hi, Int.min_eq_left (by omega)] at hp
  have := hp.with_ (q := min (nextF l (i + 1)) a) (v := (l[i]'hi).l) h0 (by omega) (fun n h1 h2 => h.says hi h1 (by omega))
  exact this
theorem put1_end {acc : List Cut} {i : Nat} (hp : Part g acc (min (nextF l i) a)) (hstop : ∀ hi : i < l.length, a ≤ (l[i]'hi).f) (ha : a ≤ 4294967295) : Part g acc a := by
  by_cases hi : i < l.length
  · have := hstop hi
    rw [nextF_in hi, Int.min_eq_right this] at hp
    exact hp
  · rw [nextF_out hi, Int.min_eq_right (by omega)] at hp
    exact hp
theorem put_mid {acc : List Cut} (hp : Part g acc a) (ha : 0 ≤ a) (hae : a < e) : Part (putG g a e v) (withL acc ⟨a, v⟩) e := by
  refine (hp.congr (g' := putG g a e v) fun n h0 h1 => ?_).with_ ha hae (fun n h1 h2 => ?_)
  · unfold putG; rw [if_neg (by omega)]
  · unfold putG; rw [if_pos ⟨h1, h2⟩]
theorem put_last {acc : List Cut} {j : Nat} (h : Norm g l) (hj : j < l.length) (h1 : (l[j]'hj).f ≤ e) (h2 : e < nextF l (j + 1)) (h0 : 0 ≤ e) (hp : Part (putG g a e v) acc e) : Part (putG g a e v) (withL acc ⟨e, (l[j]'hj).l⟩) (nextF l (j + 1)) :=
  hp.with_ h0 h2 (fun n h3 h4 => by unfold putG; rw [if_neg (by omega)]; exact h.says hj (by omega) h4)
theorem put2_skip {i j : Nat} (h : Norm g l) (hi : i < l.length) (hj : j < l.length) (h1 : (l[j]'hj).f ≤ e) (h2 : e < nextF l (j + 1)) (hle : ¬ e < (l[i]'hi).f) : i ≤ j := by
  rcases Nat.lt_or_ge j i with h3 | h3
  · exfalso
    by_cases e2 : i = j + 1
    · subst e2; rw [nextF_in hi] at h2; omega
    · have := h.part.adj.rise (j + 1) i hi (by omega)
      rw [nextF_in (by omega)] at h2
      omega
  · exact h3
theorem put2_take {i j : Nat} (h : Norm g l) (hi : i < l.length) (hj : j < l.length) (h1 : (l[j]'hj).f ≤ e) (hlt : e < (l[i]'hi).f) : j < i := by
  rcases Nat.lt_or_ge j i with h3 | h3
  · exact h3
  · exfalso
    by_cases e2 : i = j
    · subst e2; omega
    · have := h.part.adj.rise i j hj (by omega)
      omega
theorem put2_step {acc : List Cut} {i : Nat} (h : Norm g l) (hi : i < l.length) (hlt : e < (l[i]'hi).f) (hae : a ≤ e) (hp : Part (putG g a e v) acc (nextF l i)) : Part (putG g a e v) (withL acc (l[i]'hi)) (nextF l (i + 1)) := by
  rw [nextF_in hi] at hp
  have h0 := (h.part.lt _ (List.getElem_mem hi)).1
  exact hp.with_ (v := (l[i]'hi).l) h0 (h.rise hi) (fun n h1 h2 => by unfold putG; rw [if_neg (by omega)]; exact h.says hi h1 h2)
end
/-! Map -/
theorem map_step {g : Int → Int} {l acc : List Cut} {m : Int → Int} {i : Nat} (h : Norm g l) (hi : i < l.length) (hp : Part (fun n => m (g n)) acc (nextF l i)) : Part (fun n => m (g n)) (withL acc ⟨(l[i]'hi).f, m (l[i]'hi).l⟩) (nextF l (i + 1)) := by
  rw [nextF_in hi] at hp
  have h0 := (h.part.lt _ (List.getElem_mem hi)).1
  exact hp.with_ h0 (h.rise hi) (fun n h1 h2 => by show m (g n) = _; rw [h.says hi h1 h2])
/-! Make -/
theorem cuts_chain {g : Int → Int} : ∀ (rows : List Row) (a e : Int) (acc : List Cut), Chain a rows e → 0 ≤ a → (∀ r ∈ rows, r.a ≤ r.hi ∧ ∀ n, r.a ≤ n → n ≤ r.hi → g n = r.l) → Part g acc a → Part g (rows.foldl (fun l r => withL l ⟨r.a, r.l⟩) acc) e
  | [], a, e, acc, hc, _, _, hp => by have hc : a = e := hc; subst hc; exact hp
  | r :: rows, a, e, acc, ⟨hr, hc⟩, h0, hg, hp => by
    obtain ⟨h1, h2⟩ := hg r (List.mem_cons_self ..)
    subst hr
    exact cuts_chain rows (r.hi + 1) e _ hc (by omega) (fun q hq => hg q (List.mem_cons_of_mem _ hq)) (hp.with_ h0 (by omega) (fun n h3 h4 => h2 n h3 (by omega)))
theorem cutsOf_norm {t : Tr} (hh : t.ht ≤ 32) : Norm (fun n => Tr.find n t 0) (cutsOf (t.all 0 0)) := by
  obtain ⟨hc, hr⟩ := all_rows t 0 0 Spot.root hh
  have hp := cuts_chain (g := fun n => Tr.find n t 0) (t.all 0 0) 0 _ [] hc (Int.le_refl _) (fun r hr' => by
    obtain ⟨_, _, _, h3, _, _, _, h7⟩ := hr r hr'
    exact ⟨h3, h7⟩) (Part.nil _)
  refine ⟨hp, ?_⟩
  rcases Nat.lt_or_ge 0 (cutsOf (t.all 0 0)).length with h | h
  · exact h
  · exfalso
    have e : cutsOf (t.all 0 0) = [] := List.length_eq_zero_iff.1 (by omega)
    have := hp.zero e
    exact absurd this (by decide)
end Go.Proofs.Ytphmmpdeehfhjaa
namespace Go.Proofs.Ytphmmpdeehfhjaa
open Go.RowKit
set_option linter.unusedVariables false
set_option linter.unusedSimpArgs false
theorem place_iff {g : Int → Int} {l : List Cut} {i m : Nat} {n : Int} (h : Norm g l) (hi : i < l.length) (h1 : (l[i]'hi).f ≤ n) (h2 : n < nextF l (i + 1)) (hm : m < l.length) : (l[m]'hm).f ≤ n ↔ m ≤ i := by
  constructor
  · intro h3
    exact put2_skip h hm hi h1 h2 (by omega)
  · intro h3
    by_cases e : m = i
    · subst e; exact h1
    · have := h.part.adj.rise m i hi (by omega); omega
/-- the slice of a document's trie, and its cells -/
theorem RefAt.cells {w : World} {l : List Cut} {b : Nat} {fp : List Nat} (h : RefAt w l b fp) (h0 : 0 < l.length) : ∃ gb cap, w.cell? ⟨b, 0, none⟩ = some (.slice (some ⟨gb, 0, none⟩) l.length cap) ∧ OwnCuts 0 w (.slice (some ⟨gb, 0, none⟩) l.length cap) l ∧ gb ≠ b ∧ fp = [b, gb] ∧ Blk w b [.slice (some ⟨gb, 0, none⟩) l.length cap] 78 := by
  obtain ⟨v, h1, h2, h3, rfl⟩ := h
  obtain ⟨gb, cap, rfl, _, _⟩ := h2.form h0
  exact ⟨gb, cap, h1.cell 0, h2, fun e => h3 (by rw [e]; rfl), rfl, h1⟩
set_option maxHeartbeats 8000000 in
set_option maxRecDepth 100000 in
theorem of_at {g : Int → Int} {l : List Cut} {i : Nat} {n : Int} {w : World} {b : Nat} {fp : List Nat} (h : Norm g l) (hi : i < l.length) (h1 : (l[i]'hi).f ≤ n) (h2 : n < nextF l (i + 1)) (hlen : l.length ≤ 4294967296) (hR : RefAt w l b fp) :
    Calls Try.prog 45 #[.pointer (some ⟨b, 0, none⟩), .int .i64 n] w fun e w' => e = .returned (.int .i64 (i : Int)) ∧ w = w' := by
  obtain ⟨gb, cap, c0, hown, hne, _⟩ := hR.cells h.ne
  have HP := Hid.mk_ (fun (m : Nat) (hm : m < l.length) => place_iff h hi h1 h2 hm)
  have HO := Hid.mk_ hown
  clear h1 h2 hown hR h
  go_enter Try.func45, Try.ntmps45
  go_wp2_with fail
  go_loopw [5, 6] (fun x5 x6 wr => ∃ f t : Nat, x5 = .int .i64 (f : Int) ∧ x6 = .int .i64 (t : Int) ∧ f ≤ i ∧ i < t ∧ t ≤ l.length ∧ w = wr) (fun x y _ => (intOf y).toNat - (intOf x).toNat)
  case atStart => exact ⟨0, l.length, rfl, rfl, Nat.zero_le _, hi, Nat.le_refl _, rfl⟩
  case round =>
    obtain ⟨f, t, rfl, rfl, hf, ht, htl, rfl⟩ := hrel
    have hw1 : IntKind.i64.wrap ((t : Int) - f) = t - f := by rw [IntKind.wrap_i64]; omega
    by_cases hlt : 1 < (t : Int) - f
    · obtain ⟨m, hm⟩ : ∃ m, m = (f + t) / 2 := ⟨_, rfl⟩
      have hw2 : IntKind.i64.wrap ((f : Int) + t) = f + t := by rw [IntKind.wrap_i64]; omega
      have hm0 : ((f : Int) + t).tdiv 2 = m := by rw [Int.tdiv_eq_ediv_of_nonneg (by omega)]; omega
      have hw3 : IntKind.i64.wrap (m : Int) = m := by rw [IntKind.wrap_i64]; omega
      have hml : m < l.length := by omega
      have hml1 : (m : Int) < l.length := by omega
      obtain ⟨d0, _⟩ := HO.out.cell m hml
      have hpl := HP.out m hml
      obtain ⟨x, hx⟩ : ∃ x, x = (l[m]'hml).f := ⟨_, rfl⟩
      rw [← hx] at d0 hpl
      clear hx hm0 hw3
      subst hm
      by_cases hmi : (f + t) / 2 ≤ i
      · have hxn : x ≤ n := hpl.2 hmi
        have HPL := Hid.mk_ hpl
        clear hpl
        go_wp2_with fail
        exact ⟨⟨(f + t) / 2, t, by congr 1 <;> omega, rfl, hmi, ht, htl, trivial⟩, by simp [intOf]; omega⟩
      · have hxn : ¬ x ≤ n := fun h => hmi (hpl.1 h)
        have HPL := Hid.mk_ hpl
        clear hpl
        go_wp2_with fail
        exact ⟨⟨f, (f + t) / 2, rfl, by congr 1 <;> omega, hf, by omega, by omega, trivial⟩, by simp [intOf]; omega⟩
    · obtain rfl : f = i := by omega
      go_wp2_with fail
      go_ret
      exact ⟨rfl, rfl⟩
theorem rnew_no {n : Int} (h : ¬ (0 ≤ n ∧ n ≤ 65535)) (w : World) :
    Calls Try.prog 10 #[.int .i64 n] w fun e w' => e = .returned (.tuple #[.pointer none, .int .i64 1]) ∧ w = w' := by
  have H := Hid.mk_ (decide_eq_false h)
  clear h
  go_enter Try.func10, Try.ntmps10
  go_wp2_with (first | (go_at_call 27; (with_reducible refine (rlabel_at H.out _).mono ?_); rintro e w' ⟨rfl, rfl⟩))
  go_ret2
  exact ⟨rfl, rfl⟩
theorem rnew_yes {n : Int} (h0 : 0 ≤ n) (h1 : n ≤ 65535) (w : World) :
    Calls Try.prog 10 #[.int .i64 n] w fun e w' => ∃ b fp, e = .returned (.tuple #[.pointer (some ⟨b, 0, none⟩), .int .i64 0]) ∧ RefAt w' [⟨0, n⟩] b fp ∧ (∀ k ∈ fp, w.heap.size ≤ k) ∧ Below w.heap.size w w' := by
  have H := Hid.mk_ (decide_eq_true (And.intro h0 h1))
  clear h0 h1
  go_enter Try.func10, Try.ntmps10
  go_wp2_with (first | (go_at_call 27; (with_reducible refine (rlabel_at H.out _).mono ?_); rintro e w' ⟨rfl, rfl⟩))
  go_ret2
  refine ⟨_, [w.heap.size + 1, w.heap.size], rfl, ⟨.slice (some ⟨w.heap.size, 0, none⟩) 1 1, ?_, ?_, by simp [Value.ownBlock], rfl⟩, by simp, ((Below.refl _ _).alloc (Nat.le_refl _) _).alloc (by simp) _⟩
  · have h := Blk.new (w.alloc (.cells #[.int .i64 0, .int .i64 n] 75)) [.slice (some ⟨w.heap.size, 0, none⟩) 1 1] 78
    rw [World.size_alloc] at h
    exact h
  · exact (World.ownsRow_lit w #[.int .i64 0, .int .i64 n] 1 (Nat.zero_le _) (by decide) rfl).alloc _
end Go.Proofs.Ytphmmpdeehfhjaa
namespace Go.Proofs.Ytphmmpdeehfhjaa
open Go.RowKit
set_option linter.unusedVariables false
set_option linter.unusedSimpArgs false
theorem rise_ge {l : List Cut} (h : Adj l) (h0 : ∀ c ∈ l, 0 ≤ c.f) : ∀ i (hi : i < l.length), (i : Int) ≤ (l[i]'hi).f
  | 0, hi => by have := h0 _ (List.getElem_mem hi); omega
  | i + 1, hi => by
    have h1 := rise_ge h h0 i (by omega)
    have h2 := h.rise i (i + 1) hi (by omega)
    omega
theorem Part.len {g : Int → Int} {l : List Cut} {p : Int} (h : Part g l p) (hp : 0 ≤ p) : (l.length : Int) ≤ p := by
  by_cases h0 : l.length = 0
  · omega
  · have h1 := rise_ge h.adj (fun c hc => (h.lt c hc).1) (l.length - 1) (by omega)
    have h2 := (h.lt _ (List.getElem_mem (show l.length - 1 < l.length by omega))).2
    omega
theorem Norm.len {g : Int → Int} {l : List Cut} (h : Norm g l) : l.length ≤ 4294967296 := by
  have := h.part.len (by decide)
  omega
theorem nextF_le {g : Int → Int} {l : List Cut} (h : Norm g l) (i : Nat) : 0 ≤ nextF l i ∧ nextF l i ≤ 4294967296 := by
  unfold nextF
  split
  · rename_i hh; have := h.part.lt _ (List.getElem_mem hh); omega
  · omega
theorem of_quiet {g : Int → Int} {l : List Cut} {i : Nat} {n : Int} {w : World} {b : Nat} {fp : List Nat} (h : Norm g l) (hi : i < l.length) (h1 : (l[i]'hi).f ≤ n) (h2 : n < nextF l (i + 1)) (hR : RefAt w l b fp) (m : Nat) :
    Calls Try.prog 45 #[.pointer (some ⟨b, 0, none⟩), .int .i64 n] (w.drewN m) fun e w'' => e = .returned (.int .i64 (i : Int)) ∧ ∃ k, w'' = w.drewN k :=
  (of_at h hi h1 h2 h.len (hR.move (w' := w.drewN m) fun _ _ => rfl)).mono fun _ _ ⟨he, hm⟩ => ⟨he, m, hm.symm⟩
theorem own_base {w : World} {base base' : Nat} {e : TypeId} {size n : Nat} {v : Value} {xs : List Value} (h : w.ownsRow base e size v n xs) (hb : base' ≤ base) : w.ownsRow base' e size v n xs := by
  obtain ⟨h1, h2⟩ := h
  refine ⟨h1, ?_⟩
  rcases h2 with h2 | ⟨g, cap, cur, rfl, hg, h3⟩
  · exact .inl h2
  · exact .inr ⟨g, cap, cur, rfl, Nat.le_trans hb hg, h3⟩
theorem rfind_no (p : Option Addr) (n : Int) (w : World) (h : n < 0 ∨ 4294967295 < n) :
    Calls Try.prog 29 #[.pointer p, .int .i64 n] w fun e w' => e = .returned (.tuple #[.int .i64 0, .int .i64 1]) ∧ w = w' := by
  by_cases h0 : n < 0
  · clear h
    go_enter Try.func29, Try.ntmps29
    go_wp2_with fail
    go_ret2
    exact ⟨rfl, rfl⟩
  · have h1 : 4294967295 < n := by omega
    clear h
    go_enter Try.func29, Try.ntmps29
    go_wp2_with fail
    go_ret2
    exact ⟨rfl, rfl⟩
theorem rfind_yes {g : Int → Int} {l : List Cut} {n : Int} {w : World} {b : Nat} {fp : List Nat} (h : Norm g l) (n0 : 0 ≤ n) (n1 : n ≤ 4294967295) (hR : RefAt w l b fp) :
    Calls Try.prog 29 #[.pointer (some ⟨b, 0, none⟩), .int .i64 n] w fun e w' => e = .returned (.tuple #[.int .i64 (g n), .int .i64 0]) ∧ ∃ m, w' = w.drewN m := by
  obtain ⟨i, hi, h1, h2⟩ := h.place n0 n1
  have hg := h.says hi h1 h2
  rw [hg]
  have hq := fun m => of_quiet h hi h1 h2 hR m
  obtain ⟨gb, cap, c0, hown, hne, _⟩ := hR.cells h.ne
  obtain ⟨_, d1⟩ := hown.cell i hi
  have hi1 : (i : Int) < l.length := by omega
  obtain ⟨x, hx⟩ : ∃ x, x = (l[i]'hi).l := ⟨_, rfl⟩
  rw [← hx] at d1 ⊢
  have HQ := Hid.mk_ hq
  have m0 : ¬ n < 0 := by omega
  have m1 : ¬ 4294967295 < n := by omega
  clear hq h1 h2 hg hx hown hR h
  go_enter Try.func29, Try.ntmps29
  go_wp2_with fail
  go_big_quiet (first | (go_at_call 45; with_reducible exact HQ.out _))
  go_wp2_with fail
  go_ret2
  exact ⟨rfl, _, rfl⟩
/-- with, from a base on -/
theorem with_step {base : Nat} {v : Value} {l : List Cut} {w1 wr : World} (c : Cut) (hown : OwnCuts base wr v l) (hB : Below base w1 wr) (hb : base ≤ wr.heap.size) (hn : l.length ≤ 4294967296) :
    Calls Try.prog 44 #[v, .agg #[.int .i64 c.f, .int .i64 c.l]] wr fun e w' => ∃ v', e = .returned v' ∧ OwnCuts base w' v' (withL l c) ∧ Below base w1 w' ∧ wr.heap.size ≤ w'.heap.size :=
  (with_any base v l c wr hown hb hn).mono fun e w' ⟨v', he, h1, h2, h3⟩ => ⟨v', he, h1, hB.trans (h2.below hb (fun k _ hk => (hown.lt k hk).1)), h2.size⟩
/-- at the head of Put's first loop -/
def RP1 (B : Nat) (w1 : World) (g : Int → Int) (l : List Cut) (a : Int) (x10 x11 : Value) (wr : World) : Prop :=
  ∃ (i : Nat) (acc : List Cut), i ≤ l.length ∧ x11 = .int .i64 (i : Int) ∧ OwnCuts B wr x10 acc ∧ Part g acc (min (nextF l i) a) ∧ Below B w1 wr ∧ B ≤ wr.heap.size
/-- at the head of its second one -/
def RP2 (B : Nat) (w1 : World) (g : Int → Int) (l : List Cut) (P : Nat → Int) (x10 x12 : Value) (wr : World) : Prop :=
  ∃ (i : Nat) (acc : List Cut), i ≤ l.length ∧ x12 = .int .i64 (i : Int) ∧ OwnCuts B wr x10 acc ∧ Part g acc (P i) ∧ Below B w1 wr ∧ B ≤ wr.heap.size
def RPutPost (w : World) (g : Int → Int) (b : Nat) (fp : List Nat) (e : Ending) (w' : World) : Prop :=
  e = .returned (.int .i64 0) ∧ ∃ l' fp', RefAt w' l' b fp' ∧ Norm g l' ∧ (∀ k ∈ fp', k ∈ fp ∨ w.heap.size ≤ k) ∧ Mods (· ∈ fp) w w'
/-- the store that ends Put and Map -/
theorem RefAt.store {w wr : World} {l acc : List Cut} {b B : Nat} {fp : List Nat} {v : Value} {g : Int → Int} (h : RefAt w l b fp) (hb : Below w.heap.size w wr) (hB : w.heap.size ≤ B) (hown : OwnCuts B wr v acc) (hp : Part g acc 4294967296) :
    ∃ l' fp', RefAt (wr.setCell ⟨b, 0, none⟩ v) l' b fp' ∧ Norm g l' ∧ (∀ k ∈ fp', k ∈ fp ∨ w.heap.size ≤ k) ∧ Mods (· ∈ fp) w (wr.setCell ⟨b, 0, none⟩ v) := by
  obtain ⟨v0, h1, h2, h3, rfl⟩ := h
  have hne : v.ownBlock ≠ some b := fun e => by have := (hown.lt b e).1; have := h1.lt; omega
  refine ⟨acc, b :: v.ownBlock.toList, ⟨v, (h1.below hb h1.lt).set 0 v, ownsRow_setCell_other (own_base hown (Nat.zero_le _)) hne _, hne, rfl⟩, ⟨hp, ?_⟩, ?_, ?_⟩
  · rcases Nat.lt_or_ge 0 acc.length with h | h
    · exact h
    · exfalso
      have e : acc = [] := List.length_eq_zero_iff.1 (by omega)
      exact absurd (hp.zero e) (by decide)
  · intro k hk
    rcases List.mem_cons.1 hk with rfl | hk
    · exact .inl (List.mem_cons_self ..)
    · exact .inr (Nat.le_trans hB (hown.lt k (by simpa using hk)).1)
  · exact (Mods.of_new (S := fun k => k ∈ b :: v0.ownBlock.toList) hb).setCell (p := ⟨b, 0, none⟩) (fun _ => List.mem_cons_self ..) _
end Go.Proofs.Ytphmmpdeehfhjaa
