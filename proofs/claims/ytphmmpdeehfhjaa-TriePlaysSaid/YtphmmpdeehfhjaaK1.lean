/- The plain law of the trie: rows that cover all in order, no two halves alike, are some trie's rows. No program in sight. -/
import Derived.Test.YtphmmpdeehfhjaaS1
namespace Go.Proofs.Ytphmmpdeehfhjaa
open Tr
set_option linter.unusedVariables false
set_option linter.unusedSimpArgs false
theorem NoHalf.parts : ∀ {l m : List Row}, NoHalf (l ++ m) → NoHalf l ∧ NoHalf m
  | [], m, h => ⟨trivial, h⟩
  | [p], [], h => ⟨trivial, trivial⟩
  | [p], r :: m, h => ⟨trivial, h.2⟩
  | p :: q :: l, m, h => by
    obtain ⟨h1, h2⟩ := NoHalf.parts (l := q :: l) h.2
    exact ⟨⟨h.1, h1⟩, h2⟩
theorem NoHalf.cross : ∀ {p r : Row} {l : List Row}, NoHalf (p :: r :: l) → ¬ Bad p r := fun h => h.1
theorem Chain.split {mid e : Int} : ∀ {a : Int} {L : List Row}, Chain a L e → (∀ r ∈ L, r.a < mid → r.hi < mid) → a ≤ mid → mid ≤ e → ∃ L1 L2, L = L1 ++ L2 ∧ Chain a L1 mid ∧ Chain mid L2 e
  | a, [], h, _, h1, h2 => by
    have h : a = e := h
    exact ⟨[], [], rfl, show a = mid by omega, show mid = e by omega⟩
  | a, r :: L, ⟨hr, h⟩, hs, h1, h2 => by
    by_cases ha : a = mid
    · subst ha
      exact ⟨[], r :: L, rfl, rfl, hr, h⟩
    · have hm := hs r (List.mem_cons_self ..) (by omega)
      obtain ⟨L1, L2, rfl, c1, c2⟩ := Chain.split h (fun q hq => hs q (List.mem_cons_of_mem _ hq)) (by omega) h2
      exact ⟨r :: L1, L2, rfl, ⟨hr, c1⟩, c2⟩
theorem Chain.ge : ∀ {a e : Int} {L : List Row}, Chain a L e → (∀ r ∈ L, r.a ≤ r.hi) → a ≤ e ∧ ∀ r ∈ L, a ≤ r.a ∧ r.hi < e
  | a, e, [], h, _ => by cases h; exact ⟨Int.le_refl _, by simp⟩
  | a, e, r :: L, ⟨hr, h⟩, hs => by
    obtain ⟨h1, h2⟩ := Chain.ge h (fun q hq => hs q (List.mem_cons_of_mem _ hq))
    have h3 := hs r (List.mem_cons_self ..)
    refine ⟨by omega, fun q hq => ?_⟩
    rcases List.mem_cons.1 hq with rfl | hq
    · omega
    · have := h2 q hq; omega
theorem row_size {r : Row} (h : rightB r.a r.b = true) : r.a ≤ r.hi := by
  have hh : 0 ≤ r.b ∧ r.b ≤ 32 ∧ _ := of_decide_eq_true h
  have := pw_pos (32 - r.b).toNat
  unfold Row.hi
  omega
theorem ok_right {r : Row} (h : rowOk r = true) : rightB r.a r.b = true ∧ 0 ≤ r.l ∧ r.l ≤ 65535 := by
  simp [rowOk] at h
  exact h
/-- one row that fills its spot -/
theorem leaf_case {a e : Int} {d : Nat} {r : Row} {L : List Row} (he : e = a + 2 ^ (32 - d)) (hd : d ≤ 32) (hc : Chain a (r :: L) e) (hok : ∀ q ∈ r :: L, rowOk q = true) (hb : r.b = d) :
    ∃ t : Tr, t.all a d = r :: L ∧ t.canon ∧ t.ht + d ≤ 32 ∧ ∀ v ∈ t.labels, 0 ≤ v ∧ v ≤ 65535 := by
  obtain ⟨hr, hc⟩ := hc
  have hhi : r.hi + 1 = e := by
    unfold Row.hi
    rw [hb, he, hr]
    have : (32 - (d : Int)).toNat = 32 - d := by omega
    rw [this]
    omega
  have hL : L = [] := by
    cases L with
    | nil => rfl
    | cons q L =>
      have h1 := (Chain.ge hc (fun x hx => row_size (ok_right (hok x (List.mem_cons_of_mem _ hx))).1)).2 q (List.mem_cons_self ..)
      have h2 := row_size (ok_right (hok q (List.mem_cons_of_mem _ (List.mem_cons_self ..)))).1
      omega
  subst hL
  refine ⟨.leaf r.l, ?_, trivial, by simp [Tr.ht]; exact hd, ?_⟩
  · obtain ⟨ra, rb, rl⟩ := r
    simp only at hr hb
    subst hr hb
    rfl
  · intro v hv
    simp [Tr.labels] at hv
    subst hv
    exact (ok_right (hok r (List.mem_cons_self ..))).2
/-- Rows of a spot are some canonical trie's. -/
theorem build_rows : ∀ (m d : Nat) (a : Int) (L : List Row), m + d = 32 → Spot a d → Chain a L (a + 2 ^ (32 - d)) → (∀ r ∈ L, rowOk r = true) → NoHalf L →
    ∃ t : Tr, t.all a d = L ∧ t.canon ∧ t.ht + d ≤ 32 ∧ ∀ v ∈ t.labels, 0 ≤ v ∧ v ≤ 65535 := by
  intro m
  induction m with
  | zero =>
    intro d a L hm hs hc hok hn
    cases L with
    | nil => have := pw_pos (32 - d); have h : a = a + 2 ^ (32 - d) := hc; omega
    | cons r L =>
      have h1 := hs.a1
      have h2 := (Chain.ge hc (fun x hx => row_size (ok_right (hok x hx)).1)).2 r (List.mem_cons_self ..)
      have hr := (ok_right (hok r (List.mem_cons_self ..))).1
      have hh : 0 ≤ r.b ∧ r.b ≤ 32 ∧ _ := of_decide_eq_true hr
      refine leaf_case rfl hs.d32 hc hok ?_
      have hd : d = 32 := by omega
      subst hd
      by_cases hb : r.b = 32
      · exact hb
      · have e : (32 - r.b).toNat = (31 - r.b).toNat + 1 := by omega
        have h3 := h2.2
        unfold Row.hi at h3
        rw [e, Int.pow_succ] at h3
        have := pw_pos (31 - r.b).toNat
        simp at h3
        omega
  | succ m ih =>
    intro d a L hm hs hc hok hn
    have hd : d ≤ 31 := by omega
    cases L with
    | nil => have := pw_pos (32 - d); have h : a = a + 2 ^ (32 - d) := hc; omega
    | cons r L =>
      have hge := (Chain.ge hc (fun x hx => row_size (ok_right (hok x hx)).1)).2
      have hpos := pw_pos (31 - d)
      have hhalf := pw_half hd
      -- a row with few bits fills the spot
      have hbits : ∀ q ∈ r :: L, q.b ≤ d → q.b = d ∧ q.a = a := by
        intro q hq hb
        have h1 := hge q hq
        have hh : 0 ≤ q.b ∧ q.b ≤ 32 ∧ _ := of_decide_eq_true (ok_right (hok q hq)).1
        have e : (32 - q.b).toNat = (32 - d) + (d - q.b.toNat) := by omega
        have h2 := h1.2
        unfold Row.hi at h2
        rw [e, pw_split] at h2
        have hp := pw_pos (d - q.b.toNat)
        by_cases hbd : q.b = d
        · refine ⟨hbd, ?_⟩
          have : d - q.b.toNat = 0 := by omega
          rw [this] at h2
          simp at h2
          omega
        · have e2 : d - q.b.toNat = (d - q.b.toNat - 1) + 1 := by omega
          have hp2 := pw_pos (d - q.b.toNat - 1)
          rw [e2, Int.pow_succ] at h2
          have h3 := Int.mul_le_mul_of_nonneg_left (show (2 : Int) ≤ 2 ^ (d - q.b.toNat - 1) * 2 by omega) (show (0 : Int) ≤ 2 ^ (32 - d) by have := pw_pos (32 - d); omega)
          have := pw_pos (32 - d)
          omega
      by_cases hrb : r.b = d
      · exact leaf_case rfl hs.d32 hc hok hrb
      · obtain ⟨s1, s2, qq, hqq⟩ := hs.halves hd
        have hdeep : ∀ q ∈ r :: L, (d : Int) + 1 ≤ q.b := by
          intro q hq
          by_cases hle : q.b ≤ d
          · obtain ⟨h1, h2⟩ := hbits q hq hle
            rcases List.mem_cons.1 hq with rfl | hq
            · exact absurd h1 hrb
            · have h3 := (Chain.ge hc.2 (fun x hx => row_size (ok_right (hok x (List.mem_cons_of_mem _ hx))).1)).2 q hq
              have h4 := row_size (ok_right (hok r (List.mem_cons_self ..))).1
              have h5 := hc.1
              omega
          · omega
        have hstr : ∀ q ∈ r :: L, q.a < a + 2 ^ (31 - d) → q.hi < a + 2 ^ (31 - d) := by
          intro q hq hlt
          have hh : 0 ≤ q.b ∧ q.b ≤ 32 ∧ 0 ≤ q.a ∧ q.a ≤ 4294967295 ∧ q.a % 2 ^ (32 - q.b).toNat = 0 := of_decide_eq_true (ok_right (hok q hq)).1
          have hb := hdeep q hq
          obtain ⟨_, b1, _, _, hal⟩ := hh
          obtain ⟨S, hS⟩ : ∃ S : Int, S = 2 ^ (32 - q.b).toNat := ⟨_, rfl⟩
          obtain ⟨z, hz⟩ : ∃ z : Int, z = 2 ^ (q.b.toNat - (d + 1)) := ⟨_, rfl⟩
          have eP : 31 - d = (32 - q.b).toNat + (q.b.toNat - (d + 1)) := by omega
          have hP : (2 : Int) ^ (31 - d) = S * z := by rw [eP, pw_split, hS, hz]
          have hSp : 0 < S := hS ▸ pw_pos _
          rw [← hS] at hal
          obtain ⟨N, hN⟩ := Int.dvd_of_emod_eq_zero hal
          have hmid : a + 2 ^ (31 - d) = S * (qq * 2 * z + z) := by
            rw [Int.mul_add, hqq, hP]
            have : qq * (2 * (S * z)) = S * (qq * 2 * z) := by ac_rfl
            omega
          unfold Row.hi
          rw [← hS]
          rw [hmid] at hlt ⊢
          obtain ⟨M, hM⟩ : ∃ M : Int, M = qq * 2 * z + z := ⟨_, rfl⟩
          rw [← hM] at hlt ⊢
          rw [hN] at hlt ⊢
          have hNM : N < M := by
            by_cases h : N < M
            · exact h
            · have := Int.mul_le_mul_of_nonneg_left (show M ≤ N by omega) (Int.le_of_lt hSp)
              omega
          have := Int.mul_le_mul_of_nonneg_left (show N + 1 ≤ M by omega) (Int.le_of_lt hSp)
          rw [Int.mul_add] at this
          omega
        obtain ⟨L1, L2, hLL, c1, c2⟩ := Chain.split hc hstr (by omega) (by omega)
        rw [hLL] at hok hn ⊢
        obtain ⟨n1, n2⟩ := hn.parts
        have e3 : 32 - (d + 1) = 31 - d := by omega
        have ee : a + 2 ^ (32 - d) = a + 2 ^ (31 - d) + 2 ^ (31 - d) := by omega
        rw [ee] at c2
        obtain ⟨t1, a1, k1, h1, l1⟩ := ih (d + 1) a L1 (by omega) s1 (by rw [e3]; exact c1) (fun q hq => hok q (List.mem_append_left _ hq)) n1
        obtain ⟨t2, a2, k2, h2, l2⟩ := ih (d + 1) (a + 2 ^ (31 - d)) L2 (by omega) s2 (by rw [e3]; exact c2) (fun q hq => hok q (List.mem_append_right _ hq)) n2
        refine ⟨.node t1 t2, by rw [← a1, ← a2]; rfl, ⟨k1, k2, ?_⟩, by simp [Tr.ht]; omega, ?_⟩
        · rintro v ⟨rfl, rfl⟩
          rw [← a1, ← a2] at hn
          refine hn.1 ⟨rfl, rfl, ?_, ?_⟩
          · show (0 : Int) < ((d + 1 : Nat) : Int)
            omega
          · show rightB a (((d + 1 : Nat) : Int) - 1) = true
            unfold rightB
            rw [decide_eq_true_eq]
            have hx : (32 - (((d + 1 : Nat) : Int) - 1)).toNat = 32 - d := by omega
            have := hs.a1
            have := pw_pos (32 - d)
            rw [hx]
            exact ⟨by omega, by omega, hs.a0, by omega, hs.am⟩
        · intro v hv
          simp only [Tr.labels, List.mem_append] at hv
          rcases hv with hv | hv
          · exact l1 v hv
          · exact l2 v hv
/-- what the reference asks of rows -/
def Rightful (L : List Row) : Prop := Chain 0 L 4294967296 ∧ (∀ r ∈ L, rowOk r = true) ∧ NoHalf L
theorem make_iff (L : List Row) : (∃ t, MakeOf L = some t) ↔ Rightful L := by
  constructor
  · rintro ⟨t, h⟩
    unfold MakeOf at h
    cases hm : mk (.leaf 0) L with
    | none => rw [hm] at h; simp at h
    | some u =>
      rw [hm, Option.bind_some] at h
      by_cases he : u.all 0 0 = L
      · have hok : ∀ (M : List Row) (x y : Tr), mk x M = some y → (∀ r ∈ M, rowOk r = true) ∧ y = M.foldl putRow x := by
          intro M
          induction M with
          | nil => intro x y h; simp [mk] at h; exact ⟨by simp, h.symm⟩
          | cons r M ih =>
            intro x y h
            rw [mk] at h
            by_cases hr : rowOk r = true
            · rw [if_pos hr] at h
              obtain ⟨h1, h2⟩ := ih _ _ h
              exact ⟨fun q hq => by rcases List.mem_cons.1 hq with rfl | hq; exact hr; exact h1 q hq, h2⟩
            · rw [if_neg hr] at h; simp at h
        obtain ⟨h1, h2⟩ := hok L _ _ hm
        have hh : u.ht ≤ 32 := by rw [h2]; exact ht_puts _ _ (fun r hr => (ok_right (h1 r hr)).1) (by simp [Tr.ht])
        have hcan : u.canon := by rw [h2]; exact canon_puts _ _ trivial
        have hch := (all_rows u 0 0 Spot.root hh).1
        have hno := no_half u 0 0 Spot.root hh hcan
        rw [he] at hch hno
        exact ⟨hch, h1, hno⟩
      · rw [if_neg he] at h; simp at h
  · rintro ⟨hc, hok, hn⟩
    obtain ⟨t, ha, hcan, hh, hl⟩ := build_rows 32 0 0 L rfl Spot.root hc hok hn
    exact ⟨t, by rw [← ha]; exact make_all hh hcan hl⟩
end Go.Proofs.Ytphmmpdeehfhjaa
