/- The program's writer: Num, Text, Raw, Done. -/
import Derived.Test.YtdccgmfhnofabaaDoorD1
namespace Go.Proofs.YtdccgmfhnofabaaDoor
open Go.RowKit
set_option linter.unusedVariables false
set_option linter.unusedSimpArgs false
section
variable {w w' w1 : World} {b : Nat} {r : Wr} {p v ev : Value} {l s : List UInt8}
theorem WPost.after {e : Ending} (h : WPost w1 b v ev r e w') (hb : Below w.heap.size w w1) (hz : ∀ k, zW b v k → k < w.heap.size) : WPost w b v ev r e w' := by
  obtain ⟨h1, p', v', ev', h2, h3, h4, h5⟩ := h
  refine ⟨h1, p', v', ev', h2, (Mods.of_new hb).trans h3 (fun k _ e => e), fun k hk => ?_, fun g hg => ?_⟩
  · rcases h4 k hk with e | e
    · exact .inl e
    · exact .inr (Nat.le_trans hb.size e)
  · rcases h5 g hg with e | e
    · exact .inl e
    · exact .inr (Nat.le_trans hb.size e)
def i64 (x : Int) : Prop := -9223372036854775808 ≤ x ∧ x ≤ 9223372036854775807
theorem wnum_any (h : WP w b r p v ev) (size n : Int) (h1 : i64 size) (h2 : i64 n) (hlen : r.l.length ≤ 140737488355320) :
    Calls Tryd.prog 32 #[.pointer (some ⟨b, 0, none⟩), .int .i64 size, .int .i64 n] w (WPost w b v ev (r.num size n)) := by
  have HF := Hid.mk_ (fits_any size n w h1.1 h1.2 h2.1 h2.2)
  by_cases hf : fitsB size n = true
  · obtain ⟨f1, f2, f3⟩ := fits_nat hf
    obtain ⟨k, rfl⟩ : ∃ k : Nat, size = k := ⟨size.toNat, by omega⟩
    obtain ⟨m, rfl⟩ : ∃ m : Nat, n = m := ⟨n.toNat, by omega⟩
    have e2 : r.num k m = r.lay (byL k m) 0 := by unfold Wr.num; rw [if_pos hf, Int.toNat_natCast, Int.toNat_natCast]
    rw [hf] at HF
    have E2 := Hid.mk_ e2
    have HBy := Hid.mk_ (bytes_any k m (by omega) (by have := h2.2; omega) w)
    have HL := Hid.mk_ (fun (W : World) (hW : Below w.heap.size w W) => lays_any (h.new hW) (byL k m) 0 (by rw [byL_length]; omega))
    have HZ := Hid.mk_ h.lt
    clear h e2 hf h1 h2
    go_enter Tryd.func32, Tryd.ntmps32
    go_wp2_with (first
      | (go_at_call 49; (with_reducible refine HF.out.mono ?_); rintro e w1 ⟨rfl, rfl⟩)
      | (go_at_call 51; (with_reducible refine HBy.out.mono ?_); rintro e w1 ⟨rfl, hb⟩)
      | (go_at_call 50; (with_reducible refine (HL.out _ (by assumption)).mono ?_); rintro e w2 hp; have hp2 := Hid.mk_ (hp.after hb HZ.out); obtain ⟨rfl, _⟩ := hp))
    go_end0
    rw [E2.out]
    exact hp2.out
  · have hf2 : fitsB size n = false := by simpa using hf
    have e2 : r.num size n = r.lay [] 10 := by unfold Wr.num; rw [if_neg hf]
    rw [hf2] at HF
    have E2 := Hid.mk_ e2
    have HL := Hid.mk_ (lays_any h [] 10 (by simp; omega))
    clear h e2 hf hf2 h1 h2
    go_enter Tryd.func32, Tryd.ntmps32
    go_wp2_with (first
      | (go_at_call 49; (with_reducible refine HF.out.mono ?_); rintro e w1 ⟨rfl, rfl⟩)
      | (go_at_call 50; (with_reducible refine HL.out.mono ?_); rintro e w2 hp; have hp2 := Hid.mk_ hp; obtain ⟨rfl, _⟩ := hp))
    go_end0
    rw [E2.out]
    exact hp2.out
theorem wraw_any (h : WP w b r p v ev) (s : List UInt8) (hlen : r.l.length + s.length ≤ 140737488355328) :
    Calls Tryd.prog 34 #[.pointer (some ⟨b, 0, none⟩), str s] w (WPost w b v ev (r.raw s)) := by
  have HL := Hid.mk_ (lays_any h s 0 hlen)
  clear h
  go_enter Tryd.func34, Tryd.ntmps34
  go_wp2_with (go_at_call 50; (with_reducible refine HL.out.mono ?_); rintro e w2 hp; have hp2 := Hid.mk_ hp; obtain ⟨rfl, _⟩ := hp)
  go_end0
  exact hp2.out
theorem cat_l (a b : List UInt8) : (⟨a.toArray⟩ : ByteArray) ++ ⟨b.toArray⟩ = ⟨(a ++ b).toArray⟩ := by
  apply ByteArray.ext
  apply Array.ext'
  simp
theorem wtext_any (h : WP w b r p v ev) (s : List UInt8) (hlen : r.l.length + s.length ≤ 140737488355300) :
    Calls Tryd.prog 33 #[.pointer (some ⟨b, 0, none⟩), str s] w (WPost w b v ev (r.text s)) := by
  by_cases hs : 65535 < s.length
  · have hs1 : (65535 : Int) < s.length := by omega
    have e2 : r.text s = r.lay [] 11 := by unfold Wr.text; rw [if_pos hs]
    have E2 := Hid.mk_ e2
    have HL := Hid.mk_ (lays_any h [] 11 (by simp; omega))
    clear h e2
    go_enter Tryd.func33, Tryd.ntmps33
    go_wp2_with (go_at_call 50; (with_reducible refine HL.out.mono ?_); rintro e w2 hp; have hp2 := Hid.mk_ hp; obtain ⟨rfl, _⟩ := hp)
    go_end0
    rw [E2.out]
    exact hp2.out
  · have hs1 : ¬ (65535 : Int) < s.length := by omega
    have e2 : r.text s = r.lay (byL 2 s.length ++ s) 0 := by unfold Wr.text; rw [if_neg hs]
    have E2 := Hid.mk_ e2
    have HBy := Hid.mk_ (show Calls Tryd.prog 51 #[.int .i64 2, .int .i64 (s.length : Int)] w _ from bytes_any 2 s.length (by omega) (by omega) w)
    have HL := Hid.mk_ (fun (W : World) (hW : Below w.heap.size w W) => lays_any (h.new hW) (byL 2 s.length ++ s) 0 (by rw [List.length_append, byL_length]; omega))
    have HZ := Hid.mk_ h.lt
    have hcat := cat_l (byL 2 s.length) s
    have hbl := byL_length s.length 2
    obtain ⟨B2, hB2⟩ : ∃ B2, B2 = byL 2 s.length := ⟨_, rfl⟩
    rw [← hB2] at HBy HL hcat hbl
    have HB2 := Hid.mk_ hB2
    clear h e2 hB2
    go_enter Tryd.func33, Tryd.ntmps33
    go_wp2_with (first
      | (go_at_call 51; (with_reducible refine HBy.out.mono ?_); rintro e w1 ⟨rfl, hb⟩)
      | (go_at_call 50; (with_reducible refine (HL.out _ (by assumption)).mono ?_); rintro e w2 hp; have hp2 := Hid.mk_ (hp.after hb HZ.out); obtain ⟨rfl, _⟩ := hp))
    go_end0
    rw [E2.out, ← HB2.out]
    exact hp2.out
def DonePost (w : World) (b : Nat) (r : Wr) (p v ev : Value) (e : Ending) (w' : World) : Prop :=
  e = .returned (.tuple #[str r.done.1, .int .i64 r.done.2]) ∧ WP w' b r p v ev ∧ Mods (zW b v) w w'
theorem wdone_any (hG : Glob w) (h : WP w b r p v ev) : Calls Tryd.prog 27 #[.pointer (some ⟨b, 0, none⟩)] w (DonePost w b r p v ev) := by
  have c3 := h.blk.cell 3
  have hl := h.blk.lt
  have HH := Hid.mk_ h
  by_cases he : r.e = 0
  · have hev := h.e_eq he
    subst hev
    have e2 : r.done = (r.l, 0) := by unfold Wr.done; rw [if_neg (by simp [he])]
    have E2 := Hid.mk_ e2
    have HS := Hid.mk_ (st_any h.blk h.own)
    have HE := Hid.mk_ he
    clear h he e2 hG
    go_enter Tryd.func27, Tryd.ntmps27
    go_wp2_with (go_at_call 46; (with_reducible refine HS.out.mono ?_); rintro e w1 ⟨rfl, hk, ho, hm⟩)
    go_ret2
    unfold DonePost
    rw [E2.out]
    exact ⟨rfl, ⟨hk, HH.out.ptr, ho, .inl ⟨HE.out, rfl⟩, HH.out.room0, HH.out.room1, HH.out.b0, HH.out.own0⟩, hm.mono (fun k _ e => .inr e)⟩
  · obtain ⟨g, rfl, hg⟩ := h.e_ne he
    have e2 : r.done = ([], r.e) := by unfold Wr.done; rw [if_pos he]
    have E2 := Hid.mk_ e2
    have HT := Hid.mk_ (told_any hG hg)
    clear h he e2 hg hG
    go_enter Tryd.func27, Tryd.ntmps27
    go_wp2_with (go_at_call 43; (with_reducible refine HT.out.mono ?_); rintro e w1 ⟨rfl, hb⟩)
    go_ret2
    unfold DonePost
    rw [E2.out]
    exact ⟨rfl, HH.out.new hb, Mods.of_new hb⟩
theorem wnew_any (most : Int) (hm : i64 most) (hG : Glob w) : Calls Tryd.prog 13 #[.int .i64 most] w fun e w' => ∃ b, e = .returned (.pointer (some ⟨b, 0, none⟩)) ∧ WP w' b ⟨max most 0, [], 0⟩ (.pointer none) (.slice none 0 0) .nilIface ∧ b = w.heap.size ∧ Below w.heap.size w w' := by
  have hp := hG.pos
  have h1 := hm.1
  have h2 := hm.2
  clear hG hm
  obtain ⟨m, hmm⟩ : ∃ m, m = max most 0 := ⟨_, rfl⟩
  rw [← hmm]
  have hm0 : 0 ≤ m := by omega
  have hm1 : m ≤ 9223372036854775807 := by omega
  have HM : Hid (∀ W : World, Blk W w.heap.size [.int .i64 m, .pointer none, .slice none 0 0, .nilIface] 76 → WP W w.heap.size ⟨m, [], 0⟩ (.pointer none) (.slice none 0 0) .nilIface) := fun W h => ⟨h, .inl rfl, ⟨rfl, .inl ⟨rfl, rfl⟩⟩, .inl ⟨rfl, rfl⟩, hm0, hm1, hp, by simp [Value.ownBlock]⟩
  by_cases hc : most ≤ 0
  · have e : m = 0 := by omega
    subst e
    clear hmm hm0 hm1
    go_enter Tryd.func13, Tryd.ntmps13
    go_wp2_with fail
    all_goals first
      | (exfalso; omega)
      | (have e : most = 0 := by omega
         subst e
         go_ret
         exact ⟨_, rfl, HM.out _ (Blk.new w _ 76), rfl, (Below.refl _ _).alloc (Nat.le_refl _) _⟩)
      | (go_ret
         exact ⟨_, rfl, HM.out _ (Blk.new w _ 76), rfl, (Below.refl _ _).alloc (Nat.le_refl _) _⟩)
  · have e : m = most := by omega
    subst e
    clear hmm hm0 hm1
    go_enter Tryd.func13, Tryd.ntmps13
    go_wp2_with fail
    all_goals first
      | (exfalso; omega)
      | (go_ret
         exact ⟨_, rfl, HM.out _ (Blk.new w _ 76), rfl, (Below.refl _ _).alloc (Nat.le_refl _) _⟩)
end
end Go.Proofs.YtdccgmfhnofabaaDoor
