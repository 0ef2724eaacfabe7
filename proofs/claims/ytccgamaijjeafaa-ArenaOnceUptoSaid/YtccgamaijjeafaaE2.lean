/- world.owned: its walk. -/
import Derived.Test.YtccgamaijjeafaaE1
import Derived.Deep.LoopGhost
namespace Go.Proofs.Ytccgamaijjeafaa
open Go.RowKit
set_option linter.unusedVariables false
set_option linter.unusedSimpArgs false
section
variable {w wc wr : World} {es : List Value} {ls : Nat → List Int}
def HeadG (wc wr : World) (es : List Value) (ls : Nat → List Int) (n : Nat) (av : Value) (al : List Value) : Prop :=
  (n = 0 ∧ wr = wc ∧ av = .slice none 0 0 ∧ al = []) ∨ ∃ m x nx D, n = m + 1 ∧ Gr wc wr es ls m 6 av al x nx D
theorem HeadG.enter (ha : apartV es) (hes : ∀ b, OwnB es b → b < wc.heap.size) {n : Nat} {av : Value} {al : List Value} (hM : Mk w wc es ls es.length 0) (h : HeadG wc wr es ls n av al) (hn : n < es.length) (hl : (ls n).length ≤ 1000000) :
    ∃ D, Gr wc wr es ls n 0 av al (es[n]'hn) (ls n).length D := by
  rcases h with ⟨rfl, rfl, rfl, rfl⟩ | ⟨m, x, nx, D, rfl, h⟩
  · exact ⟨_, Gr.start hM hn hl⟩
  · exact h.next ha hes hn hl
theorem HeadG.done {n : Nat} {av : Value} {al : List Value} (h : HeadG wc wr es ls n av al) : AllEnt wc wr es av al := by
  rcases h with ⟨rfl, rfl, rfl, rfl⟩ | ⟨m, x, nx, D, rfl, h⟩
  · exact ⟨[], Mods.refl _ _, Row.nil _ _ _, fun j h => absurd h (by simp)⟩
  · exact h.done
theorem HeadG.bound {n : Nat} {av : Value} {al : List Value} (h : HeadG wc wr es ls n av al) : Mods (OwnB es) wc wr ∧ Row wr 22 1 av al.length al ∧ al.length = 6 * n := by
  rcases h with ⟨rfl, rfl, rfl, rfl⟩ | ⟨m, x, nx, D, rfl, h⟩
  · exact ⟨Mods.refl _ _, Row.nil _ _ _, rfl⟩
  · exact ⟨h.m, h.a, by rw [h.la]; omega⟩
/-- what owned is given: the lists, apart from each other and from the book -/
structure Own (w : World) (bw : Nat) (lv : Value) (es : List Value) (ls : Nat → List Int) : Prop where
  book : w.cell? ⟨bw, 1, none⟩ = some lv
  bl : bw < w.heap.size
  row : Row w 22 1 lv es.length es
  r : ∀ j (h : j < es.length), Row w 3 1 (es[j]'h) (ls j).length ((ls j).map (Value.int .i64))
  ap : apartV es
  nb : ∀ b, OwnB es b → b ≠ bw ∧ lv.ownBlock ≠ some b
  len : es.length ≤ 10000000
  each : ∀ j, (ls j).length ≤ 1000000
theorem Own.bv {bw : Nat} {lv : Value} (h : Own w bw lv es ls) {W : World} (hm : Mods (OwnB es) w W) : W.cell? ⟨bw, 1, none⟩ = some lv :=
  (World.cell?_of_block (a := ⟨bw, 1, none⟩) (hm.block bw h.bl (fun e => (h.nb bw e).1 rfl))).trans h.book
theorem Own.rv {bw : Nat} {lv : Value} (h : Own w bw lv es ls) {W : World} (hm : Mods (OwnB es) w W) : Row W 22 1 lv es.length es :=
  h.row.move fun k hk => hm.block k (h.row.lt k hk) (fun e => (h.nb k e).2 hk)
theorem Own.lt {bw : Nat} {lv : Value} (h : Own w bw lv es ls) : ∀ b, OwnB es b → b < w.heap.size := fun b ⟨v, hv, e⟩ => by
  obtain ⟨j, hj, rfl⟩ := List.getElem_of_mem hv
  exact (h.r j hj).lt b e
theorem mrk_div (j : Nat) : mrk (j / 6) = -5 - (j : Int) / 6 := by unfold mrk; omega
def OwnedPost (w : World) (es : List Value) (e : Ending) (w' : World) : Prop := e = .returned (.bool true) ∧ Mods (OwnB es) w w'
set_option maxHeartbeats 4000000 in
theorem owned_any {bw : Nat} {lv : Value} (h : Own w bw lv es ls) : Calls Try.prog 9 #[.pointer (some ⟨bw, 0, none⟩)] w (OwnedPost w es) := by
  have H := Hid.mk_ h
  obtain ⟨Al, cl, rfl⟩ := h.row.shape
  have hE := h.len
  have HL := Hid.mk_ h.each
  clear h
  obtain ⟨i3, hi3, ha0, ha1, ha2⟩ := info_parts Try.info3
  obtain ⟨i22, hi22, hb0, hb1, hb2⟩ := info_parts Try.info22
  go_enter Try.func9, Try.ntmps9
  go_wp2_with fail
  go_loopw [3] (fun x3 wr => ∃ n : Nat, n ≤ es.length ∧ x3 = .int .i64 (n : Int) ∧ Hid (Mk w wr es ls n 0)) (fun x3 _ => es.length - (intOf x3).toNat)
  case atStart => exact ⟨0, Nat.zero_le _, rfl, Mk.start H.out.r⟩
  case round =>
    obtain ⟨n, hn, rfl, HM⟩ := hrel
    by_cases hlt : n < es.length
    · have hlt1 : (n : Int) < es.length := by omega
      have b1 := H.out.bv HM.out.m
      have hLn := HL.out n
      obtain ⟨wo, rfl⟩ : ∃ wo : World, wo = wr := ⟨_, rfl⟩
      go_wp2_with fail
      go_loopw [4] (fun x4 wr => ∃ k : Nat, k ≤ (ls n).length ∧ x4 = .int .i64 (k : Int) ∧ Hid (Mk w wr es ls n k)) (fun x4 _ => (ls n).length - (intOf x4).toNat)
      case atStart => exact ⟨0, Nat.zero_le _, rfl, HM.out⟩
      case round =>
        obtain ⟨k, hk, rfl, HK⟩ := hrel
        have b2 := H.out.bv HK.out.m
        obtain ⟨gl, cl', e, hgl, _⟩ := (H.out.rv HK.out.m).some_ (by omega)
        cases e
        have b3 : wr.cell? ⟨gl, n, none⟩ = some (es[n]'hlt) := by rw [(H.out.rv HK.out.m).cell n (by omega)]; simp [hlt]
        have hr := HK.out.r n hlt
        obtain ⟨A, c, hv⟩ := hr.shape
        obtain ⟨l, hle⟩ : ∃ l, l = (ls n).length := ⟨_, rfl⟩
        rw [hv, ← hle] at b3
        rw [← hle] at hk hLn ⊢
        have HV := Hid.mk_ hv
        have HLE := Hid.mk_ hle
        by_cases hkl : k < l
        · have hkl1 : (k : Int) < l := by omega
          obtain ⟨g, c', e2, hg, _⟩ := hr.some_ (by omega)
          rw [hv] at e2
          cases e2
          have hcl : (ctn n k n (ls n)).length = l := by rw [ctn_length (fun _ => by omega), hle]
          have b4 : wr.cell? ⟨g, k, none⟩ = some (.int .i64 ((ctn n k n (ls n))[k]'(by omega))) := by
            rw [hv] at hr
            rw [hr.cell k (by omega)]
            rw [List.getElem?_eq_getElem (by rw [List.length_map]; omega), List.getElem_map]
          have b5 : wr.frozen? ⟨g, k, none⟩ = false := by rw [hv] at hr; exact hr.free k
          obtain ⟨q, hq⟩ : ∃ q, q = (ctn n k n (ls n))[k]'(by omega) := ⟨_, rfl⟩
          rw [← hq] at b4
          have HS := Hid.mk_ (HK.out.step H.out.ap hlt (by omega) hv)
          have hw5 : IntKind.i64.wrap (-5 - (n : Int)) = -5 - n := by rw [IntKind.wrap_i64]; omega
          clear hq hcl hr hv hle
          go_wp2_with fail
          go_roundw
          case rel => exact ⟨k + 1, by omega, by go_num, HS.out⟩
          case measure => simp [intOf]; omega
        · have hkl1 : ¬ (k : Int) < l := by omega
          have ek : k = l := by omega
          have HS := Hid.mk_ (HK.out.next (by omega))
          clear hr hv hle
          go_wp2_with fail
          exact ⟨⟨n + 1, by omega, by go_num, HS.out⟩, by simp [intOf]; omega⟩
    · have hge : ¬ (n : Int) < es.length := by omega
      have en : n = es.length := by omega
      subst en
      have b1 := H.out.bv HM.out.m
      obtain ⟨wc, rfl⟩ : ∃ wc : World, wc = wr := ⟨_, rfl⟩
      have hsz := HM.out.m.size
      have hes := Hid.mk_ (fun b (hb : OwnB es b) => Nat.lt_of_lt_of_le (H.out.lt b hb) hsz)
      go_wp2_with fail
      go_loopw [5, 6] (fun x5 x6 wr => ∃ (n : Nat) (av : Value) (al : List Value), n ≤ es.length ∧ x5 = av ∧ x6 = .int .i64 (n : Int) ∧ Hid (HeadG wc wr es ls n av al)) (fun _ x6 _ => es.length - (intOf x6).toNat)
      case atStart => exact ⟨0, _, [], Nat.zero_le _, rfl, rfl, .inl ⟨rfl, rfl, rfl, rfl⟩⟩
      case round =>
        obtain ⟨n, av, al, hn2, rfl, rfl, HG⟩ := hrel
        have hbd := HG.out.bound
        by_cases hlt2 : n < es.length
        · have hlt1 : (n : Int) < es.length := by omega
          have hmw := HM.out.m.trans hbd.1 (fun k _ e => e)
          have b2 := H.out.bv hmw
          have hrv := H.out.rv hmw
          obtain ⟨gl, cl', e, hgl, _⟩ := hrv.some_ (by omega)
          cases e
          have b3 : wr.cell? ⟨gl, n, none⟩ = some (es[n]'hlt2) := by rw [hrv.cell n (by omega)]; simp [hlt2]
          have hent := HG.out.enter H.out.ap hes.out HM.out hlt2 (HL.out n)
          obtain ⟨D, hent⟩ := hent
          have HEN := Hid.mk_ hent
          obtain ⟨y, hy⟩ : ∃ y, y = es[n]'hlt2 := ⟨_, rfl⟩
          rw [← hy] at b3 HEN
          obtain ⟨wo, rfl⟩ : ∃ wo : World, wo = wr := ⟨_, rfl⟩
          have hal := hbd.2.2
          obtain ⟨l, hle⟩ : ∃ l, l = (ls n).length := ⟨_, rfl⟩
          rw [← hle] at HEN
          have hll : l ≤ 1000000 := by rw [hle]; exact HL.out n
          clear hent hmw hrv hbd hy hle
          go_wp2_with fail
          go_loopw [5, 7, 8] (fun x5 x7 x8 wr => ∃ (i nx : Nat) (av : Value) (al : List Value) (x : Value) (D : List Nat), i ≤ 6 ∧ nx = l + i ∧ x5 = av ∧ x7 = x ∧ x8 = .int .i64 (i : Int) ∧ Hid (Gr wc wr es ls n i av al x nx D)) (fun _ _ x8 _ => 6 - (intOf x8).toNat)
          case atStart => exact ⟨0, l, _, _, _, D, by omega, rfl, rfl, rfl, rfl, HEN.out⟩
          case round =>
            obtain ⟨i, nx, av2, al2, x, D2, hi, rfl, rfl, rfl, rfl, HR⟩ := hrel
            by_cases hi6 : i < 6
            · have hi61 : (i : Int) < 6 := by omega
              have hla := HR.out.la
              have HLA := Hid.mk_ hla
              have hal2 : al2.length ≤ 60000000 := by omega
              obtain ⟨As, cs, hav⟩ := HR.out.a.shape
              obtain ⟨Ax, cx, hx⟩ := HR.out.xr.shape
              subst hav hx
              have hw5 : IntKind.i64.wrap (-5 - (n : Int)) = -5 - n := by rw [IntKind.wrap_i64]; omega
              have tok1 : True := trivial
              clear hla
              go_wp2_with (first
                | (have _t := tok1; at_builtin; refine wpList_append_row2 _ rfl (.tmp 63) (.tmp 65) 36 rfl 22 i22 (.slice none 0 0) 1 24 Try.underlying36 hi22 hb0 hb1 hb2 rfl (by omega) (.slice As al2.length cs) al2.length al2 rfl (HR.out.a.alloc _) ⟨wr.heap.size, 0, none⟩ 1 1 [.slice Ax (l + i) cx] rfl rfl (one_cells_at wr _ _ rfl) (by simp [Value.oneCell']) (by omega) (by unfold maxLen; omega) (by omega) (wr.heap.size + 1) (by simp) ?_; intro g6 c6 w6 hrow6 hgrow6 hloc6 hlt6; have HP := Hid.mk_ (HR.out.push H.out.ap hes.out hi6 hrow6 rfl hgrow6 (by rcases hloc6 with e | e; exact .inl e; exact .inr e.1)); clear tok1)
                | (at_builtin; refine wpList_append_row2 _ rfl (.tmp 67) (.tmp 70) 22 rfl 3 i3 (.int .i64 0) 1 8 Try.underlying22 hi3 ha0 ha1 ha2 rfl (by omega) (.slice Ax (l + i) cx) (l + i) ((List.replicate (l + i) (mrk n)).map (Value.int .i64)) rfl (HP.out.xr.alloc _) ⟨w6.heap.size, 0, none⟩ 1 1 [.int .i64 (mrk n)] rfl rfl (one_cells_at w6 _ _ rfl) (by simp [Value.oneCell']) (by omega) (by unfold maxLen; omega) (by omega) (w6.heap.size + 1) (by simp) ?_; intro g7 c7 w7 hrow7 hgrow7 hloc7 hlt7))
              obtain ⟨D', hG⟩ := HP.out.grow hes.out hi6 hrow7 rfl hgrow7 hloc7 H.out.ap hlt2 (by omega)
              exact ⟨⟨i + 1, l + i + 1, _, _, _, D', by omega, by omega, rfl, rfl, by go_num, hG⟩, by simp [intOf]; omega⟩
            · have hi61 : ¬ (i : Int) < 6 := by omega
              have ei : i = 6 := by omega
              subst ei
              go_wp2_with fail
              exact ⟨⟨n + 1, _, al2, by omega, rfl, by go_num, (show HeadG wc wr es ls (n + 1) _ al2 from .inr ⟨n, _, _, D2, rfl, HR.out⟩)⟩, by simp [intOf]; omega⟩
        · have hge2 : ¬ (n : Int) < es.length := by omega
          have hmw := HM.out.m.trans hbd.1 (fun k _ e => e)
          have b2 := H.out.bv hmw
          have HD := Hid.mk_ HG.out.done
          have hal : al.length ≤ 60000000 := by have := hbd.2.2; omega
          obtain ⟨Aa, ca, hav⟩ := hbd.2.1.shape
          subst hav
          obtain ⟨wo, rfl⟩ : ∃ wo : World, wo = wr := ⟨_, rfl⟩
          have HMW := Hid.mk_ hmw
          clear hbd hmw HG
          go_wp2_with fail
          go_loop [9] (fun x9 => ∃ j : Nat, j ≤ al.length ∧ x9 = .int .i64 (j : Int)) (fun x9 => al.length - (intOf x9).toNat)
          case atStart => exact ⟨0, Nat.zero_le _, rfl⟩
          case round =>
            obtain ⟨j, hj, rfl⟩ := hrel
            by_cases hjl : j < al.length
            · have hjl1 : (j : Int) < al.length := by omega
              obtain ⟨D, _, har, hent⟩ := HD.out
              obtain ⟨ga, ca', e, hga, _⟩ := har.some_ (by omega)
              cases e
              have b3 : wo.cell? ⟨ga, j, none⟩ = some (al[j]'hjl) := by rw [har.cell j (by omega)]; simp [hjl]
              obtain ⟨A, k, c, ev, hk, hc⟩ := hent j hjl
              rw [ev] at b3
              rw [mrk_div] at hc
              have HC := Hid.mk_ hc
              have hw5 : IntKind.i64.wrap (-5 - (j : Int) / 6) = -5 - (j : Int) / 6 := by rw [IntKind.wrap_i64]; omega
              clear hc hent har ev
              go_wp2_with fail
              go_loop [10] (fun x10 => ∃ q : Nat, q ≤ k ∧ x10 = .int .i64 (q : Int)) (fun x10 => k - (intOf x10).toNat)
              case atStart => exact ⟨0, Nat.zero_le _, rfl⟩
              case round =>
                obtain ⟨q, hq, rfl⟩ := hrel
                by_cases hqk : q < k
                · have hqk1 : (q : Int) < k := by omega
                  obtain ⟨g, e2, _, hcc⟩ := HC.out (by omega)
                  subst e2
                  have b4 := hcc q hqk
                  clear hcc
                  go_wp2_with fail
                  go_round
                  case rel => exact ⟨q + 1, by omega, by go_num⟩
                  case measure => simp [intOf]; omega
                · have hqk1 : ¬ (q : Int) < k := by omega
                  go_wp2_with fail
                  exact ⟨⟨j + 1, by omega, by go_num⟩, by simp [intOf]; omega⟩
            · have hjl1 : ¬ (j : Int) < al.length := by omega
              go_wp2_with fail
              go_ret
              exact ⟨rfl, HMW.out⟩
end
end Go.Proofs.Ytccgamaijjeafaa
