/- The builder in a writer's field: its calls walked. -/
import Derived.Test.YtdccgmfhnofabaaDoorC7
import Derived.Lib.FrozenHead
namespace Go.Proofs.YtdccgmfhnofabaaDoor
open Go.RowKit
set_option linter.unusedVariables false
set_option linter.unusedSimpArgs false
theorem Tryd.size72 : (Tryd.prog.info? 72).map (·.size) = some 2 := by kernel_rfl
theorem Tryd.lies72 : liesAt Tryd.prog Tryd.prog.depth 76 (4 / Tryd.prog.cellsOf 76) 1 72 1 = true := by kernel_rfl
section
variable {w w' : World} {b : Nat} {room : Int} {p v ev : Value} {l : List UInt8}
theorem Blk.shape {cs : List Value} {e : TypeId} (h : Blk w b cs e) : w.shape? b = some (e, cs.length) := by
  unfold Blk at h
  simp [World.shape?, h]
theorem copy_fresh (h : Blk w b [.int .i64 room, .pointer none, v, ev] 76) : Calls Tryd.prog 63 #[.pointer (some ⟨b, 1, none⟩)] w fun e w' => e = .returned (.tuple #[]) ∧ w' = w.setCell ⟨b, 1, none⟩ (.pointer (some ⟨b, 1, none⟩)) := by
  have c1 := h.cell 1
  have f1 := h.free 1
  have hsh := h.shape
  have hl := h.lt
  obtain ⟨j, hj, hjs⟩ := Option.map_eq_some_iff.1 Tryd.size72
  have hto := Lib.run_to_unsafe (P := Tryd.prog) w (e := 76) ⟨b, 1, none⟩ Tryd.underlying70 Tryd.underlying102 hj (by rw [hjs]; decide) hsh (show 1 < 4 by omega)
  have hfr := Lib.run_from_unsafe (P := Tryd.prog) w (e := 76) ⟨b, 1, none⟩ Tryd.underlying102 Tryd.underlying70 hj hsh Tryd.lies72
  have e67 := @run_callFunc_extern Tryd.prog 67 _ Extern.AbiNoEscape.same Tryd.func67 (by kernel_rfl) (by kernel_rfl) (by kernel_rfl) (by kernel_rfl)
  have n67 := @Lib.run_noEscape Tryd.prog
  clear h hsh hj hjs
  go_enter Tryd.func63, Tryd.ntmps63
  go_wp2_with fail
  go_end0
  exact ⟨rfl, rfl⟩
set_option maxRecDepth 100000 in
theorem copy_used (h : Blk w b [.int .i64 room, .pointer (some ⟨b, 1, none⟩), v, ev] 76) : Calls Tryd.prog 63 #[.pointer (some ⟨b, 1, none⟩)] w fun e w' => e = .returned (.tuple #[]) ∧ w' = w := by
  have c1 := h.cell 1
  have hl := h.lt
  clear h
  obtain ⟨j, hj, _⟩ := Option.map_eq_some_iff.1 Tryd.size72
  go_enter Tryd.func63, Tryd.ntmps63
  go_wp2_with fail
  rw [Lib.run_neq_ptr_same w _ Tryd.underlying70 hj]
  go_wp2_with fail
  go_end0
  exact ⟨rfl, rfl⟩
end
section
variable {P : Program} (w : World)
/-- append of a string behind a head that may be frozen, and where the row lies then -/
theorem run_append_strF (t u ty e : TypeId) (i : TypeInfo) (ht : P.underlying t = some (.slice e)) (hu : P.underlying u = some .string) (hi : P.info? e = some i) (hz : i.zero = some (.int .u8 0))
    (hsize : i.size = 1) (hby : i.bytes = 1)
    (v : Value) (n : Nat) (xs : List Value) (hown : w.ownsRowF 0 e 1 v n xs) (s : ByteArray)
    (h63 : n + s.size ≤ maxLen) (hbytes : n + s.size ≤ 140737488355328) :
    ∃ v' w', (Builtin.append_ #[t, u] ty #[v, .string s]).run P w = .ok v' w' ∧ w'.ownsRowF 0 e 1 v' (n + s.size) (xs ++ Lib.strCells s) ∧ w.grownBy w' v.ownBlock ∧
      ∀ k, v'.ownBlock = some k → v.ownBlock = some k ∨ w.heap.size ≤ k := by
  rcases hown.2 with ⟨rfl, rfl⟩ | ⟨g, cap, cur, fz, rfl, hbg, hg, hfz, hnc, hcm, hcs, htake⟩
  · obtain ⟨v', w', h1, h2, h3, h4⟩ := Lib.run_append_own_string (P := P) w w.heap.size t u ty e i ht hu hi hz hsize hby (.slice none 0 0) 0 xs ⟨hown.1, .inl ⟨rfl, rfl⟩⟩ s h63 hbytes (Nat.le_refl _)
    refine ⟨v', w', h1, ?_, h3, fun k hk => .inr ((World.ownsRowF_of h2).lt k hk).1⟩
    obtain ⟨a, b⟩ := World.ownsRowF_of h2
    refine ⟨a, ?_⟩
    rcases b with b | ⟨g, cap, cur, fz, c1, _, c2⟩
    · exact .inl b
    · exact .inr ⟨g, cap, cur, fz, c1, Nat.zero_le _, c2⟩
  · have hsmall : n + s.size ≤ 9223372036854775807 := by simp only [maxLen] at h63; omega
    have hxl : xs.length = n := by simpa using hown.1
    have hlen : (xs ++ Lib.strCells s).length = (n + s.size) * 1 := by rw [List.length_append, hxl, Lib.strCells_length, Nat.mul_one]
    by_cases hroom : n + s.size ≤ cap
    · have hcs' : cur.size = cap := by simpa using hcs
      have hr := Lib.run_append_room_stringF (P := P) w t u ty e i ht hu hi hsize g n cap cur fz hg (by simpa using hfz) s hroom (by omega)
      refine ⟨_, _, hr, ⟨hlen, .inr ⟨g, cap, _, fz, rfl, Nat.zero_le _, setRow_heap w g cur _ e _ hg, by omega, hroom, hcm, ?_, ?_⟩⟩, ⟨rfl, rfl, rfl, by simp, fun k _ hk => setRow_other w g k _ (fun e => hk (by simp [Value.ownBlock, e]))⟩, fun k hk => .inl hk⟩
      · simp only [List.size_toArray, List.length_append, List.length_take, List.length_drop, Array.length_toList, Lib.strCells_length]
        omega
      · have ht' : cur.toList.take n = xs := by simpa using htake
        rw [ht', ← hlen]
        exact List.take_left
    · have holds : ∀ j u, xs[j]? = some u → w.cell? ((⟨g, 0, none⟩ : Addr).add j) = some u := hown.cells (g := g) rfl
      have hr := Lib.run_append_grow_string (P := P) w t u ty e i (.int .u8 0) ht hu hi hz ⟨g, 0, none⟩ n cap xs (by rw [hsize]; simpa using hxl) holds s (by omega) (by omega) (by rw [hby]; exact growslice_fits (by omega) (by omega))
      have hge := grownCap_ge w (n + s.size) cap e
      have hcm2 : grownCap w (n + s.size) cap e ≤ maxLen := grownCap_le_maxLen w (n + s.size) cap e h63
      refine ⟨_, _, hr, ⟨hlen, .inr ⟨w.heap.size, _, _, (0, 0), rfl, Nat.zero_le _, heap_alloc_new w.drew _, Nat.zero_le _, hge, hcm2, ?_, ?_⟩⟩, ⟨rfl, rfl, rfl, by simp, fun k hk _ => Below.heap_alloc w.drew _ k hk⟩, fun k hk => .inr (Nat.le_of_eq (Option.some.inj hk))⟩
      · have hz1 : (Value.int IntKind.u8 0).cells.size = 1 := rfl
        simp only [Array.size_append, List.size_toArray, size_zeroCells, hz1, hxl, Lib.strCells_length]
        omega
      · simp only [Array.toList_append, List.append_assoc]
        rw [← List.append_assoc, ← hlen]
        exact List.take_left
theorem wpList_append_strF {ops : Array Oper} {rest : List Oper} {o : Oper} {a : Act} {Q : Exit → Act → World → Prop} (hgd : o.guard = none) (sl x : Operand) (t u : TypeId)
    (ho : o.op = .call { callee := .builtin .append, args := #[sl, x], argTypes := #[t, u] })
    (e : TypeId) (i : TypeInfo) (ht : P.underlying t = some (.slice e)) (hu : P.underlying u = some .string) (hi : P.info? e = some i) (hz : i.zero = some (.int .u8 0))
    (hsize : i.size = 1) (hby : i.bytes = 1)
    (v : Value) (n : Nat) (xs : List Value) (hs : a.eval sl = v) (hown : w.ownsRowF 0 e 1 v n xs) (s : ByteArray) (hx : a.eval x = .string s)
    (h63 : n + s.size ≤ maxLen) (hbytes : n + s.size ≤ 140737488355328)
    (h : ∀ v' w', w'.ownsRowF 0 e 1 v' (n + s.size) (xs ++ Lib.strCells s) → w.grownBy w' v.ownBlock → (∀ k, v'.ownBlock = some k → v.ownBlock = some k ∨ w.heap.size ≤ k) → wpList P ops Q rest (a.put o.dst v') w') : wpList P ops Q (o :: rest) a w := by
  refine wpList_plain hgd fun K hK => ?_
  obtain ⟨v', w', hr, h2, h3, h4⟩ := run_append_strF (P := P) w t u o.type e i ht hu hi hz hsize hby v n xs hown s h63 hbytes
  unfold Oper.wp execOp
  simp only [ho, resolve, invoke, builtin, Sem.run_bind, Sem.run_pure, Result.andThen_ok, List.map_toArray, List.map_cons, List.map_nil, hs, hx, hr]
  exact hK _ _ (h v' w' h2 h3 h4)
end
theorem ownF_move {w w' : World} {base : Nat} {e : TypeId} {size n : Nat} {v : Value} {xs : List Value} (h : w.ownsRowF base e size v n xs) (hm : ∀ k, v.ownBlock = some k → w'.heap[k]? = w.heap[k]?) : w'.ownsRowF base e size v n xs := by
  obtain ⟨h1, h2⟩ := h
  refine ⟨h1, ?_⟩
  rcases h2 with h2 | ⟨g, cap, cur, fz, rfl, hg, hc, h2⟩
  · exact .inl h2
  · exact .inr ⟨g, cap, cur, fz, rfl, hg, (hm g rfl).trans hc, h2⟩
theorem ownF_ne {w : World} {base : Nat} {e T : TypeId} {size n : Nat} {v : Value} {xs : List Value} {b : Nat} {cs : List Value} (h : w.ownsRowF base e size v n xs) (hb : Blk w b cs T) (hne : T ≠ e) : v.ownBlock ≠ some b := by
  rcases h.2 with ⟨rfl, _⟩ | ⟨g, cap, cur, fz, rfl, _, hg, _⟩
  · simp [Value.ownBlock]
  · intro hk
    simp only [Value.ownBlock, Option.some.injEq] at hk
    subst hk
    unfold Blk at hb
    rw [hg] at hb
    simp only [Option.some.injEq, Obj.cells.injEq] at hb
    exact hne hb.2.1.symm
theorem ownF_shape {w : World} {base : Nat} {e : TypeId} {size n : Nat} {v : Value} {xs : List Value} (h : w.ownsRowF base e size v n xs) : ∃ A c, v = .slice A n c := by
  rcases h.2 with ⟨rfl, h0⟩ | ⟨g, cap, cur, fz, rfl, _⟩
  · exact ⟨none, 0, by rw [h0]⟩
  · exact ⟨_, _, rfl⟩
section
variable {w w' : World} {b : Nat} {room : Int} {p v ev : Value} {l s : List UInt8}
/-- the blocks that a writer calls its own -/
def zW (b : Nat) (v : Value) (k : Nat) : Prop := k = b ∨ v.ownBlock = some k
def WSPost (w : World) (b : Nat) (room : Int) (v ev : Value) (l : List UInt8) (n : Nat) (e : Ending) (w' : World) : Prop :=
  e = .returned (.tuple #[.int .i64 (n : Int), .nilIface]) ∧ ∃ v', Blk w' b [.int .i64 room, .pointer (some ⟨b, 1, none⟩), v', ev] 76 ∧ w'.ownsRowF 0 5 1 v' l.length (Lib.byteCells l) ∧ Mods (zW b v) w w' ∧ ∀ k, v'.ownBlock = some k → v.ownBlock = some k ∨ w.heap.size ≤ k
set_option maxRecDepth 100000 in
theorem ws_any (h : Blk w b [.int .i64 room, p, v, ev] 76) (hp : p = .pointer none ∨ p = .pointer (some ⟨b, 1, none⟩)) (hown : w.ownsRowF 0 5 1 v l.length (Lib.byteCells l)) (hlen : l.length + s.length ≤ 140737488355328) :
    Calls Tryd.prog 58 #[.pointer (some ⟨b, 1, none⟩), str s] w (WSPost w b room v ev (l ++ s) s.length) := by
  obtain ⟨i0, hi, hz0, hz1, hz2⟩ := info_parts Tryd.info5
  have hne := ownF_ne hown h (by decide)
  have HC : Hid (Calls Tryd.prog 63 #[.pointer (some ⟨b, 1, none⟩)] w fun e w' => e = .returned (.tuple #[]) ∧ Blk w' b [.int .i64 room, .pointer (some ⟨b, 1, none⟩), v, ev] 76 ∧ w'.ownsRowF 0 5 1 v l.length (Lib.byteCells l) ∧ Mods (fun k => k = b) w w' ∧ w'.heap.size = w.heap.size) := by
    rcases hp with rfl | rfl
    · refine (copy_fresh h).mono ?_
      rintro e w' ⟨rfl, rfl⟩
      exact ⟨rfl, h.set 1 _, ownF_move hown (fun k hk => Below.heap_setCell _ _ _ _ (fun e => hne (by rw [hk, e]))), (Mods.refl (fun k => k = b) w).setCell (p := ⟨b, 1, none⟩) (fun _ => rfl) _, by simp [World.setCell]⟩
    · refine (copy_used h).mono ?_
      rintro e w' ⟨rfl, rfl⟩
      exact ⟨rfl, h, hown, Mods.refl _ _, rfl⟩
  obtain ⟨A, c, hv⟩ := ownF_shape hown
  subst hv
  have hsz : (⟨s.toArray⟩ : ByteArray).size = s.length := size_l s
  clear hown hp h
  go_enter Tryd.func58, Tryd.ntmps58
  go_upto_region 2 with (go_at_call 63; (with_reducible refine HC.out.mono ?_); rintro e w1 ⟨rfl, hk, ho, hm, hs1⟩)
  have c2 := hk.cell 2
  go_wp2_with (at_builtin; refine wpList_append_strF _ rfl (.tmp 12) (.tmp 13) 40 9 rfl 5 i0 Tryd.underlying40 Tryd.underlying9 hi hz0 hz1 hz2 (.slice A l.length c) l.length (Lib.byteCells l) rfl ho ⟨s.toArray⟩ rfl (by rw [hsz]; unfold maxLen; omega) (by rw [hsz]; exact hlen) ?_; intro v2 w2 hown2 hgrow2 hloc2; obtain ⟨A2, c2', rfl⟩ := ownF_shape hown2; have hk2 := hk.grown hgrow2 (fun e => hne e.symm); have f2 := hk2.free 2; have d2 := hk2.cell 2; have l2 := hk2.lt)
  go_ret2
  have hne2 := ownF_ne hown2 hk2 (by decide)
  rw [hsz] at hown2
  refine ⟨rfl, _, hk2.set 2 _, ?_, ?_, fun k hk3 => ?_⟩
  · have e : Lib.byteCells (l ++ s) = Lib.byteCells l ++ Lib.strCells ⟨s.toArray⟩ := by
      rw [Lib.byteCells_append, Lib.strCells_eq]
    rw [e, List.length_append]
    exact ownF_move hown2 (fun k hk3 => Below.heap_setCell _ _ _ _ (fun e => hne2 (by have e2 : k = b := e; rw [← e2]; exact hk3)))
  · exact ((hm.mono (T := zW b (.slice A l.length c)) (fun k _ e => .inl e)).grown hgrow2 (fun k e _ => .inr e)).setCell (p := ⟨b, 2, none⟩) (fun _ => .inl rfl) _
  · rcases hloc2 k hk3 with e | e
    · exact .inl e
    · exact .inr (by omega)
end
end Go.Proofs.YtdccgmfhnofabaaDoor
