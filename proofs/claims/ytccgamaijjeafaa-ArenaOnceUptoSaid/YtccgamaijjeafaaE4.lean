/- Both arenas side by side. -/
import Derived.Test.YtccgamaijjeafaaA9
import Derived.Test.YtccgamaijjeafaaC4
import Derived.Test.YtccgamaijjeafaaC6
import Derived.Test.YtccgamaijjeafaaC8
import Derived.Test.YtccgamaijjeafaaE3
namespace Go.Proofs.Ytccgamaijjeafaa
open Go.RowKit
set_option linter.unusedVariables false
set_option linter.unusedSimpArgs false
section
variable {w w' : World} {a b : Nat} {S : List Int} {M : Int} {N : List Nd} {z za zx : List Nat} {ks : List Int} {A : Option Addr} {c : Nat}
theorem PAt.zlt (h : PAt w b S M N z) : ∀ k ∈ z, k < w.heap.size := by obtain ⟨L, nv, sv, mb, cz, h, rfl, rfl⟩ := h; exact fun k hk => h.zlt hk
theorem RAt.zlt (h : RAt w b S M N z) : ∀ k ∈ z, k < w.heap.size := by obtain ⟨L, nv, sv, lv, rows, cz, h, rfl, rfl⟩ := h; exact fun k hk => h.zlt hk
theorem PAt.move (h : PAt w b S M N z) (hs : w.heap.size ≤ w'.heap.size) (hm : ∀ k ∈ z, w'.heap[k]? = w.heap[k]?) : PAt w' b S M N z := by obtain ⟨L, nv, sv, mb, cz, h, rfl, rfl⟩ := h; exact ⟨L, nv, sv, mb, cz, h.move hs hm, rfl, rfl⟩
theorem RAt.move (h : RAt w b S M N z) (hs : w.heap.size ≤ w'.heap.size) (hm : ∀ k ∈ z, w'.heap[k]? = w.heap[k]?) : RAt w' b S M N z := by obtain ⟨L, nv, sv, lv, rows, cz, h, rfl, rfl⟩ := h; exact ⟨L, nv, sv, lv, rows, cz, h.move hs hm, rfl, rfl⟩
theorem PAt.mem (h : PAt w b S M N z) : b ∈ z := by obtain ⟨L, nv, sv, mb, cz, h, rfl, rfl⟩ := h; exact mem_pz.2 (.inl rfl)
theorem RAt.mem (h : RAt w b S M N z) : b ∈ z := by obtain ⟨L, nv, sv, lv, rows, cz, h, rfl, rfl⟩ := h; exact mem_rz.2 (.inl rfl)
theorem PAt.good (h : PAt w b S M N z) : Good S M N := by obtain ⟨L, nv, sv, mb, cz, h, rfl, rfl⟩ := h; exact h.good
theorem RAt.good (h : RAt w b S M N z) : Good S M N := by obtain ⟨L, nv, sv, lv, rows, cz, h, rfl, rfl⟩ := h; exact h.good
theorem make_at (h : PAt w b S M N z) (lv : Int) (hk : IntsIn w A ks) (hA : ∀ g o, A = some ⟨g, o, none⟩ → g < w.heap.size) :
    Calls Try.prog 18 #[.pointer (some ⟨b, 0, none⟩), .int .i64 lv, .slice A ks.length c] w fun e w' => e = .returned (.tuple #[.int .i64 (makeA S M N lv ks).2.1, .int .i64 (makeA S M N lv ks).2.2]) ∧ Grew w w' b S M (makeA S M N lv ks).1 z := by
  obtain ⟨L, nv, sv, mb, cz, h, rfl, rfl⟩ := h
  exact (make_pa h lv hk hA).mono fun e w' h => h
theorem rmake_at (h : RAt w b S M N z) (lv : Int) (hk : IntsIn w A ks) :
    Calls Try.prog 36 #[.pointer (some ⟨b, 0, none⟩), .int .i64 lv, .slice A ks.length c] w fun e w' => e = .returned (.tuple #[.int .i64 (makeA S M N lv ks).2.1, .int .i64 (makeA S M N lv ks).2.2]) ∧ RGrew w w' b S M (makeA S M N lv ks).1 z := by
  obtain ⟨L, nv, sv, v, rows, cz, h, rfl, rfl⟩ := h
  cases hsh : shapeA S lv ks.length with
  | false => exact (rmake_err h lv hk hsh).mono fun e w' h => h
  | true =>
    obtain ⟨h0, h1, h2⟩ := shape_iff.1 hsh
    obtain ⟨i, rfl⟩ : ∃ i : Nat, lv = (i : Int) := ⟨lv.toNat, by omega⟩
    have hi : i < S.length := by omega
    rw [Int.toNat_natCast, getD_mem hi] at h2
    exact (rmake_ok h i hi hk h2).mono fun e w' h => h
/-- an arena and the document's, with the same nodes; z: all their blocks -/
structure SideAt (w : World) (a b : Nat) (S : List Int) (M : Int) (N : List Nd) (z : List Nat) : Prop where
  ex : ∃ za zx, PAt w a S M N za ∧ RAt w b S M N zx ∧ (∀ k ∈ za, k ∉ zx) ∧ ∀ k, k ∈ z ↔ k ∈ za ∨ k ∈ zx
theorem SideAt.zlt (h : SideAt w a b S M N z) : ∀ k ∈ z, k < w.heap.size := by
  obtain ⟨za, zx, h1, h2, h3, h4⟩ := h.ex
  intro k hk
  rcases (h4 k).1 hk with e | e
  · exact h1.zlt k e
  · exact h2.zlt k e
theorem SideAt.move (h : SideAt w a b S M N z) (hs : w.heap.size ≤ w'.heap.size) (hm : ∀ k ∈ z, w'.heap[k]? = w.heap[k]?) : SideAt w' a b S M N z := by
  obtain ⟨za, zx, h1, h2, h3, h4⟩ := h.ex
  exact ⟨za, zx, h1.move hs (fun k hk => hm k ((h4 k).2 (.inl hk))), h2.move hs (fun k hk => hm k ((h4 k).2 (.inr hk))), h3, h4⟩
theorem SideAt.new (h : SideAt w a b S M N z) (hb : Below w.heap.size w w') : SideAt w' a b S M N z := h.move hb.size fun k hk => hb.block k (h.zlt k hk)
theorem SideAt.good (h : SideAt w a b S M N z) : Good S M N := by obtain ⟨za, zx, h1, _⟩ := h.ex; exact h1.good
theorem SideAt.sized (h : SideAt w a b S M N z) : Sized S M := h.good.toSized
def SideGrew (w w' : World) (a b : Nat) (S : List Int) (M : Int) (N : List Nd) (z : List Nat) : Prop := ∃ z', SideAt w' a b S M N z' ∧ Mods (· ∈ z) w w' ∧ ∀ k ∈ z', k ∈ z ∨ w.heap.size ≤ k
theorem SideAt.same (h : SideAt w a b S M N z) (hb : Below w.heap.size w w') : SideGrew w w' a b S M N z := ⟨z, h.new hb, Mods.of_new hb, fun k hk => .inl hk⟩
/-- the program's one has done a thing, then the document's -/
theorem SideAt.both (hP : PAt w a S M N za) (hR : RAt w b S M N zx) (hd : ∀ k ∈ za, k ∉ zx) (hz : ∀ k, k ∈ z ↔ k ∈ za ∨ k ∈ zx) {N' : List Nd} {w1 w2 w3 w4 : World} (h1 : Below w.heap.size w w1) (g1 : Grew w1 w2 a S M N' za) (h2 : Below w2.heap.size w2 w3)
    (g2 : RGrew w3 w4 b S M N' zx) : SideGrew w w4 a b S M N' z := by
  obtain ⟨za', p1, m1, s1⟩ := g1
  obtain ⟨zx', p2, m2, s2⟩ := g2
  have hs1 := h1.size
  have hs2 := m1.size
  have hs3 := h2.size
  have hs4 := m2.size
  have hxl := hR.zlt
  have hd' : ∀ k ∈ za', k ∉ zx := fun k hk hk2 => by
    rcases s1 k hk with e | e
    · exact hd k e hk2
    · have := hxl k hk2; omega
  refine ⟨za' ++ zx', ⟨za', zx', p1.move (by omega) (fun k hk => ?_), p2, fun k hk hk2 => ?_, fun k => List.mem_append⟩, ?_, fun k hk => ?_⟩
  · have := p1.zlt k hk
    rw [m2.block k (by omega) (hd' k hk), h2.block k this]
  · have := p1.zlt k hk
    rcases s2 k hk2 with e | e
    · exact hd' k hk e
    · omega
  · have t1 : Mods (· ∈ z) w w1 := Mods.of_new h1
    have t2 := t1.trans m1 (fun k _ e => (hz k).2 (.inl e))
    have t3 := t2.then_new h2
    exact t3.trans m2 (fun k _ e => (hz k).2 (.inr e))
  · rcases List.mem_append.1 hk with e | e
    · rcases s1 k e with e | e
      · exact .inl ((hz k).2 (.inl e))
      · exact .inr (by omega)
    · rcases s2 k e with e | e
      · exact .inl ((hz k).2 (.inr e))
      · exact .inr (by omega)
theorem SideGrew.then_new {w2 : World} (h : SideGrew w w' a b S M N z) (hb : Below w'.heap.size w' w2) : SideGrew w w2 a b S M N z := by
  obtain ⟨z', h1, h2, h3⟩ := h
  exact ⟨z', h1.new hb, h2.then_new hb, h3⟩
theorem SideGrew.end_ {w0 w1 w2 w3 : World} {go : Nat} (h0 : Below w0.heap.size w0 w1) (h : SideGrew w1 w2 a b S M N z) (hz : ∀ k ∈ z, k < w0.heap.size) (hm : Mods (· = go) w2 w3) (hgo : w0.heap.size ≤ go) (hg1 : go < w1.heap.size) : SideGrew w0 w3 a b S M N z := by
  obtain ⟨z', h1, h2, h3⟩ := h
  have s0 := h0.size
  have hne : ∀ k ∈ z', k ≠ go := fun k hk e => by
    rcases h3 k hk with e2 | e2
    · have := hz k e2; omega
    · omega
  refine ⟨z', h1.move hm.size (fun k hk => hm.block k (h1.zlt k hk) (hne k hk)), ?_, fun k hk => ?_⟩
  · have t1 : Mods (· ∈ z) w0 w1 := Mods.of_new h0
    have t2 := t1.trans h2 (fun k _ e => e)
    exact t2.trans hm (fun k hk e => by omega)
  · rcases h3 k hk with e2 | e2
    · exact .inl e2
    · exact .inr (by omega)
theorem kids_any {B : Nat} {o : OpV} (hB : B ≤ w.heap.size) (h : RAt w b S M N z) (ho : OpOk w B o) : Calls Try.prog 35 #[.agg #[.pointer (some ⟨a, 0, none⟩), .pointer (some ⟨b, 0, none⟩)], o.agg] w (KidsPost w B) := by
  obtain ⟨L, nv, sv, lv, rows, cz, h, rfl, rfl⟩ := h
  cases hn : o.near with
  | false => exact (kids_far hB ho hn).mono fun e w' ⟨v, h1, h2, h3⟩ => ⟨v, _, h1, h2, h3⟩
  | true => exact kids_near hB h ho hn
end
end Go.Proofs.Ytccgamaijjeafaa
