/-
  No cell of these rows narrows 'for every input' (looked for: loops, veiled, ifaces, maps, wideKeys, modest, calm, conditions, laid).
  DERIVED. THE GIVEN ROWS OF THIS SEAT. 4 by the template 'for every input the law returns true; each argument reads behind the call as it read before'; 0 by the template 'total and deterministic' (their statements: YtphmmpdeehfhjaaTotals.lean).
  GIVEN WITH THE SEED: the statements are not yours to turn. If you find one false, say at which input.
  Laid BY PROGRAM, IN A SANDBOX (cutbox-rows.mjs): the forced cells as the released guide's own fill.sh prints them over the translation a2724825866fd65f… (all of the seat's roots in one cut). By AI agents, Wed Nov 11 2026. No macro, syntax, notation, axiom, sorry.
-/
import Derived.Test.YtphmmpdeehfhjaaChecked
import GoSem.Claim
import GoSem.ClaimJoined
import GoSem.ClaimMapViews
import Derived.JoinedTies
import Derived.KernelRfl
namespace Go.Proofs.Ytphmmpdeehfhjaa
/- THE CELL 'sum', in the pinned program and in every row, IS THE sha256 OF THE DUMP (.gsa) THAT YtphmmpdeehfhjaaProg.lean LOADS. Nothing in Lean hashes anything: it is a label: what it is worth is what the hold of that sum in a sandbox is worth. -/
noncomputable def Try.pinned : Pinned := { name := "ytphmmpdeehfhjaa", sum := "a2724825866fd65f9f30ecdac2d7827ba9e7ce0f638be59a7cf2989d2e9f6243", checked := Try.checked }
namespace Rows
def none {H : Type} : Left H := { results := [], args := [] }

/-- 'lychgatelaw04.TriePlays': WHATEVER THE INPUT: true; the input reads as it did. -/
def triePlaysSpec : ChangeSpec := { name := "triePlays", fn := fun _ => fun
  | [d] => { results := [.lit (.bool true)], args := [d] }
  | _ => none }
def triePlaysRow : OpenClaim := { program := "ytphmmpdeehfhjaa", sum := "a2724825866fd65f9f30ecdac2d7827ba9e7ce0f638be59a7cf2989d2e9f6243", func := "lychgate/lychgatelaw04.TriePlays", spec := "triePlays", unfollowed := true, recurses := true, apart := false }
def TriePlaysSaid : Prop := triePlaysRow.holds Try.pinned (OpenSpec.ofChange triePlaysSpec)

/-- ITS FALSE NEIGHBOUR: 'it returns false'. Refute it at one input. -/
def triePlaysWrong : ChangeSpec := { name := "triePlays", fn := fun _ => fun
  | [d] => { results := [.lit (.bool false)], args := [d] }
  | _ => none }
def TriePlaysWrongFalsely : Prop := triePlaysRow.holds Try.pinned (OpenSpec.ofChange triePlaysWrong)

/-- 'lychgatelaw04.TrieMakes': WHATEVER THE INPUT: true; the input reads as it did. -/
def trieMakesSpec : ChangeSpec := { name := "trieMakes", fn := fun _ => fun
  | [d] => { results := [.lit (.bool true)], args := [d] }
  | _ => none }
def trieMakesRow : OpenClaim := { program := "ytphmmpdeehfhjaa", sum := "a2724825866fd65f9f30ecdac2d7827ba9e7ce0f638be59a7cf2989d2e9f6243", func := "lychgate/lychgatelaw04.TrieMakes", spec := "trieMakes", unfollowed := true, recurses := true, apart := false }
def TrieMakesSaid : Prop := trieMakesRow.holds Try.pinned (OpenSpec.ofChange trieMakesSpec)

/-- ITS FALSE NEIGHBOUR: 'it returns false'. Refute it at one input. -/
def trieMakesWrong : ChangeSpec := { name := "trieMakes", fn := fun _ => fun
  | [d] => { results := [.lit (.bool false)], args := [d] }
  | _ => none }
def TrieMakesWrongFalsely : Prop := trieMakesRow.holds Try.pinned (OpenSpec.ofChange trieMakesWrong)

/-- 'lychgatelaw04.TrieLast': WHATEVER THE INPUT: true; the input reads as it did. -/
def trieLastSpec : ChangeSpec := { name := "trieLast", fn := fun _ => fun
  | [d1, d2, d3] => { results := [.lit (.bool true)], args := [d1, d2, d3] }
  | _ => none }
def trieLastRow : OpenClaim := { program := "ytphmmpdeehfhjaa", sum := "a2724825866fd65f9f30ecdac2d7827ba9e7ce0f638be59a7cf2989d2e9f6243", func := "lychgate/lychgatelaw04.TrieLast", spec := "trieLast", unfollowed := true, recurses := true, apart := false }
def TrieLastSaid : Prop := trieLastRow.holds Try.pinned (OpenSpec.ofChange trieLastSpec)

/-- ITS FALSE NEIGHBOUR: 'it returns false'. Refute it at one input. -/
def trieLastWrong : ChangeSpec := { name := "trieLast", fn := fun _ => fun
  | [d1, d2, d3] => { results := [.lit (.bool false)], args := [d1, d2, d3] }
  | _ => none }
def TrieLastWrongFalsely : Prop := trieLastRow.holds Try.pinned (OpenSpec.ofChange trieLastWrong)

/-- 'lychgatelaw04.TrieSame': WHATEVER THE INPUT: true; the input reads as it did. -/
def trieSameSpec : ChangeSpec := { name := "trieSame", fn := fun _ => fun
  | [d1, d2, d3] => { results := [.lit (.bool true)], args := [d1, d2, d3] }
  | _ => none }
def trieSameRow : OpenClaim := { program := "ytphmmpdeehfhjaa", sum := "a2724825866fd65f9f30ecdac2d7827ba9e7ce0f638be59a7cf2989d2e9f6243", func := "lychgate/lychgatelaw04.TrieSame", spec := "trieSame", unfollowed := true, recurses := true, apart := false }
def TrieSameSaid : Prop := trieSameRow.holds Try.pinned (OpenSpec.ofChange trieSameSpec)

/-- ITS FALSE NEIGHBOUR: 'it returns false'. Refute it at one input. -/
def trieSameWrong : ChangeSpec := { name := "trieSame", fn := fun _ => fun
  | [d1, d2, d3] => { results := [.lit (.bool false)], args := [d1, d2, d3] }
  | _ => none }
def TrieSameWrongFalsely : Prop := trieSameRow.holds Try.pinned (OpenSpec.ofChange trieSameWrong)

/- THE SECOND FORM. 'bulk': how many values and letters a reading holds, each counted each time it is reached (what is shared counts as often as it is met; a slice's spare places count too). A statement '..UptoSaid' is the law's where the arguments, and the package variables that the reading takes, are together of bulk at most 1048576: NARROWER than '..Said'. Prove '..Said' where nothing that the law and all that it calls make is longer than what came in: it says more and counts as full. Else prove '..UptoSaid'. A law counts once. -/
mutual
def uptoBulk {H : Type} : DataW H → Nat
  | .lit (.string bytes) => bytes.length + 1
  | .lit _ => 1
  | .nil => 1
  | .ptr d => uptoBulk d + 1
  | .slice elems spare => uptoBulkAll elems + uptoBulkAll spare + 1
  | .agg parts => uptoBulkAll parts + 1
  | .iface _ d => uptoBulk d + 1
  | .map entries => uptoBulkEntries entries + 1
  | .held _ => 1
def uptoBulkAll {H : Type} : List (DataW H) → Nat
  | [] => 0
  | d :: r => uptoBulk d + uptoBulkAll r
def uptoBulkEntries {H : Type} : List (Lit × DataW H) → Nat
  | [] => 0
  | x :: r => uptoBulkEntry x + uptoBulkEntries r
def uptoBulkEntry {H : Type} : Lit × DataW H → Nat
  | (.string bytes, d) => bytes.length + uptoBulk d + 1
  | (_, d) => uptoBulk d + 1
 end
def uptoSmall : (H : Type) → List (DataW H) → Bool := fun _ ds => decide (uptoBulkAll ds ≤ 1048576)
def OpenSpec.upto (s : _root_.Go.ChangeSpec) : _root_.Go.OpenSpec := { _root_.Go.OpenSpec.ofChange s with cond := some uptoSmall }

/-- 'lychgatelaw04.TriePlays', WHERE WHAT IT READS IS OF BULK AT MOST 1048576: true; the input reads as it did. -/
def triePlaysUptoRow : OpenClaim := { program := "ytphmmpdeehfhjaa", sum := "a2724825866fd65f9f30ecdac2d7827ba9e7ce0f638be59a7cf2989d2e9f6243", func := "lychgate/lychgatelaw04.TriePlays", spec := "triePlays", unfollowed := true, recurses := true, apart := false, narrowed := true }
def TriePlaysUptoSaid : Prop := triePlaysUptoRow.holds Try.pinned (OpenSpec.upto triePlaysSpec)

/-- 'lychgatelaw04.TrieMakes', WHERE WHAT IT READS IS OF BULK AT MOST 1048576: true; the input reads as it did. -/
def trieMakesUptoRow : OpenClaim := { program := "ytphmmpdeehfhjaa", sum := "a2724825866fd65f9f30ecdac2d7827ba9e7ce0f638be59a7cf2989d2e9f6243", func := "lychgate/lychgatelaw04.TrieMakes", spec := "trieMakes", unfollowed := true, recurses := true, apart := false, narrowed := true }
def TrieMakesUptoSaid : Prop := trieMakesUptoRow.holds Try.pinned (OpenSpec.upto trieMakesSpec)

/-- 'lychgatelaw04.TrieLast', WHERE WHAT IT READS IS OF BULK AT MOST 1048576: true; the input reads as it did. -/
def trieLastUptoRow : OpenClaim := { program := "ytphmmpdeehfhjaa", sum := "a2724825866fd65f9f30ecdac2d7827ba9e7ce0f638be59a7cf2989d2e9f6243", func := "lychgate/lychgatelaw04.TrieLast", spec := "trieLast", unfollowed := true, recurses := true, apart := false, narrowed := true }
def TrieLastUptoSaid : Prop := trieLastUptoRow.holds Try.pinned (OpenSpec.upto trieLastSpec)

/-- 'lychgatelaw04.TrieSame', WHERE WHAT IT READS IS OF BULK AT MOST 1048576: true; the input reads as it did. -/
def trieSameUptoRow : OpenClaim := { program := "ytphmmpdeehfhjaa", sum := "a2724825866fd65f9f30ecdac2d7827ba9e7ce0f638be59a7cf2989d2e9f6243", func := "lychgate/lychgatelaw04.TrieSame", spec := "trieSame", unfollowed := true, recurses := true, apart := false, narrowed := true }
def TrieSameUptoSaid : Prop := trieSameUptoRow.holds Try.pinned (OpenSpec.upto trieSameSpec)

end Rows
end Go.Proofs.Ytphmmpdeehfhjaa
