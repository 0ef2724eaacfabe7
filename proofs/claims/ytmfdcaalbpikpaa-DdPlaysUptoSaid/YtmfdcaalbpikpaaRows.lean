/-
  No cell of these rows narrows 'for every input' (looked for: loops, veiled, ifaces, maps, wideKeys, modest, calm, conditions, laid).
  DERIVED. THE GIVEN ROWS OF THIS SEAT. 3 by the template 'for every input the law returns true; each argument reads behind the call as it read before'; 0 by the template 'total and deterministic' (their statements: YtmfdcaalbpikpaaTotals.lean).
  GIVEN WITH THE SEED: the statements are not yours to turn. If you find one false, say at which input.
  Laid BY PROGRAM, IN A SANDBOX (cutbox-rows.mjs): the forced cells as the released guide's own fill.sh prints them over the translation b309a1ae7e9519af… (all of the seat's roots in one cut). By AI agents, Wed Nov 11 2026. No macro, syntax, notation, axiom, sorry.
-/
import Derived.Test.YtmfdcaalbpikpaaChecked
import GoSem.Claim
import GoSem.ClaimJoined
import GoSem.ClaimMapViews
import Derived.JoinedTies
import Derived.KernelRfl
namespace Go.Proofs.Ytmfdcaalbpikpaa
/- THE CELL 'sum', in the pinned program and in every row, IS THE sha256 OF THE DUMP (.gsa) THAT YtmfdcaalbpikpaaProg.lean LOADS. Nothing in Lean hashes anything: it is a label: what it is worth is what the hold of that sum in a sandbox is worth. -/
noncomputable def Try.pinned : Pinned := { name := "ytmfdcaalbpikpaa", sum := "b309a1ae7e9519af6ba38363ffcdaa2a966e90368922ac277fe6349bc37c18a2", checked := Try.checked }
namespace Rows
def none {H : Type} : Left H := { results := [], args := [] }

/-- 'lychgatelaw15.DdTables': WHATEVER THE INPUT: true; the input reads as it did. -/
def ddTablesSpec : ChangeSpec := { name := "ddTables", fn := fun _ => fun
  | [d1, d2] => { results := [.lit (.bool true)], args := [d1, d2] }
  | _ => none }
def ddTablesRow : OpenClaim := { program := "ytmfdcaalbpikpaa", sum := "b309a1ae7e9519af6ba38363ffcdaa2a966e90368922ac277fe6349bc37c18a2", func := "lychgate/lychgatelaw15.DdTables", spec := "ddTables", unfollowed := true, recurses := true, plainKeys := false, apart := false }
def DdTablesSaid : Prop := ddTablesRow.holds Try.pinned (OpenSpec.ofChange ddTablesSpec)

/-- ITS FALSE NEIGHBOUR: 'it returns false'. Refute it at one input. -/
def ddTablesWrong : ChangeSpec := { name := "ddTables", fn := fun _ => fun
  | [d1, d2] => { results := [.lit (.bool false)], args := [d1, d2] }
  | _ => none }
def DdTablesWrongFalsely : Prop := ddTablesRow.holds Try.pinned (OpenSpec.ofChange ddTablesWrong)

/-- 'lychgatelaw15.DdLaws': WHATEVER THE INPUT: true; the input reads as it did. -/
def ddLawsSpec : ChangeSpec := { name := "ddLaws", fn := fun _ => fun
  | [d1, d2, d3] => { results := [.lit (.bool true)], args := [d1, d2, d3] }
  | _ => none }
def ddLawsRow : OpenClaim := { program := "ytmfdcaalbpikpaa", sum := "b309a1ae7e9519af6ba38363ffcdaa2a966e90368922ac277fe6349bc37c18a2", func := "lychgate/lychgatelaw15.DdLaws", spec := "ddLaws", unfollowed := true, recurses := true, plainKeys := false, apart := false }
def DdLawsSaid : Prop := ddLawsRow.holds Try.pinned (OpenSpec.ofChange ddLawsSpec)

/-- ITS FALSE NEIGHBOUR: 'it returns false'. Refute it at one input. -/
def ddLawsWrong : ChangeSpec := { name := "ddLaws", fn := fun _ => fun
  | [d1, d2, d3] => { results := [.lit (.bool false)], args := [d1, d2, d3] }
  | _ => none }
def DdLawsWrongFalsely : Prop := ddLawsRow.holds Try.pinned (OpenSpec.ofChange ddLawsWrong)

/-- 'lychgatelaw15.DdPlays': WHATEVER THE INPUT: true; the input reads as it did. -/
def ddPlaysSpec : ChangeSpec := { name := "ddPlays", fn := fun _ => fun
  | [d1, d2, d3] => { results := [.lit (.bool true)], args := [d1, d2, d3] }
  | _ => none }
def ddPlaysRow : OpenClaim := { program := "ytmfdcaalbpikpaa", sum := "b309a1ae7e9519af6ba38363ffcdaa2a966e90368922ac277fe6349bc37c18a2", func := "lychgate/lychgatelaw15.DdPlays", spec := "ddPlays", unfollowed := true, recurses := true, plainKeys := false, apart := false }
def DdPlaysSaid : Prop := ddPlaysRow.holds Try.pinned (OpenSpec.ofChange ddPlaysSpec)

/-- ITS FALSE NEIGHBOUR: 'it returns false'. Refute it at one input. -/
def ddPlaysWrong : ChangeSpec := { name := "ddPlays", fn := fun _ => fun
  | [d1, d2, d3] => { results := [.lit (.bool false)], args := [d1, d2, d3] }
  | _ => none }
def DdPlaysWrongFalsely : Prop := ddPlaysRow.holds Try.pinned (OpenSpec.ofChange ddPlaysWrong)

/- THE SECOND FORM. 'bulk': how many values and letters a reading holds, each counted each time it is reached (what is shared counts as often as it is met; a slice's spare places count too). A statement '..UptoSaid' is the law's where the arguments, and the package variables that the reading takes, are together of bulk at most 1048576: NARROWER than '..Said'. Prove '..Said' where nothing that the law and all that it calls make is longer than what came in: it says more and counts as full. Else prove '..UptoSaid'. A law counts once. -/
mutual
def uptoBulk {H : Type} : DataW H → Nat
  | .lit (.string bytes) => bytes.length + 1
  | .lit _ => 1
  | .nil => 1
  | .ptr d => uptoBulk d + 1
  | .slice elems spare => uptoBulkAll elems + uptoBulkAll spare + 1
  | .agg parts => uptoBulkAll parts + 1
  | .iface _ d => uptoBulk d + 1
  | .map entries => uptoBulkEntries entries + 1
  | .held _ => 1
def uptoBulkAll {H : Type} : List (DataW H) → Nat
  | [] => 0
  | d :: r => uptoBulk d + uptoBulkAll r
def uptoBulkEntries {H : Type} : List (Lit × DataW H) → Nat
  | [] => 0
  | x :: r => uptoBulkEntry x + uptoBulkEntries r
def uptoBulkEntry {H : Type} : Lit × DataW H → Nat
  | (.string bytes, d) => bytes.length + uptoBulk d + 1
  | (_, d) => uptoBulk d + 1
 end
def uptoSmall : (H : Type) → List (DataW H) → Bool := fun _ ds => decide (uptoBulkAll ds ≤ 1048576)
def OpenSpec.upto (s : _root_.Go.ChangeSpec) : _root_.Go.OpenSpec := { _root_.Go.OpenSpec.ofChange s with cond := some uptoSmall }

/-- 'lychgatelaw15.DdTables', WHERE WHAT IT READS IS OF BULK AT MOST 1048576: true; the input reads as it did. -/
def ddTablesUptoRow : OpenClaim := { program := "ytmfdcaalbpikpaa", sum := "b309a1ae7e9519af6ba38363ffcdaa2a966e90368922ac277fe6349bc37c18a2", func := "lychgate/lychgatelaw15.DdTables", spec := "ddTables", unfollowed := true, recurses := true, plainKeys := false, apart := false, narrowed := true }
def DdTablesUptoSaid : Prop := ddTablesUptoRow.holds Try.pinned (OpenSpec.upto ddTablesSpec)

/-- 'lychgatelaw15.DdLaws', WHERE WHAT IT READS IS OF BULK AT MOST 1048576: true; the input reads as it did. -/
def ddLawsUptoRow : OpenClaim := { program := "ytmfdcaalbpikpaa", sum := "b309a1ae7e9519af6ba38363ffcdaa2a966e90368922ac277fe6349bc37c18a2", func := "lychgate/lychgatelaw15.DdLaws", spec := "ddLaws", unfollowed := true, recurses := true, plainKeys := false, apart := false, narrowed := true }
def DdLawsUptoSaid : Prop := ddLawsUptoRow.holds Try.pinned (OpenSpec.upto ddLawsSpec)

/-- 'lychgatelaw15.DdPlays', WHERE WHAT IT READS IS OF BULK AT MOST 1048576: true; the input reads as it did. -/
def ddPlaysUptoRow : OpenClaim := { program := "ytmfdcaalbpikpaa", sum := "b309a1ae7e9519af6ba38363ffcdaa2a966e90368922ac277fe6349bc37c18a2", func := "lychgate/lychgatelaw15.DdPlays", spec := "ddPlays", unfollowed := true, recurses := true, plainKeys := false, apart := false, narrowed := true }
def DdPlaysUptoSaid : Prop := ddPlaysUptoRow.holds Try.pinned (OpenSpec.upto ddPlaysSpec)

end Rows
end Go.Proofs.Ytmfdcaalbpikpaa
