/-
  DERIVED. GIVEN WITH THE SEED: THE CARDS: each row of YtdccgmfhnofabaaDoorRows.lean that lists a variable, with what it lists TIED to the program's text (the seventh form; the later family's looks); each row that meets fmt, with fmt's text TOLD by the authors' own Lean function (tested against real Go, not proved from fmt's source: count such statements apart). THE CARD IS WHAT COUNTS. Prove the row's statement (the work); the ties are given (YtdccgmfhnofabaaDoorTie.lean); close each card by the builder's one call (the guide's Derived/Test/ToyasCard.lean, 'card_holds'). Laid BY PROGRAM, IN A SANDBOX (cutbox-door.mjs). By AI agents, Wed Nov 11 2026. No macro, syntax, notation, axiom, sorry.
-/
import Derived.Test.YtdccgmfhnofabaaDoorRows
import GoSem.ClaimSeven
namespace Go.Proofs.YtdccgmfhnofabaaDoor
namespace Rows

/-- THE TIED CARD OF 'lychgatelaw01.CodecSums'. -/
def codecSumsCard : Claim7 := { stood := { row := codecSumsRow, standIns := [], harness := (true, "3b9221b84b6c107eef499f20e42d26b13b49c35e7ee30facdcd4536e583ce7ad"), looks := true }, kinds := [], alts := [], laidByText := true, laidKinds := [.handle], laidTests := true, laidLooks := .later }
def CodecSumsCardSaid : Prop := Claim7.holds Tryd.pinned (.plain (OpenSpec.ofChange codecSumsSpec)) codecSumsCard

/-- THE TIED CARD OF 'lychgatelaw01.CodecWrites'. -/
def codecWritesCard : Claim7 := { stood := { row := codecWritesRow, standIns := [], harness := (true, "3b9221b84b6c107eef499f20e42d26b13b49c35e7ee30facdcd4536e583ce7ad"), looks := true }, kinds := [], alts := [], laidByText := true, laidKinds := [.handle], laidTests := true, laidLooks := .later }
def CodecWritesCardSaid : Prop := Claim7.holds Tryd.pinned (.plain (OpenSpec.ofChange codecWritesSpec)) codecWritesCard

/-- THE TIED CARD OF 'lychgatelaw01.CodecTurned'. -/
def codecTurnedCard : Claim7 := { stood := { row := codecTurnedRow, standIns := [], harness := (true, "3b9221b84b6c107eef499f20e42d26b13b49c35e7ee30facdcd4536e583ce7ad"), looks := true }, kinds := [], alts := [], laidByText := true, laidKinds := [.handle], laidTests := true, laidLooks := .later }
def CodecTurnedCardSaid : Prop := Claim7.holds Tryd.pinned (.plain (OpenSpec.ofChange codecTurnedSpec)) codecTurnedCard

/-- THE TIED CARD OF 'lychgatelaw01.CodecReads'. -/
def codecReadsCard : Claim7 := { stood := { row := codecReadsRow, standIns := [], harness := (true, "3b9221b84b6c107eef499f20e42d26b13b49c35e7ee30facdcd4536e583ce7ad"), looks := true }, kinds := [], alts := [], laidByText := true, laidKinds := [.handle], laidTests := true, laidLooks := .later }
def CodecReadsCardSaid : Prop := Claim7.holds Tryd.pinned (.plain (OpenSpec.ofChange codecReadsSpec)) codecReadsCard

/-- THE TIED CARD OF 'lychgatelaw01.CodecBack'. -/
def codecBackCard : Claim7 := { stood := { row := codecBackRow, standIns := [], harness := (true, "3b9221b84b6c107eef499f20e42d26b13b49c35e7ee30facdcd4536e583ce7ad"), looks := true }, kinds := [], alts := [], laidByText := true, laidKinds := [.handle], laidTests := true, laidLooks := .later }
def CodecBackCardSaid : Prop := Claim7.holds Tryd.pinned (.plain (OpenSpec.ofChange codecBackSpec)) codecBackCard

/-- THE TIED CARD OF 'lychgatelaw01.CodecAgain'. -/
def codecAgainCard : Claim7 := { stood := { row := codecAgainRow, standIns := [], harness := (true, "3b9221b84b6c107eef499f20e42d26b13b49c35e7ee30facdcd4536e583ce7ad"), looks := true }, kinds := [], alts := [], laidByText := true, laidKinds := [.handle], laidTests := true, laidLooks := .later }
def CodecAgainCardSaid : Prop := Claim7.holds Tryd.pinned (.plain (OpenSpec.ofChange codecAgainSpec)) codecAgainCard

/-- THE SECOND FORM's CARD OF 'lychgatelaw01.CodecSums'. -/
def codecSumsUptoCard : Claim7 := { stood := { row := codecSumsUptoRow, standIns := [], harness := (true, "3b9221b84b6c107eef499f20e42d26b13b49c35e7ee30facdcd4536e583ce7ad"), looks := true }, kinds := [], alts := [], laidByText := true, laidKinds := [.handle], laidTests := true, laidLooks := .later }
def CodecSumsUptoCardSaid : Prop := Claim7.holds Tryd.pinned (.plain (OpenSpec.upto codecSumsSpec)) codecSumsUptoCard

/-- THE SECOND FORM's CARD OF 'lychgatelaw01.CodecWrites'. -/
def codecWritesUptoCard : Claim7 := { stood := { row := codecWritesUptoRow, standIns := [], harness := (true, "3b9221b84b6c107eef499f20e42d26b13b49c35e7ee30facdcd4536e583ce7ad"), looks := true }, kinds := [], alts := [], laidByText := true, laidKinds := [.handle], laidTests := true, laidLooks := .later }
def CodecWritesUptoCardSaid : Prop := Claim7.holds Tryd.pinned (.plain (OpenSpec.upto codecWritesSpec)) codecWritesUptoCard

/-- THE SECOND FORM's CARD OF 'lychgatelaw01.CodecTurned'. -/
def codecTurnedUptoCard : Claim7 := { stood := { row := codecTurnedUptoRow, standIns := [], harness := (true, "3b9221b84b6c107eef499f20e42d26b13b49c35e7ee30facdcd4536e583ce7ad"), looks := true }, kinds := [], alts := [], laidByText := true, laidKinds := [.handle], laidTests := true, laidLooks := .later }
def CodecTurnedUptoCardSaid : Prop := Claim7.holds Tryd.pinned (.plain (OpenSpec.upto codecTurnedSpec)) codecTurnedUptoCard

/-- THE SECOND FORM's CARD OF 'lychgatelaw01.CodecReads'. -/
def codecReadsUptoCard : Claim7 := { stood := { row := codecReadsUptoRow, standIns := [], harness := (true, "3b9221b84b6c107eef499f20e42d26b13b49c35e7ee30facdcd4536e583ce7ad"), looks := true }, kinds := [], alts := [], laidByText := true, laidKinds := [.handle], laidTests := true, laidLooks := .later }
def CodecReadsUptoCardSaid : Prop := Claim7.holds Tryd.pinned (.plain (OpenSpec.upto codecReadsSpec)) codecReadsUptoCard

/-- THE SECOND FORM's CARD OF 'lychgatelaw01.CodecBack'. -/
def codecBackUptoCard : Claim7 := { stood := { row := codecBackUptoRow, standIns := [], harness := (true, "3b9221b84b6c107eef499f20e42d26b13b49c35e7ee30facdcd4536e583ce7ad"), looks := true }, kinds := [], alts := [], laidByText := true, laidKinds := [.handle], laidTests := true, laidLooks := .later }
def CodecBackUptoCardSaid : Prop := Claim7.holds Tryd.pinned (.plain (OpenSpec.upto codecBackSpec)) codecBackUptoCard

/-- THE SECOND FORM's CARD OF 'lychgatelaw01.CodecAgain'. -/
def codecAgainUptoCard : Claim7 := { stood := { row := codecAgainUptoRow, standIns := [], harness := (true, "3b9221b84b6c107eef499f20e42d26b13b49c35e7ee30facdcd4536e583ce7ad"), looks := true }, kinds := [], alts := [], laidByText := true, laidKinds := [.handle], laidTests := true, laidLooks := .later }
def CodecAgainUptoCardSaid : Prop := Claim7.holds Tryd.pinned (.plain (OpenSpec.upto codecAgainSpec)) codecAgainUptoCard
end Rows
end Go.Proofs.YtdccgmfhnofabaaDoor
