/-
  DERIVED. GIVEN WITH THE SEED: THE CARDS: each row of YtojpdhfnmodinaaGreatDoorRows.lean that lists a variable, with what it lists TIED to the program's text (the seventh form; the later family's looks); each row that meets fmt, with fmt's text TOLD by the authors' own Lean function (tested against real Go, not proved from fmt's source: count such statements apart). THE CARD IS WHAT COUNTS. Prove the row's statement (the work); the ties are given (YtojpdhfnmodinaaGreatDoorTie.lean); close each card by the builder's one call (the guide's Derived/Test/ToyasCard.lean, 'card_holds'). Laid BY PROGRAM, IN A SANDBOX (cutbox-door.mjs). By AI agents, Wed Nov 11 2026. No macro, syntax, notation, axiom, sorry.
-/
import Derived.Test.YtojpdhfnmodinaaGreatDoorRows
import GoSem.ClaimSeven
namespace Go.Proofs.YtojpdhfnmodinaaGreatDoor
namespace Rows

/-- THE TIED CARD OF 'stairwelllaw21.StockPushes'. -/
def stockPushesCard : Claim7 := { stood := { row := stockPushesRow, standIns := [], harness := (true, "1c775cda4fca38e5779690faeffe20db4dbf1d6c6aa416c937e862fa3332d3be"), looks := false }, kinds := [], alts := [], laidByText := true, laidKinds := [.data, .pinned], laidTests := true, laidLooks := .later }
def StockPushesCardSaid : Prop := Claim7.holds Tryz.pinned (.plain (OpenSpec.ofChange stockPushesSpec)) stockPushesCard

/-- THE TIED CARD OF 'stairwelllaw21.StockHolds'. -/
def stockHoldsCard : Claim7 := { stood := { row := stockHoldsRow, standIns := [], harness := (true, "1c775cda4fca38e5779690faeffe20db4dbf1d6c6aa416c937e862fa3332d3be"), looks := false }, kinds := [], alts := [], laidByText := true, laidKinds := [.data, .pinned], laidTests := true, laidLooks := .later }
def StockHoldsCardSaid : Prop := Claim7.holds Tryz.pinned (.plain (OpenSpec.ofChange stockHoldsSpec)) stockHoldsCard

/-- THE TIED CARD OF 'stairwelllaw21.StockBacks'. -/
def stockBacksCard : Claim7 := { stood := { row := stockBacksRow, standIns := [], harness := (true, "1c775cda4fca38e5779690faeffe20db4dbf1d6c6aa416c937e862fa3332d3be"), looks := false }, kinds := [], alts := [], laidByText := true, laidKinds := [.data, .pinned], laidTests := true, laidLooks := .later }
def StockBacksCardSaid : Prop := Claim7.holds Tryz.pinned (.plain (OpenSpec.ofChange stockBacksSpec)) stockBacksCard

/-- THE TIED CARD OF 'stairwelllaw21.StockReads'. -/
def stockReadsCard : Claim7 := { stood := { row := stockReadsRow, standIns := [], harness := (true, "1c775cda4fca38e5779690faeffe20db4dbf1d6c6aa416c937e862fa3332d3be"), looks := false }, kinds := [], alts := [], laidByText := true, laidKinds := [.data, .pinned], laidTests := true, laidLooks := .later }
def StockReadsCardSaid : Prop := Claim7.holds Tryz.pinned (.plain (OpenSpec.ofChange stockReadsSpec)) stockReadsCard

/-- THE TIED CARD OF 'stairwelllaw21.StockPlays'. -/
def stockPlaysCard : Claim7 := { stood := { row := stockPlaysRow, standIns := [], harness := (true, "1c775cda4fca38e5779690faeffe20db4dbf1d6c6aa416c937e862fa3332d3be"), looks := false }, kinds := [], alts := [], laidByText := true, laidKinds := [.data, .pinned], laidTests := true, laidLooks := .later }
def StockPlaysCardSaid : Prop := Claim7.holds Tryz.pinned (.plain (OpenSpec.ofChange stockPlaysSpec)) stockPlaysCard

/-- THE SECOND FORM's CARD OF 'stairwelllaw21.StockPushes'. -/
def stockPushesUptoCard : Claim7 := { stood := { row := stockPushesUptoRow, standIns := [], harness := (true, "1c775cda4fca38e5779690faeffe20db4dbf1d6c6aa416c937e862fa3332d3be"), looks := false }, kinds := [], alts := [], laidByText := true, laidKinds := [.data, .pinned], laidTests := true, laidLooks := .later }
def StockPushesUptoCardSaid : Prop := Claim7.holds Tryz.pinned (.plain (OpenSpec.upto stockPushesSpec)) stockPushesUptoCard

/-- THE SECOND FORM's CARD OF 'stairwelllaw21.StockHolds'. -/
def stockHoldsUptoCard : Claim7 := { stood := { row := stockHoldsUptoRow, standIns := [], harness := (true, "1c775cda4fca38e5779690faeffe20db4dbf1d6c6aa416c937e862fa3332d3be"), looks := false }, kinds := [], alts := [], laidByText := true, laidKinds := [.data, .pinned], laidTests := true, laidLooks := .later }
def StockHoldsUptoCardSaid : Prop := Claim7.holds Tryz.pinned (.plain (OpenSpec.upto stockHoldsSpec)) stockHoldsUptoCard

/-- THE SECOND FORM's CARD OF 'stairwelllaw21.StockBacks'. -/
def stockBacksUptoCard : Claim7 := { stood := { row := stockBacksUptoRow, standIns := [], harness := (true, "1c775cda4fca38e5779690faeffe20db4dbf1d6c6aa416c937e862fa3332d3be"), looks := false }, kinds := [], alts := [], laidByText := true, laidKinds := [.data, .pinned], laidTests := true, laidLooks := .later }
def StockBacksUptoCardSaid : Prop := Claim7.holds Tryz.pinned (.plain (OpenSpec.upto stockBacksSpec)) stockBacksUptoCard

/-- THE SECOND FORM's CARD OF 'stairwelllaw21.StockReads'. -/
def stockReadsUptoCard : Claim7 := { stood := { row := stockReadsUptoRow, standIns := [], harness := (true, "1c775cda4fca38e5779690faeffe20db4dbf1d6c6aa416c937e862fa3332d3be"), looks := false }, kinds := [], alts := [], laidByText := true, laidKinds := [.data, .pinned], laidTests := true, laidLooks := .later }
def StockReadsUptoCardSaid : Prop := Claim7.holds Tryz.pinned (.plain (OpenSpec.upto stockReadsSpec)) stockReadsUptoCard

/-- THE SECOND FORM's CARD OF 'stairwelllaw21.StockPlays'. -/
def stockPlaysUptoCard : Claim7 := { stood := { row := stockPlaysUptoRow, standIns := [], harness := (true, "1c775cda4fca38e5779690faeffe20db4dbf1d6c6aa416c937e862fa3332d3be"), looks := false }, kinds := [], alts := [], laidByText := true, laidKinds := [.data, .pinned], laidTests := true, laidLooks := .later }
def StockPlaysUptoCardSaid : Prop := Claim7.holds Tryz.pinned (.plain (OpenSpec.upto stockPlaysSpec)) stockPlaysUptoCard
end Rows
end Go.Proofs.YtojpdhfnmodinaaGreatDoor
