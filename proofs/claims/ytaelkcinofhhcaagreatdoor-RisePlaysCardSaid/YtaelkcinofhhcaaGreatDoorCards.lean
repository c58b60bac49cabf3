/-
  DERIVED. GIVEN WITH THE SEED: THE CARDS: each row of YtaelkcinofhhcaaGreatDoorRows.lean that lists a variable, with what it lists TIED to the program's text (the seventh form; the later family's looks); each row that meets fmt, with fmt's text TOLD by the authors' own Lean function (tested against real Go, not proved from fmt's source: count such statements apart). THE CARD IS WHAT COUNTS. Prove the row's statement (the work); the ties are given (YtaelkcinofhhcaaGreatDoorTie.lean); close each card by the builder's one call (the guide's Derived/Test/ToyasCard.lean, 'card_holds'). Laid BY PROGRAM, IN A SANDBOX (cutbox-door.mjs). By AI agents, Wed Nov 11 2026. No macro, syntax, notation, axiom, sorry.
-/
import Derived.Test.YtaelkcinofhhcaaGreatDoorRows
import GoSem.ClaimSeven
namespace Go.Proofs.YtaelkcinofhhcaaGreatDoor
namespace Rows

/-- THE TIED CARD OF 'stairwelllaw20.RiseReads'. -/
def riseReadsCard : Claim7 := { stood := { row := riseReadsRow, standIns := [], harness := (true, "c0ff469ffa529c72e442e0bbc347f2427c3b9d432ec77109be077f8d611bf76c"), looks := false }, kinds := [], alts := [], laidByText := true, laidKinds := [.data, .pinned], laidTests := true, laidLooks := .later }
def RiseReadsCardSaid : Prop := Claim7.holds Tryz.pinned (.plain (OpenSpec.ofChange riseReadsSpec)) riseReadsCard

/-- THE TIED CARD OF 'stairwelllaw20.RisePlays'. -/
def risePlaysCard : Claim7 := { stood := { row := risePlaysRow, standIns := [], harness := (true, "c0ff469ffa529c72e442e0bbc347f2427c3b9d432ec77109be077f8d611bf76c"), looks := false }, kinds := [], alts := [], laidByText := true, laidKinds := [.data, .pinned], laidTests := true, laidLooks := .later }
def RisePlaysCardSaid : Prop := Claim7.holds Tryz.pinned (.plain (OpenSpec.ofChange risePlaysSpec)) risePlaysCard

/-- THE SECOND FORM's CARD OF 'stairwelllaw20.RiseReads'. -/
def riseReadsUptoCard : Claim7 := { stood := { row := riseReadsUptoRow, standIns := [], harness := (true, "c0ff469ffa529c72e442e0bbc347f2427c3b9d432ec77109be077f8d611bf76c"), looks := false }, kinds := [], alts := [], laidByText := true, laidKinds := [.data, .pinned], laidTests := true, laidLooks := .later }
def RiseReadsUptoCardSaid : Prop := Claim7.holds Tryz.pinned (.plain (OpenSpec.upto riseReadsSpec)) riseReadsUptoCard

/-- THE SECOND FORM's CARD OF 'stairwelllaw20.RisePlays'. -/
def risePlaysUptoCard : Claim7 := { stood := { row := risePlaysUptoRow, standIns := [], harness := (true, "c0ff469ffa529c72e442e0bbc347f2427c3b9d432ec77109be077f8d611bf76c"), looks := false }, kinds := [], alts := [], laidByText := true, laidKinds := [.data, .pinned], laidTests := true, laidLooks := .later }
def RisePlaysUptoCardSaid : Prop := Claim7.holds Tryz.pinned (.plain (OpenSpec.upto risePlaysSpec)) risePlaysUptoCard
end Rows
end Go.Proofs.YtaelkcinofhhcaaGreatDoor
