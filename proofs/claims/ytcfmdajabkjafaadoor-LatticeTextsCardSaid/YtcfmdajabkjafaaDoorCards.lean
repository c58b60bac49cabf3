/-
  DERIVED. GIVEN WITH THE SEED: THE CARDS: each row of YtcfmdajabkjafaaDoorRows.lean that lists a variable, with what it lists TIED to the program's text (the seventh form; the later family's looks); each row that meets fmt, with fmt's text TOLD by the authors' own Lean function (tested against real Go, not proved from fmt's source: count such statements apart). THE CARD IS WHAT COUNTS. Prove the row's statement (the work); the ties are given (YtcfmdajabkjafaaDoorTie.lean); close each card by the builder's one call (the guide's Derived/Test/ToyasCard.lean, 'card_holds'). Laid BY PROGRAM, IN A SANDBOX (cutbox-door.mjs). By AI agents, Wed Nov 11 2026. No macro, syntax, notation, axiom, sorry.
-/
import Derived.Test.YtcfmdajabkjafaaDoorRows
import GoSem.ClaimSeven
namespace Go.Proofs.YtcfmdajabkjafaaDoor
namespace Rows

/-- THE TIED CARD OF 'stairwelllaw03.LatticeTexts'. -/
def latticeTextsCard : Claim7 := { stood := { row := latticeTextsRow, standIns := [], harness := (true, "9fe382de72c6b90960dab67b3adb1f7caefdf6a6f5d55623b4e006684e5a40ce"), looks := false }, kinds := [], alts := [], laidByText := true, laidKinds := [.data, .data, .data], laidTests := true, laidLooks := .later }
def LatticeTextsCardSaid : Prop := Claim7.holds Tryd.pinned (.plain (OpenSpec.ofChange latticeTextsSpec)) latticeTextsCard

/-- THE SECOND FORM's CARD OF 'stairwelllaw03.LatticeTexts'. -/
def latticeTextsUptoCard : Claim7 := { stood := { row := latticeTextsUptoRow, standIns := [], harness := (true, "9fe382de72c6b90960dab67b3adb1f7caefdf6a6f5d55623b4e006684e5a40ce"), looks := false }, kinds := [], alts := [], laidByText := true, laidKinds := [.data, .data, .data], laidTests := true, laidLooks := .later }
def LatticeTextsUptoCardSaid : Prop := Claim7.holds Tryd.pinned (.plain (OpenSpec.upto latticeTextsSpec)) latticeTextsUptoCard
end Rows
end Go.Proofs.YtcfmdajabkjafaaDoor
