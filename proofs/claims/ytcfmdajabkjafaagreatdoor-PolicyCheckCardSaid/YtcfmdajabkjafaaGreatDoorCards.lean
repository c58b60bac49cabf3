/-
  DERIVED. GIVEN WITH THE SEED: THE CARDS: each row of YtcfmdajabkjafaaGreatDoorRows.lean that lists a variable, with what it lists TIED to the program's text (the seventh form; the later family's looks); each row that meets fmt, with fmt's text TOLD by the authors' own Lean function (tested against real Go, not proved from fmt's source: count such statements apart). THE CARD IS WHAT COUNTS. Prove the row's statement (the work); the ties are given (YtcfmdajabkjafaaGreatDoorTie.lean); close each card by the builder's one call (the guide's Derived/Test/ToyasCard.lean, 'card_holds'). Laid BY PROGRAM, IN A SANDBOX (cutbox-door.mjs). By AI agents, Wed Nov 11 2026. No macro, syntax, notation, axiom, sorry.
-/
import Derived.Test.YtcfmdajabkjafaaGreatDoorRows
import GoSem.ClaimSeven
namespace Go.Proofs.YtcfmdajabkjafaaGreatDoor
namespace Rows

/-- THE TIED CARD OF 'stairwelllaw05.PolicyParses'. -/
def policyParsesCard : Claim7 := { stood := { row := policyParsesRow, standIns := [], harness := (true, "03552e61c6578e1813801d1cf8b0f38c922bcf6bb89440fd96bb8acde40092a6"), looks := true }, kinds := [], alts := [], laidByText := true, laidKinds := [.data, .data, .data, .data, .sentinel, .sentinel, .pinned], laidTests := true, laidLooks := .later }
def PolicyParsesCardSaid : Prop := Claim7.holds Tryz.pinned (.plain (OpenSpec.ofChange policyParsesSpec)) policyParsesCard

/-- THE TIED CARD OF 'stairwelllaw05.PolicyFlows'. -/
def policyFlowsCard : Claim7 := { stood := { row := policyFlowsRow, standIns := [], harness := (true, "03552e61c6578e1813801d1cf8b0f38c922bcf6bb89440fd96bb8acde40092a6"), looks := true }, kinds := [], alts := [], laidByText := true, laidKinds := [.data, .data, .data, .data, .sentinel, .sentinel, .pinned], laidTests := true, laidLooks := .later }
def PolicyFlowsCardSaid : Prop := Claim7.holds Tryz.pinned (.plain (OpenSpec.ofChange policyFlowsSpec)) policyFlowsCard

/-- THE TIED CARD OF 'stairwelllaw06.SlotsAll'. -/
def slotsAllCard : Claim7 := { stood := { row := slotsAllRow, standIns := [], harness := (true, "03552e61c6578e1813801d1cf8b0f38c922bcf6bb89440fd96bb8acde40092a6"), looks := true }, kinds := [], alts := [], laidByText := true, laidKinds := [.data, .data, .data, .data, .sentinel, .sentinel, .pinned], laidTests := true, laidLooks := .later }
def SlotsAllCardSaid : Prop := Claim7.holds Tryz.pinned (.plain (OpenSpec.ofChange slotsAllSpec)) slotsAllCard

/-- THE TIED CARD OF 'stairwelllaw06.SlotsTurns'. -/
def slotsTurnsCard : Claim7 := { stood := { row := slotsTurnsRow, standIns := [], harness := (true, "03552e61c6578e1813801d1cf8b0f38c922bcf6bb89440fd96bb8acde40092a6"), looks := true }, kinds := [], alts := [], laidByText := true, laidKinds := [.data, .data, .data, .data, .sentinel, .sentinel, .pinned], laidTests := true, laidLooks := .later }
def SlotsTurnsCardSaid : Prop := Claim7.holds Tryz.pinned (.plain (OpenSpec.ofChange slotsTurnsSpec)) slotsTurnsCard

/-- THE TIED CARD OF 'stairwelllaw06.SlotsRounds'. -/
def slotsRoundsCard : Claim7 := { stood := { row := slotsRoundsRow, standIns := [], harness := (true, "03552e61c6578e1813801d1cf8b0f38c922bcf6bb89440fd96bb8acde40092a6"), looks := true }, kinds := [], alts := [], laidByText := true, laidKinds := [.data, .data, .data, .data, .sentinel, .sentinel, .pinned], laidTests := true, laidLooks := .later }
def SlotsRoundsCardSaid : Prop := Claim7.holds Tryz.pinned (.plain (OpenSpec.ofChange slotsRoundsSpec)) slotsRoundsCard

/-- THE TIED CARD OF 'stairwelllaw05.PolicyCheck'. -/
def policyCheckCard : Claim7 := { stood := { row := policyCheckRow, standIns := [], harness := (true, "03552e61c6578e1813801d1cf8b0f38c922bcf6bb89440fd96bb8acde40092a6"), looks := true }, kinds := [], alts := [], laidByText := true, laidKinds := [.data, .data, .data, .data, .sentinel, .sentinel, .pinned], laidTests := true, laidLooks := .later }
def PolicyCheckCardSaid : Prop := Claim7.holds Tryz.pinned (.plain (OpenSpec.ofChange policyCheckSpec)) policyCheckCard

/-- THE SECOND FORM's CARD OF 'stairwelllaw05.PolicyParses'. -/
def policyParsesUptoCard : Claim7 := { stood := { row := policyParsesUptoRow, standIns := [], harness := (true, "03552e61c6578e1813801d1cf8b0f38c922bcf6bb89440fd96bb8acde40092a6"), looks := true }, kinds := [], alts := [], laidByText := true, laidKinds := [.data, .data, .data, .data, .sentinel, .sentinel, .pinned], laidTests := true, laidLooks := .later }
def PolicyParsesUptoCardSaid : Prop := Claim7.holds Tryz.pinned (.plain (OpenSpec.upto policyParsesSpec)) policyParsesUptoCard

/-- THE SECOND FORM's CARD OF 'stairwelllaw05.PolicyFlows'. -/
def policyFlowsUptoCard : Claim7 := { stood := { row := policyFlowsUptoRow, standIns := [], harness := (true, "03552e61c6578e1813801d1cf8b0f38c922bcf6bb89440fd96bb8acde40092a6"), looks := true }, kinds := [], alts := [], laidByText := true, laidKinds := [.data, .data, .data, .data, .sentinel, .sentinel, .pinned], laidTests := true, laidLooks := .later }
def PolicyFlowsUptoCardSaid : Prop := Claim7.holds Tryz.pinned (.plain (OpenSpec.upto policyFlowsSpec)) policyFlowsUptoCard

/-- THE SECOND FORM's CARD OF 'stairwelllaw06.SlotsAll'. -/
def slotsAllUptoCard : Claim7 := { stood := { row := slotsAllUptoRow, standIns := [], harness := (true, "03552e61c6578e1813801d1cf8b0f38c922bcf6bb89440fd96bb8acde40092a6"), looks := true }, kinds := [], alts := [], laidByText := true, laidKinds := [.data, .data, .data, .data, .sentinel, .sentinel, .pinned], laidTests := true, laidLooks := .later }
def SlotsAllUptoCardSaid : Prop := Claim7.holds Tryz.pinned (.plain (OpenSpec.upto slotsAllSpec)) slotsAllUptoCard

/-- THE SECOND FORM's CARD OF 'stairwelllaw06.SlotsTurns'. -/
def slotsTurnsUptoCard : Claim7 := { stood := { row := slotsTurnsUptoRow, standIns := [], harness := (true, "03552e61c6578e1813801d1cf8b0f38c922bcf6bb89440fd96bb8acde40092a6"), looks := true }, kinds := [], alts := [], laidByText := true, laidKinds := [.data, .data, .data, .data, .sentinel, .sentinel, .pinned], laidTests := true, laidLooks := .later }
def SlotsTurnsUptoCardSaid : Prop := Claim7.holds Tryz.pinned (.plain (OpenSpec.upto slotsTurnsSpec)) slotsTurnsUptoCard

/-- THE SECOND FORM's CARD OF 'stairwelllaw06.SlotsRounds'. -/
def slotsRoundsUptoCard : Claim7 := { stood := { row := slotsRoundsUptoRow, standIns := [], harness := (true, "03552e61c6578e1813801d1cf8b0f38c922bcf6bb89440fd96bb8acde40092a6"), looks := true }, kinds := [], alts := [], laidByText := true, laidKinds := [.data, .data, .data, .data, .sentinel, .sentinel, .pinned], laidTests := true, laidLooks := .later }
def SlotsRoundsUptoCardSaid : Prop := Claim7.holds Tryz.pinned (.plain (OpenSpec.upto slotsRoundsSpec)) slotsRoundsUptoCard

/-- THE SECOND FORM's CARD OF 'stairwelllaw05.PolicyCheck'. -/
def policyCheckUptoCard : Claim7 := { stood := { row := policyCheckUptoRow, standIns := [], harness := (true, "03552e61c6578e1813801d1cf8b0f38c922bcf6bb89440fd96bb8acde40092a6"), looks := true }, kinds := [], alts := [], laidByText := true, laidKinds := [.data, .data, .data, .data, .sentinel, .sentinel, .pinned], laidTests := true, laidLooks := .later }
def PolicyCheckUptoCardSaid : Prop := Claim7.holds Tryz.pinned (.plain (OpenSpec.upto policyCheckSpec)) policyCheckUptoCard
end Rows
end Go.Proofs.YtcfmdajabkjafaaGreatDoor
