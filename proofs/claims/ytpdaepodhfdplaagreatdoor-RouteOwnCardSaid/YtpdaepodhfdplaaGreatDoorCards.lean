/-
  DERIVED. GIVEN WITH THE SEED: THE CARDS: each row of YtpdaepodhfdplaaGreatDoorRows.lean that lists a variable, with what it lists TIED to the program's text (the seventh form; the later family's looks); each row that meets fmt, with fmt's text TOLD by the authors' own Lean function (tested against real Go, not proved from fmt's source: count such statements apart). THE CARD IS WHAT COUNTS. Prove the row's statement (the work); the ties are given (YtpdaepodhfdplaaGreatDoorTie.lean); close each card by the builder's one call (the guide's Derived/Test/ToyasCard.lean, 'card_holds'). Laid BY PROGRAM, IN A SANDBOX (cutbox-door.mjs). By AI agents, Wed Nov 11 2026. No macro, syntax, notation, axiom, sorry.
-/
import Derived.Test.YtpdaepodhfdplaaGreatDoorRows
import GoSem.ClaimSeven
namespace Go.Proofs.YtpdaepodhfdplaaGreatDoor
namespace Rows

/-- THE TIED CARD OF 'stairwelllaw18.LineGoes'. -/
def lineGoesCard : Claim7 := { stood := { row := lineGoesRow, standIns := [], harness := (true, "c7ca4fb19bb5c2498c89354fbf8341cc24f48ba5b918d3e6ed548f3fa8386d46"), looks := false }, kinds := [], alts := [], laidByText := true, laidKinds := [.data, .pinned], laidTests := true, laidLooks := .later }
def LineGoesCardSaid : Prop := Claim7.holds Tryz.pinned (.plain (OpenSpec.ofChange lineGoesSpec)) lineGoesCard

/-- THE TIED CARD OF 'stairwelllaw18.LineFirst'. -/
def lineFirstCard : Claim7 := { stood := { row := lineFirstRow, standIns := [], harness := (true, "c7ca4fb19bb5c2498c89354fbf8341cc24f48ba5b918d3e6ed548f3fa8386d46"), looks := false }, kinds := [], alts := [], laidByText := true, laidKinds := [.data, .pinned], laidTests := true, laidLooks := .later }
def LineFirstCardSaid : Prop := Claim7.holds Tryz.pinned (.plain (OpenSpec.ofChange lineFirstSpec)) lineFirstCard

/-- THE TIED CARD OF 'stairwelllaw18.LineOf'. -/
def lineOfCard : Claim7 := { stood := { row := lineOfRow, standIns := [], harness := (true, "c7ca4fb19bb5c2498c89354fbf8341cc24f48ba5b918d3e6ed548f3fa8386d46"), looks := false }, kinds := [], alts := [], laidByText := true, laidKinds := [.data, .pinned], laidTests := true, laidLooks := .later }
def LineOfCardSaid : Prop := Claim7.holds Tryz.pinned (.plain (OpenSpec.ofChange lineOfSpec)) lineOfCard

/-- THE TIED CARD OF 'stairwelllaw18.LineWakes'. -/
def lineWakesCard : Claim7 := { stood := { row := lineWakesRow, standIns := [], harness := (true, "c7ca4fb19bb5c2498c89354fbf8341cc24f48ba5b918d3e6ed548f3fa8386d46"), looks := false }, kinds := [], alts := [], laidByText := true, laidKinds := [.data, .pinned], laidTests := true, laidLooks := .later }
def LineWakesCardSaid : Prop := Claim7.holds Tryz.pinned (.plain (OpenSpec.ofChange lineWakesSpec)) lineWakesCard

/-- THE TIED CARD OF 'stairwelllaw18.LinePlays'. -/
def linePlaysCard : Claim7 := { stood := { row := linePlaysRow, standIns := [], harness := (true, "c7ca4fb19bb5c2498c89354fbf8341cc24f48ba5b918d3e6ed548f3fa8386d46"), looks := false }, kinds := [], alts := [], laidByText := true, laidKinds := [.data, .pinned], laidTests := true, laidLooks := .later }
def LinePlaysCardSaid : Prop := Claim7.holds Tryz.pinned (.plain (OpenSpec.ofChange linePlaysSpec)) linePlaysCard

/-- THE TIED CARD OF 'stairwelllaw14.RouteLeads'. -/
def routeLeadsCard : Claim7 := { stood := { row := routeLeadsRow, standIns := [], harness := (true, "c7ca4fb19bb5c2498c89354fbf8341cc24f48ba5b918d3e6ed548f3fa8386d46"), looks := false }, kinds := [], alts := [], laidByText := true, laidKinds := [.data, .pinned], laidTests := true, laidLooks := .later }
def RouteLeadsCardSaid : Prop := Claim7.holds Tryz.pinned (.plain (OpenSpec.ofChange routeLeadsSpec)) routeLeadsCard

/-- THE TIED CARD OF 'stairwelllaw14.RouteOwn'. -/
def routeOwnCard : Claim7 := { stood := { row := routeOwnRow, standIns := [], harness := (true, "c7ca4fb19bb5c2498c89354fbf8341cc24f48ba5b918d3e6ed548f3fa8386d46"), looks := false }, kinds := [], alts := [], laidByText := true, laidKinds := [.data, .pinned], laidTests := true, laidLooks := .later }
def RouteOwnCardSaid : Prop := Claim7.holds Tryz.pinned (.plain (OpenSpec.ofChange routeOwnSpec)) routeOwnCard

/-- THE TIED CARD OF 'stairwelllaw14.RoutePlays'. -/
def routePlaysCard : Claim7 := { stood := { row := routePlaysRow, standIns := [], harness := (true, "c7ca4fb19bb5c2498c89354fbf8341cc24f48ba5b918d3e6ed548f3fa8386d46"), looks := false }, kinds := [], alts := [], laidByText := true, laidKinds := [.data, .pinned], laidTests := true, laidLooks := .later }
def RoutePlaysCardSaid : Prop := Claim7.holds Tryz.pinned (.plain (OpenSpec.ofChange routePlaysSpec)) routePlaysCard

/-- THE SECOND FORM's CARD OF 'stairwelllaw18.LineGoes'. -/
def lineGoesUptoCard : Claim7 := { stood := { row := lineGoesUptoRow, standIns := [], harness := (true, "c7ca4fb19bb5c2498c89354fbf8341cc24f48ba5b918d3e6ed548f3fa8386d46"), looks := false }, kinds := [], alts := [], laidByText := true, laidKinds := [.data, .pinned], laidTests := true, laidLooks := .later }
def LineGoesUptoCardSaid : Prop := Claim7.holds Tryz.pinned (.plain (OpenSpec.upto lineGoesSpec)) lineGoesUptoCard

/-- THE SECOND FORM's CARD OF 'stairwelllaw18.LineFirst'. -/
def lineFirstUptoCard : Claim7 := { stood := { row := lineFirstUptoRow, standIns := [], harness := (true, "c7ca4fb19bb5c2498c89354fbf8341cc24f48ba5b918d3e6ed548f3fa8386d46"), looks := false }, kinds := [], alts := [], laidByText := true, laidKinds := [.data, .pinned], laidTests := true, laidLooks := .later }
def LineFirstUptoCardSaid : Prop := Claim7.holds Tryz.pinned (.plain (OpenSpec.upto lineFirstSpec)) lineFirstUptoCard

/-- THE SECOND FORM's CARD OF 'stairwelllaw18.LineOf'. -/
def lineOfUptoCard : Claim7 := { stood := { row := lineOfUptoRow, standIns := [], harness := (true, "c7ca4fb19bb5c2498c89354fbf8341cc24f48ba5b918d3e6ed548f3fa8386d46"), looks := false }, kinds := [], alts := [], laidByText := true, laidKinds := [.data, .pinned], laidTests := true, laidLooks := .later }
def LineOfUptoCardSaid : Prop := Claim7.holds Tryz.pinned (.plain (OpenSpec.upto lineOfSpec)) lineOfUptoCard

/-- THE SECOND FORM's CARD OF 'stairwelllaw18.LineWakes'. -/
def lineWakesUptoCard : Claim7 := { stood := { row := lineWakesUptoRow, standIns := [], harness := (true, "c7ca4fb19bb5c2498c89354fbf8341cc24f48ba5b918d3e6ed548f3fa8386d46"), looks := false }, kinds := [], alts := [], laidByText := true, laidKinds := [.data, .pinned], laidTests := true, laidLooks := .later }
def LineWakesUptoCardSaid : Prop := Claim7.holds Tryz.pinned (.plain (OpenSpec.upto lineWakesSpec)) lineWakesUptoCard

/-- THE SECOND FORM's CARD OF 'stairwelllaw18.LinePlays'. -/
def linePlaysUptoCard : Claim7 := { stood := { row := linePlaysUptoRow, standIns := [], harness := (true, "c7ca4fb19bb5c2498c89354fbf8341cc24f48ba5b918d3e6ed548f3fa8386d46"), looks := false }, kinds := [], alts := [], laidByText := true, laidKinds := [.data, .pinned], laidTests := true, laidLooks := .later }
def LinePlaysUptoCardSaid : Prop := Claim7.holds Tryz.pinned (.plain (OpenSpec.upto linePlaysSpec)) linePlaysUptoCard

/-- THE SECOND FORM's CARD OF 'stairwelllaw14.RouteLeads'. -/
def routeLeadsUptoCard : Claim7 := { stood := { row := routeLeadsUptoRow, standIns := [], harness := (true, "c7ca4fb19bb5c2498c89354fbf8341cc24f48ba5b918d3e6ed548f3fa8386d46"), looks := false }, kinds := [], alts := [], laidByText := true, laidKinds := [.data, .pinned], laidTests := true, laidLooks := .later }
def RouteLeadsUptoCardSaid : Prop := Claim7.holds Tryz.pinned (.plain (OpenSpec.upto routeLeadsSpec)) routeLeadsUptoCard

/-- THE SECOND FORM's CARD OF 'stairwelllaw14.RouteOwn'. -/
def routeOwnUptoCard : Claim7 := { stood := { row := routeOwnUptoRow, standIns := [], harness := (true, "c7ca4fb19bb5c2498c89354fbf8341cc24f48ba5b918d3e6ed548f3fa8386d46"), looks := false }, kinds := [], alts := [], laidByText := true, laidKinds := [.data, .pinned], laidTests := true, laidLooks := .later }
def RouteOwnUptoCardSaid : Prop := Claim7.holds Tryz.pinned (.plain (OpenSpec.upto routeOwnSpec)) routeOwnUptoCard

/-- THE SECOND FORM's CARD OF 'stairwelllaw14.RoutePlays'. -/
def routePlaysUptoCard : Claim7 := { stood := { row := routePlaysUptoRow, standIns := [], harness := (true, "c7ca4fb19bb5c2498c89354fbf8341cc24f48ba5b918d3e6ed548f3fa8386d46"), looks := false }, kinds := [], alts := [], laidByText := true, laidKinds := [.data, .pinned], laidTests := true, laidLooks := .later }
def RoutePlaysUptoCardSaid : Prop := Claim7.holds Tryz.pinned (.plain (OpenSpec.upto routePlaysSpec)) routePlaysUptoCard
end Rows
end Go.Proofs.YtpdaepodhfdplaaGreatDoor
