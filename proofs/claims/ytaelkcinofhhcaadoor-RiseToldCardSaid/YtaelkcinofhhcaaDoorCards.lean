/-
  DERIVED. GIVEN WITH THE SEED: THE CARDS: each row of YtaelkcinofhhcaaDoorRows.lean that lists a variable, with what it lists TIED to the program's text (the seventh form; the later family's looks); each row that meets fmt, with fmt's text TOLD by the authors' own Lean function (tested against real Go, not proved from fmt's source: count such statements apart). THE CARD IS WHAT COUNTS. Prove the row's statement (the work); the ties are given (YtaelkcinofhhcaaDoorTie.lean); close each card by the builder's one call (the guide's Derived/Test/ToyasCard.lean, 'card_holds'). Laid BY PROGRAM, IN A SANDBOX (cutbox-door.mjs). By AI agents, Wed Nov 11 2026. No macro, syntax, notation, axiom, sorry.
-/
import Derived.Test.YtaelkcinofhhcaaDoorRows
import GoSem.ClaimSeven
namespace Go.Proofs.YtaelkcinofhhcaaDoor
namespace Rows

/-- THE TIED CARD OF 'stairwelllaw10.MatchGoes'. -/
def matchGoesCard : Claim7 := { stood := { row := matchGoesRow, standIns := [], harness := (true, "65a7beb20700ef24c7710fcba03cc1ad40dd0ff07cf18a6b34ea087614c550a0"), looks := false }, kinds := [], alts := [], laidByText := true, laidKinds := [.data, .pinned], laidTests := true, laidLooks := .later }
def MatchGoesCardSaid : Prop := Claim7.holds Tryd.pinned (.plain (OpenSpec.ofChange matchGoesSpec)) matchGoesCard

/-- THE TIED CARD OF 'stairwelllaw10.MatchPlain'. -/
def matchPlainCard : Claim7 := { stood := { row := matchPlainRow, standIns := [], harness := (true, "65a7beb20700ef24c7710fcba03cc1ad40dd0ff07cf18a6b34ea087614c550a0"), looks := false }, kinds := [], alts := [], laidByText := true, laidKinds := [.data, .pinned], laidTests := true, laidLooks := .later }
def MatchPlainCardSaid : Prop := Claim7.holds Tryd.pinned (.plain (OpenSpec.ofChange matchPlainSpec)) matchPlainCard

/-- THE TIED CARD OF 'stairwelllaw13.MailSame'. -/
def mailSameCard : Claim7 := { stood := { row := mailSameRow, standIns := [], harness := (true, "65a7beb20700ef24c7710fcba03cc1ad40dd0ff07cf18a6b34ea087614c550a0"), looks := false }, kinds := [], alts := [], laidByText := true, laidKinds := [.data, .pinned], laidTests := true, laidLooks := .later }
def MailSameCardSaid : Prop := Claim7.holds Tryd.pinned (.plain (OpenSpec.ofChange mailSameSpec)) mailSameCard

/-- THE TIED CARD OF 'stairwelllaw10.MatchSame'. -/
def matchSameCard : Claim7 := { stood := { row := matchSameRow, standIns := [], harness := (true, "65a7beb20700ef24c7710fcba03cc1ad40dd0ff07cf18a6b34ea087614c550a0"), looks := false }, kinds := [], alts := [], laidByText := true, laidKinds := [.data, .pinned], laidTests := true, laidLooks := .later }
def MatchSameCardSaid : Prop := Claim7.holds Tryd.pinned (.plain (OpenSpec.ofChange matchSameSpec)) matchSameCard

/-- THE TIED CARD OF 'stairwelllaw20.RiseTold'. -/
def riseToldCard : Claim7 := { stood := { row := riseToldRow, standIns := [], harness := (true, "65a7beb20700ef24c7710fcba03cc1ad40dd0ff07cf18a6b34ea087614c550a0"), looks := false }, kinds := [], alts := [], laidByText := true, laidKinds := [.data, .pinned], laidTests := true, laidLooks := .later }
def RiseToldCardSaid : Prop := Claim7.holds Tryd.pinned (.plain (OpenSpec.ofChange riseToldSpec)) riseToldCard

/-- THE TIED CARD OF 'stairwelllaw20.RiseNumbers'. -/
def riseNumbersCard : Claim7 := { stood := { row := riseNumbersRow, standIns := [], harness := (true, "65a7beb20700ef24c7710fcba03cc1ad40dd0ff07cf18a6b34ea087614c550a0"), looks := false }, kinds := [], alts := [], laidByText := true, laidKinds := [.data, .pinned], laidTests := true, laidLooks := .later }
def RiseNumbersCardSaid : Prop := Claim7.holds Tryd.pinned (.plain (OpenSpec.ofChange riseNumbersSpec)) riseNumbersCard

/-- THE TIED CARD OF 'stairwelllaw13.MailReads'. -/
def mailReadsCard : Claim7 := { stood := { row := mailReadsRow, standIns := [], harness := (true, "65a7beb20700ef24c7710fcba03cc1ad40dd0ff07cf18a6b34ea087614c550a0"), looks := false }, kinds := [], alts := [], laidByText := true, laidKinds := [.data, .pinned], laidTests := true, laidLooks := .later }
def MailReadsCardSaid : Prop := Claim7.holds Tryd.pinned (.plain (OpenSpec.ofChange mailReadsSpec)) mailReadsCard

/-- THE TIED CARD OF 'stairwelllaw13.MailBytes'. -/
def mailBytesCard : Claim7 := { stood := { row := mailBytesRow, standIns := [], harness := (true, "65a7beb20700ef24c7710fcba03cc1ad40dd0ff07cf18a6b34ea087614c550a0"), looks := false }, kinds := [], alts := [], laidByText := true, laidKinds := [.data, .pinned], laidTests := true, laidLooks := .later }
def MailBytesCardSaid : Prop := Claim7.holds Tryd.pinned (.plain (OpenSpec.ofChange mailBytesSpec)) mailBytesCard

/-- THE SECOND FORM's CARD OF 'stairwelllaw10.MatchGoes'. -/
def matchGoesUptoCard : Claim7 := { stood := { row := matchGoesUptoRow, standIns := [], harness := (true, "65a7beb20700ef24c7710fcba03cc1ad40dd0ff07cf18a6b34ea087614c550a0"), looks := false }, kinds := [], alts := [], laidByText := true, laidKinds := [.data, .pinned], laidTests := true, laidLooks := .later }
def MatchGoesUptoCardSaid : Prop := Claim7.holds Tryd.pinned (.plain (OpenSpec.upto matchGoesSpec)) matchGoesUptoCard

/-- THE SECOND FORM's CARD OF 'stairwelllaw10.MatchPlain'. -/
def matchPlainUptoCard : Claim7 := { stood := { row := matchPlainUptoRow, standIns := [], harness := (true, "65a7beb20700ef24c7710fcba03cc1ad40dd0ff07cf18a6b34ea087614c550a0"), looks := false }, kinds := [], alts := [], laidByText := true, laidKinds := [.data, .pinned], laidTests := true, laidLooks := .later }
def MatchPlainUptoCardSaid : Prop := Claim7.holds Tryd.pinned (.plain (OpenSpec.upto matchPlainSpec)) matchPlainUptoCard

/-- THE SECOND FORM's CARD OF 'stairwelllaw13.MailSame'. -/
def mailSameUptoCard : Claim7 := { stood := { row := mailSameUptoRow, standIns := [], harness := (true, "65a7beb20700ef24c7710fcba03cc1ad40dd0ff07cf18a6b34ea087614c550a0"), looks := false }, kinds := [], alts := [], laidByText := true, laidKinds := [.data, .pinned], laidTests := true, laidLooks := .later }
def MailSameUptoCardSaid : Prop := Claim7.holds Tryd.pinned (.plain (OpenSpec.upto mailSameSpec)) mailSameUptoCard

/-- THE SECOND FORM's CARD OF 'stairwelllaw10.MatchSame'. -/
def matchSameUptoCard : Claim7 := { stood := { row := matchSameUptoRow, standIns := [], harness := (true, "65a7beb20700ef24c7710fcba03cc1ad40dd0ff07cf18a6b34ea087614c550a0"), looks := false }, kinds := [], alts := [], laidByText := true, laidKinds := [.data, .pinned], laidTests := true, laidLooks := .later }
def MatchSameUptoCardSaid : Prop := Claim7.holds Tryd.pinned (.plain (OpenSpec.upto matchSameSpec)) matchSameUptoCard

/-- THE SECOND FORM's CARD OF 'stairwelllaw20.RiseTold'. -/
def riseToldUptoCard : Claim7 := { stood := { row := riseToldUptoRow, standIns := [], harness := (true, "65a7beb20700ef24c7710fcba03cc1ad40dd0ff07cf18a6b34ea087614c550a0"), looks := false }, kinds := [], alts := [], laidByText := true, laidKinds := [.data, .pinned], laidTests := true, laidLooks := .later }
def RiseToldUptoCardSaid : Prop := Claim7.holds Tryd.pinned (.plain (OpenSpec.upto riseToldSpec)) riseToldUptoCard

/-- THE SECOND FORM's CARD OF 'stairwelllaw20.RiseNumbers'. -/
def riseNumbersUptoCard : Claim7 := { stood := { row := riseNumbersUptoRow, standIns := [], harness := (true, "65a7beb20700ef24c7710fcba03cc1ad40dd0ff07cf18a6b34ea087614c550a0"), looks := false }, kinds := [], alts := [], laidByText := true, laidKinds := [.data, .pinned], laidTests := true, laidLooks := .later }
def RiseNumbersUptoCardSaid : Prop := Claim7.holds Tryd.pinned (.plain (OpenSpec.upto riseNumbersSpec)) riseNumbersUptoCard

/-- THE SECOND FORM's CARD OF 'stairwelllaw13.MailReads'. -/
def mailReadsUptoCard : Claim7 := { stood := { row := mailReadsUptoRow, standIns := [], harness := (true, "65a7beb20700ef24c7710fcba03cc1ad40dd0ff07cf18a6b34ea087614c550a0"), looks := false }, kinds := [], alts := [], laidByText := true, laidKinds := [.data, .pinned], laidTests := true, laidLooks := .later }
def MailReadsUptoCardSaid : Prop := Claim7.holds Tryd.pinned (.plain (OpenSpec.upto mailReadsSpec)) mailReadsUptoCard

/-- THE SECOND FORM's CARD OF 'stairwelllaw13.MailBytes'. -/
def mailBytesUptoCard : Claim7 := { stood := { row := mailBytesUptoRow, standIns := [], harness := (true, "65a7beb20700ef24c7710fcba03cc1ad40dd0ff07cf18a6b34ea087614c550a0"), looks := false }, kinds := [], alts := [], laidByText := true, laidKinds := [.data, .pinned], laidTests := true, laidLooks := .later }
def MailBytesUptoCardSaid : Prop := Claim7.holds Tryd.pinned (.plain (OpenSpec.upto mailBytesSpec)) mailBytesUptoCard
end Rows
end Go.Proofs.YtaelkcinofhhcaaDoor
