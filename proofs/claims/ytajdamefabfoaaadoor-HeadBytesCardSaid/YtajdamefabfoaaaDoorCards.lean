/-
  DERIVED. GIVEN WITH THE SEED: THE CARDS: each row of YtajdamefabfoaaaDoorRows.lean that lists a variable, with what it lists TIED to the program's text (the seventh form; the later family's looks); each row that meets fmt, with fmt's text TOLD by the authors' own Lean function (tested against real Go, not proved from fmt's source: count such statements apart). THE CARD IS WHAT COUNTS. Prove the row's statement (the work); the ties are given (YtajdamefabfoaaaDoorTie.lean); close each card by the builder's one call (the guide's Derived/Test/ToyasCard.lean, 'card_holds'). Laid BY PROGRAM, IN A SANDBOX (cutbox-door.mjs). By AI agents, Wed Nov 11 2026. No macro, syntax, notation, axiom, sorry.
-/
import Derived.Test.YtajdamefabfoaaaDoorRows
import GoSem.ClaimSeven
namespace Go.Proofs.YtajdamefabfoaaaDoor
namespace Rows

/-- THE TIED CARD OF 'stairwelllaw04.WordsMatches'. -/
def wordsMatchesCard : Claim7 := { stood := { row := wordsMatchesRow, standIns := [], harness := (true, "9684c5c2bc89cde7cf5b81184002604cb288f9cf1c8503539979adcfdaeab2bd"), looks := false }, kinds := [], alts := [], laidByText := true, laidKinds := [.data, .pinned], laidTests := true, laidLooks := .later }
def WordsMatchesCardSaid : Prop := Claim7.holds Tryd.pinned (.plain (OpenSpec.ofChange wordsMatchesSpec)) wordsMatchesCard

/-- THE TIED CARD OF 'stairwelllaw04.WordsForms'. -/
def wordsFormsCard : Claim7 := { stood := { row := wordsFormsRow, standIns := [], harness := (true, "9684c5c2bc89cde7cf5b81184002604cb288f9cf1c8503539979adcfdaeab2bd"), looks := false }, kinds := [], alts := [], laidByText := true, laidKinds := [.data, .pinned], laidTests := true, laidLooks := .later }
def WordsFormsCardSaid : Prop := Claim7.holds Tryd.pinned (.plain (OpenSpec.ofChange wordsFormsSpec)) wordsFormsCard

/-- THE TIED CARD OF 'stairwelllaw03.LatticeTexts'. -/
def latticeTextsCard : Claim7 := { stood := { row := latticeTextsRow, standIns := [], harness := (true, "9684c5c2bc89cde7cf5b81184002604cb288f9cf1c8503539979adcfdaeab2bd"), looks := false }, kinds := [], alts := [], laidByText := true, laidKinds := [.data, .data, .data], laidTests := true, laidLooks := .later }
def LatticeTextsCardSaid : Prop := Claim7.holds Tryd.pinned (.plain (OpenSpec.ofChange latticeTextsSpec)) latticeTextsCard

/-- THE TIED CARD OF 'stairwelllaw04.WordsSelf'. -/
def wordsSelfCard : Claim7 := { stood := { row := wordsSelfRow, standIns := [], harness := (true, "9684c5c2bc89cde7cf5b81184002604cb288f9cf1c8503539979adcfdaeab2bd"), looks := false }, kinds := [], alts := [], laidByText := true, laidKinds := [.data, .pinned], laidTests := true, laidLooks := .later }
def WordsSelfCardSaid : Prop := Claim7.holds Tryd.pinned (.plain (OpenSpec.ofChange wordsSelfSpec)) wordsSelfCard

/-- THE TIED CARD OF 'stairwelllaw04.WordsStars'. -/
def wordsStarsCard : Claim7 := { stood := { row := wordsStarsRow, standIns := [], harness := (true, "9684c5c2bc89cde7cf5b81184002604cb288f9cf1c8503539979adcfdaeab2bd"), looks := false }, kinds := [], alts := [], laidByText := true, laidKinds := [.data, .pinned], laidTests := true, laidLooks := .later }
def WordsStarsCardSaid : Prop := Claim7.holds Tryd.pinned (.plain (OpenSpec.ofChange wordsStarsSpec)) wordsStarsCard

/-- THE TIED CARD OF 'stairwelllaw09.HeadSame'. -/
def headSameCard : Claim7 := { stood := { row := headSameRow, standIns := [], harness := (true, "9684c5c2bc89cde7cf5b81184002604cb288f9cf1c8503539979adcfdaeab2bd"), looks := false }, kinds := [], alts := [], laidByText := true, laidKinds := [.data, .pinned], laidTests := true, laidLooks := .later }
def HeadSameCardSaid : Prop := Claim7.holds Tryd.pinned (.plain (OpenSpec.ofChange headSameSpec)) headSameCard

/-- THE TIED CARD OF 'stairwelllaw09.HeadReads'. -/
def headReadsCard : Claim7 := { stood := { row := headReadsRow, standIns := [], harness := (true, "9684c5c2bc89cde7cf5b81184002604cb288f9cf1c8503539979adcfdaeab2bd"), looks := false }, kinds := [], alts := [], laidByText := true, laidKinds := [.data, .pinned], laidTests := true, laidLooks := .later }
def HeadReadsCardSaid : Prop := Claim7.holds Tryd.pinned (.plain (OpenSpec.ofChange headReadsSpec)) headReadsCard

/-- THE TIED CARD OF 'stairwelllaw09.HeadBytes'. -/
def headBytesCard : Claim7 := { stood := { row := headBytesRow, standIns := [], harness := (true, "9684c5c2bc89cde7cf5b81184002604cb288f9cf1c8503539979adcfdaeab2bd"), looks := false }, kinds := [], alts := [], laidByText := true, laidKinds := [.data, .pinned], laidTests := true, laidLooks := .later }
def HeadBytesCardSaid : Prop := Claim7.holds Tryd.pinned (.plain (OpenSpec.ofChange headBytesSpec)) headBytesCard

/-- THE SECOND FORM's CARD OF 'stairwelllaw04.WordsMatches'. -/
def wordsMatchesUptoCard : Claim7 := { stood := { row := wordsMatchesUptoRow, standIns := [], harness := (true, "9684c5c2bc89cde7cf5b81184002604cb288f9cf1c8503539979adcfdaeab2bd"), looks := false }, kinds := [], alts := [], laidByText := true, laidKinds := [.data, .pinned], laidTests := true, laidLooks := .later }
def WordsMatchesUptoCardSaid : Prop := Claim7.holds Tryd.pinned (.plain (OpenSpec.upto wordsMatchesSpec)) wordsMatchesUptoCard

/-- THE SECOND FORM's CARD OF 'stairwelllaw04.WordsForms'. -/
def wordsFormsUptoCard : Claim7 := { stood := { row := wordsFormsUptoRow, standIns := [], harness := (true, "9684c5c2bc89cde7cf5b81184002604cb288f9cf1c8503539979adcfdaeab2bd"), looks := false }, kinds := [], alts := [], laidByText := true, laidKinds := [.data, .pinned], laidTests := true, laidLooks := .later }
def WordsFormsUptoCardSaid : Prop := Claim7.holds Tryd.pinned (.plain (OpenSpec.upto wordsFormsSpec)) wordsFormsUptoCard

/-- THE SECOND FORM's CARD OF 'stairwelllaw03.LatticeTexts'. -/
def latticeTextsUptoCard : Claim7 := { stood := { row := latticeTextsUptoRow, standIns := [], harness := (true, "9684c5c2bc89cde7cf5b81184002604cb288f9cf1c8503539979adcfdaeab2bd"), looks := false }, kinds := [], alts := [], laidByText := true, laidKinds := [.data, .data, .data], laidTests := true, laidLooks := .later }
def LatticeTextsUptoCardSaid : Prop := Claim7.holds Tryd.pinned (.plain (OpenSpec.upto latticeTextsSpec)) latticeTextsUptoCard

/-- THE SECOND FORM's CARD OF 'stairwelllaw04.WordsSelf'. -/
def wordsSelfUptoCard : Claim7 := { stood := { row := wordsSelfUptoRow, standIns := [], harness := (true, "9684c5c2bc89cde7cf5b81184002604cb288f9cf1c8503539979adcfdaeab2bd"), looks := false }, kinds := [], alts := [], laidByText := true, laidKinds := [.data, .pinned], laidTests := true, laidLooks := .later }
def WordsSelfUptoCardSaid : Prop := Claim7.holds Tryd.pinned (.plain (OpenSpec.upto wordsSelfSpec)) wordsSelfUptoCard

/-- THE SECOND FORM's CARD OF 'stairwelllaw04.WordsStars'. -/
def wordsStarsUptoCard : Claim7 := { stood := { row := wordsStarsUptoRow, standIns := [], harness := (true, "9684c5c2bc89cde7cf5b81184002604cb288f9cf1c8503539979adcfdaeab2bd"), looks := false }, kinds := [], alts := [], laidByText := true, laidKinds := [.data, .pinned], laidTests := true, laidLooks := .later }
def WordsStarsUptoCardSaid : Prop := Claim7.holds Tryd.pinned (.plain (OpenSpec.upto wordsStarsSpec)) wordsStarsUptoCard

/-- THE SECOND FORM's CARD OF 'stairwelllaw09.HeadSame'. -/
def headSameUptoCard : Claim7 := { stood := { row := headSameUptoRow, standIns := [], harness := (true, "9684c5c2bc89cde7cf5b81184002604cb288f9cf1c8503539979adcfdaeab2bd"), looks := false }, kinds := [], alts := [], laidByText := true, laidKinds := [.data, .pinned], laidTests := true, laidLooks := .later }
def HeadSameUptoCardSaid : Prop := Claim7.holds Tryd.pinned (.plain (OpenSpec.upto headSameSpec)) headSameUptoCard

/-- THE SECOND FORM's CARD OF 'stairwelllaw09.HeadReads'. -/
def headReadsUptoCard : Claim7 := { stood := { row := headReadsUptoRow, standIns := [], harness := (true, "9684c5c2bc89cde7cf5b81184002604cb288f9cf1c8503539979adcfdaeab2bd"), looks := false }, kinds := [], alts := [], laidByText := true, laidKinds := [.data, .pinned], laidTests := true, laidLooks := .later }
def HeadReadsUptoCardSaid : Prop := Claim7.holds Tryd.pinned (.plain (OpenSpec.upto headReadsSpec)) headReadsUptoCard

/-- THE SECOND FORM's CARD OF 'stairwelllaw09.HeadBytes'. -/
def headBytesUptoCard : Claim7 := { stood := { row := headBytesUptoRow, standIns := [], harness := (true, "9684c5c2bc89cde7cf5b81184002604cb288f9cf1c8503539979adcfdaeab2bd"), looks := false }, kinds := [], alts := [], laidByText := true, laidKinds := [.data, .pinned], laidTests := true, laidLooks := .later }
def HeadBytesUptoCardSaid : Prop := Claim7.holds Tryd.pinned (.plain (OpenSpec.upto headBytesSpec)) headBytesUptoCard
end Rows
end Go.Proofs.YtajdamefabfoaaaDoor
