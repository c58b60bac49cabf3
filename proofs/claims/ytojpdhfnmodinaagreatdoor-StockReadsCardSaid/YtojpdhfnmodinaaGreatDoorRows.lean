/-
  NARROWER THAN 'FOR EVERY INPUT', by the rows' own cells (each row's printed sentence says how): StockPushes: laid · StockHolds: laid · StockBacks: laid · StockReads: laid · StockPlays: laid.
  DERIVED. THE GIVEN ROWS OF THIS SEAT. 5 by the template 'for every input the law returns true; each argument reads behind the call as it read before'; 0 by the template 'total and deterministic' (their statements: YtojpdhfnmodinaaGreatDoorTotals.lean).
  GIVEN WITH THE SEED: the statements are not yours to turn. If you find one false, say at which input.
  Laid BY PROGRAM, IN A SANDBOX (cutbox-rows.mjs): the forced cells as the released guide's own fill.sh prints them over the translation 3abe42495269722d… (all of the seat's roots in one cut). By AI agents, Wed Nov 11 2026. No macro, syntax, notation, axiom, sorry.
-/
import Derived.Test.YtojpdhfnmodinaaGreatDoorChecked
import GoSem.PinnedTables
import GoSem.Claim
import GoSem.ClaimJoined
import GoSem.ClaimMapViews
import Derived.JoinedTies
import Derived.KernelRfl
namespace Go.Proofs.YtojpdhfnmodinaaGreatDoor
/- THE CELL 'sum', in the pinned program and in every row, IS THE sha256 OF THE DUMP (.gsa) THAT YtojpdhfnmodinaaGreatDoorProg.lean LOADS. Nothing in Lean hashes anything: it is a label: what it is worth is what the hold of that sum in a sandbox is worth. -/
noncomputable def Tryz.pinned : Pinned := { name := "ytojpdhfnmodinaagreatdoor", sum := "3abe42495269722d524cc371d2fd574e84ffffba5e7ca0923f5733c579c66827", checked := Tryz.checked }
namespace Rows
def none {H : Type} : Left H := { results := [], args := [] }

/- WHAT THE LISTED PACKAGE-LEVEL VARIABLES READ AS WHEN THE CALL BEGINS. Each datum BY PROGRAM (the guide's laid-datum.mjs) off the statement by which the dump's own 'gosem.cut.vars' lays the variable. In a bare row this is a premise. The card (YtojpdhfnmodinaaGreatDoorCards.lean) ties it to the program's text. -/
def laid_unicode_utf8_acceptRanges {H : Type} : DataW H := .agg [.agg [.lit (.int .u8 128), .lit (.int .u8 191)], .agg [.lit (.int .u8 160), .lit (.int .u8 191)], .agg [.lit (.int .u8 128), .lit (.int .u8 159)], .agg [.lit (.int .u8 144), .lit (.int .u8 191)], .agg [.lit (.int .u8 128), .lit (.int .u8 143)], .agg [.lit (.int .u8 0), .lit (.int .u8 0)], .agg [.lit (.int .u8 0), .lit (.int .u8 0)], .agg [.lit (.int .u8 0), .lit (.int .u8 0)], .agg [.lit (.int .u8 0), .lit (.int .u8 0)], .agg [.lit (.int .u8 0), .lit (.int .u8 0)], .agg [.lit (.int .u8 0), .lit (.int .u8 0)], .agg [.lit (.int .u8 0), .lit (.int .u8 0)], .agg [.lit (.int .u8 0), .lit (.int .u8 0)], .agg [.lit (.int .u8 0), .lit (.int .u8 0)], .agg [.lit (.int .u8 0), .lit (.int .u8 0)], .agg [.lit (.int .u8 0), .lit (.int .u8 0)]]
/-- One of Go's own tables, pinned by name: the form's constant. -/
def laid_unicode_utf8_first : DataW Unit := Go.Pinned.utf8First

/-- 'stairwelllaw21.StockPushes': WHATEVER THE INPUT: true; the input reads as it did. -/
def stockPushesSpec : ChangeSpec := { name := "stockPushes", fn := fun _ => fun
  | [d1, d2, d3] => { results := [.lit (.bool true)], args := [d1, d2, d3] }
  | _ => none }
def stockPushesRow : OpenClaim := { program := "ytojpdhfnmodinaagreatdoor", sum := "3abe42495269722d524cc371d2fd574e84ffffba5e7ca0923f5733c579c66827", func := "stairwell/stairwelllaw21.StockPushes", spec := "stockPushes", inPlace := ["internal/bytealg.CountString", "internal/bytealg.IndexByteString", "internal/bytealg.IndexString", "internal/abi.NoEscape"], unfollowed := true, recurses := true, named := ["unicode/utf8.first", "unicode/utf8.acceptRanges", "internal/bytealg.MaxLen"], apart := false, laid := [("unicode/utf8.acceptRanges", laid_unicode_utf8_acceptRanges), ("unicode/utf8.first", laid_unicode_utf8_first)] }
def StockPushesSaid : Prop := stockPushesRow.holds Tryz.pinned (OpenSpec.ofChange stockPushesSpec)

/-- ITS FALSE NEIGHBOUR: 'it returns false'. Refute it at one input. -/
def stockPushesWrong : ChangeSpec := { name := "stockPushes", fn := fun _ => fun
  | [d1, d2, d3] => { results := [.lit (.bool false)], args := [d1, d2, d3] }
  | _ => none }
def StockPushesWrongFalsely : Prop := stockPushesRow.holds Tryz.pinned (OpenSpec.ofChange stockPushesWrong)

/-- 'stairwelllaw21.StockHolds': WHATEVER THE INPUT: true; the input reads as it did. -/
def stockHoldsSpec : ChangeSpec := { name := "stockHolds", fn := fun _ => fun
  | [d1, d2, d3] => { results := [.lit (.bool true)], args := [d1, d2, d3] }
  | _ => none }
def stockHoldsRow : OpenClaim := { program := "ytojpdhfnmodinaagreatdoor", sum := "3abe42495269722d524cc371d2fd574e84ffffba5e7ca0923f5733c579c66827", func := "stairwell/stairwelllaw21.StockHolds", spec := "stockHolds", inPlace := ["internal/bytealg.CountString", "internal/bytealg.IndexByteString", "internal/bytealg.IndexString", "internal/abi.NoEscape"], unfollowed := true, recurses := true, named := ["unicode/utf8.first", "unicode/utf8.acceptRanges", "internal/bytealg.MaxLen"], apart := false, laid := [("unicode/utf8.acceptRanges", laid_unicode_utf8_acceptRanges), ("unicode/utf8.first", laid_unicode_utf8_first)] }
def StockHoldsSaid : Prop := stockHoldsRow.holds Tryz.pinned (OpenSpec.ofChange stockHoldsSpec)

/-- ITS FALSE NEIGHBOUR: 'it returns false'. Refute it at one input. -/
def stockHoldsWrong : ChangeSpec := { name := "stockHolds", fn := fun _ => fun
  | [d1, d2, d3] => { results := [.lit (.bool false)], args := [d1, d2, d3] }
  | _ => none }
def StockHoldsWrongFalsely : Prop := stockHoldsRow.holds Tryz.pinned (OpenSpec.ofChange stockHoldsWrong)

/-- 'stairwelllaw21.StockBacks': WHATEVER THE INPUT: true; the input reads as it did. -/
def stockBacksSpec : ChangeSpec := { name := "stockBacks", fn := fun _ => fun
  | [d1, d2] => { results := [.lit (.bool true)], args := [d1, d2] }
  | _ => none }
def stockBacksRow : OpenClaim := { program := "ytojpdhfnmodinaagreatdoor", sum := "3abe42495269722d524cc371d2fd574e84ffffba5e7ca0923f5733c579c66827", func := "stairwell/stairwelllaw21.StockBacks", spec := "stockBacks", inPlace := ["internal/bytealg.CountString", "internal/bytealg.IndexByteString", "internal/bytealg.IndexString", "internal/abi.NoEscape"], unfollowed := true, recurses := true, named := ["unicode/utf8.first", "unicode/utf8.acceptRanges", "internal/bytealg.MaxLen"], apart := false, laid := [("unicode/utf8.acceptRanges", laid_unicode_utf8_acceptRanges), ("unicode/utf8.first", laid_unicode_utf8_first)] }
def StockBacksSaid : Prop := stockBacksRow.holds Tryz.pinned (OpenSpec.ofChange stockBacksSpec)

/-- ITS FALSE NEIGHBOUR: 'it returns false'. Refute it at one input. -/
def stockBacksWrong : ChangeSpec := { name := "stockBacks", fn := fun _ => fun
  | [d1, d2] => { results := [.lit (.bool false)], args := [d1, d2] }
  | _ => none }
def StockBacksWrongFalsely : Prop := stockBacksRow.holds Tryz.pinned (OpenSpec.ofChange stockBacksWrong)

/-- 'stairwelllaw21.StockReads': WHATEVER THE INPUT: true; the input reads as it did. -/
def stockReadsSpec : ChangeSpec := { name := "stockReads", fn := fun _ => fun
  | [d1, d2] => { results := [.lit (.bool true)], args := [d1, d2] }
  | _ => none }
def stockReadsRow : OpenClaim := { program := "ytojpdhfnmodinaagreatdoor", sum := "3abe42495269722d524cc371d2fd574e84ffffba5e7ca0923f5733c579c66827", func := "stairwell/stairwelllaw21.StockReads", spec := "stockReads", inPlace := ["internal/bytealg.CountString", "internal/bytealg.IndexByteString", "internal/bytealg.IndexString", "internal/abi.NoEscape"], unfollowed := true, recurses := true, named := ["unicode/utf8.first", "unicode/utf8.acceptRanges", "internal/bytealg.MaxLen"], apart := false, laid := [("unicode/utf8.acceptRanges", laid_unicode_utf8_acceptRanges), ("unicode/utf8.first", laid_unicode_utf8_first)] }
def StockReadsSaid : Prop := stockReadsRow.holds Tryz.pinned (OpenSpec.ofChange stockReadsSpec)

/-- ITS FALSE NEIGHBOUR: 'it returns false'. Refute it at one input. -/
def stockReadsWrong : ChangeSpec := { name := "stockReads", fn := fun _ => fun
  | [d1, d2] => { results := [.lit (.bool false)], args := [d1, d2] }
  | _ => none }
def StockReadsWrongFalsely : Prop := stockReadsRow.holds Tryz.pinned (OpenSpec.ofChange stockReadsWrong)

/-- 'stairwelllaw21.StockPlays': WHATEVER THE INPUT: true; the input reads as it did. -/
def stockPlaysSpec : ChangeSpec := { name := "stockPlays", fn := fun _ => fun
  | [d1, d2, d3, d4] => { results := [.lit (.bool true)], args := [d1, d2, d3, d4] }
  | _ => none }
def stockPlaysRow : OpenClaim := { program := "ytojpdhfnmodinaagreatdoor", sum := "3abe42495269722d524cc371d2fd574e84ffffba5e7ca0923f5733c579c66827", func := "stairwell/stairwelllaw21.StockPlays", spec := "stockPlays", inPlace := ["internal/bytealg.CountString", "internal/bytealg.IndexByteString", "internal/bytealg.IndexString", "internal/abi.NoEscape"], unfollowed := true, recurses := true, named := ["unicode/utf8.first", "unicode/utf8.acceptRanges", "internal/bytealg.MaxLen"], apart := false, laid := [("unicode/utf8.acceptRanges", laid_unicode_utf8_acceptRanges), ("unicode/utf8.first", laid_unicode_utf8_first)] }
def StockPlaysSaid : Prop := stockPlaysRow.holds Tryz.pinned (OpenSpec.ofChange stockPlaysSpec)

/-- ITS FALSE NEIGHBOUR: 'it returns false'. Refute it at one input. -/
def stockPlaysWrong : ChangeSpec := { name := "stockPlays", fn := fun _ => fun
  | [d1, d2, d3, d4] => { results := [.lit (.bool false)], args := [d1, d2, d3, d4] }
  | _ => none }
def StockPlaysWrongFalsely : Prop := stockPlaysRow.holds Tryz.pinned (OpenSpec.ofChange stockPlaysWrong)

/- THE SECOND FORM. 'bulk': how many values and letters a reading holds, each counted each time it is reached (what is shared counts as often as it is met; a slice's spare places count too). A statement '..UptoSaid' is the law's where the arguments, and the package variables that the reading takes, are together of bulk at most 1048576: NARROWER than '..Said'. Prove '..Said' where nothing that the law and all that it calls make is longer than what came in: it says more and counts as full. Else prove '..UptoSaid'. A law counts once. -/
mutual
def uptoBulk {H : Type} : DataW H → Nat
  | .lit (.string bytes) => bytes.length + 1
  | .lit _ => 1
  | .nil => 1
  | .ptr d => uptoBulk d + 1
  | .slice elems spare => uptoBulkAll elems + uptoBulkAll spare + 1
  | .agg parts => uptoBulkAll parts + 1
  | .iface _ d => uptoBulk d + 1
  | .map entries => uptoBulkEntries entries + 1
  | .held _ => 1
def uptoBulkAll {H : Type} : List (DataW H) → Nat
  | [] => 0
  | d :: r => uptoBulk d + uptoBulkAll r
def uptoBulkEntries {H : Type} : List (Lit × DataW H) → Nat
  | [] => 0
  | x :: r => uptoBulkEntry x + uptoBulkEntries r
def uptoBulkEntry {H : Type} : Lit × DataW H → Nat
  | (.string bytes, d) => bytes.length + uptoBulk d + 1
  | (_, d) => uptoBulk d + 1
 end
def uptoSmall : (H : Type) → List (DataW H) → Bool := fun _ ds => decide (uptoBulkAll ds ≤ 1048576)
def OpenSpec.upto (s : _root_.Go.ChangeSpec) : _root_.Go.OpenSpec := { _root_.Go.OpenSpec.ofChange s with cond := some uptoSmall }

/-- 'stairwelllaw21.StockPushes', WHERE WHAT IT READS IS OF BULK AT MOST 1048576: true; the input reads as it did. -/
def stockPushesUptoRow : OpenClaim := { program := "ytojpdhfnmodinaagreatdoor", sum := "3abe42495269722d524cc371d2fd574e84ffffba5e7ca0923f5733c579c66827", func := "stairwell/stairwelllaw21.StockPushes", spec := "stockPushes", inPlace := ["internal/bytealg.CountString", "internal/bytealg.IndexByteString", "internal/bytealg.IndexString", "internal/abi.NoEscape"], unfollowed := true, recurses := true, named := ["unicode/utf8.first", "unicode/utf8.acceptRanges", "internal/bytealg.MaxLen"], apart := false, laid := [("unicode/utf8.acceptRanges", laid_unicode_utf8_acceptRanges), ("unicode/utf8.first", laid_unicode_utf8_first)], narrowed := true }
def StockPushesUptoSaid : Prop := stockPushesUptoRow.holds Tryz.pinned (OpenSpec.upto stockPushesSpec)

/-- 'stairwelllaw21.StockHolds', WHERE WHAT IT READS IS OF BULK AT MOST 1048576: true; the input reads as it did. -/
def stockHoldsUptoRow : OpenClaim := { program := "ytojpdhfnmodinaagreatdoor", sum := "3abe42495269722d524cc371d2fd574e84ffffba5e7ca0923f5733c579c66827", func := "stairwell/stairwelllaw21.StockHolds", spec := "stockHolds", inPlace := ["internal/bytealg.CountString", "internal/bytealg.IndexByteString", "internal/bytealg.IndexString", "internal/abi.NoEscape"], unfollowed := true, recurses := true, named := ["unicode/utf8.first", "unicode/utf8.acceptRanges", "internal/bytealg.MaxLen"], apart := false, laid := [("unicode/utf8.acceptRanges", laid_unicode_utf8_acceptRanges), ("unicode/utf8.first", laid_unicode_utf8_first)], narrowed := true }
def StockHoldsUptoSaid : Prop := stockHoldsUptoRow.holds Tryz.pinned (OpenSpec.upto stockHoldsSpec)

/-- 'stairwelllaw21.StockBacks', WHERE WHAT IT READS IS OF BULK AT MOST 1048576: true; the input reads as it did. -/
def stockBacksUptoRow : OpenClaim := { program := "ytojpdhfnmodinaagreatdoor", sum := "3abe42495269722d524cc371d2fd574e84ffffba5e7ca0923f5733c579c66827", func := "stairwell/stairwelllaw21.StockBacks", spec := "stockBacks", inPlace := ["internal/bytealg.CountString", "internal/bytealg.IndexByteString", "internal/bytealg.IndexString", "internal/abi.NoEscape"], unfollowed := true, recurses := true, named := ["unicode/utf8.first", "unicode/utf8.acceptRanges", "internal/bytealg.MaxLen"], apart := false, laid := [("unicode/utf8.acceptRanges", laid_unicode_utf8_acceptRanges), ("unicode/utf8.first", laid_unicode_utf8_first)], narrowed := true }
def StockBacksUptoSaid : Prop := stockBacksUptoRow.holds Tryz.pinned (OpenSpec.upto stockBacksSpec)

/-- 'stairwelllaw21.StockReads', WHERE WHAT IT READS IS OF BULK AT MOST 1048576: true; the input reads as it did. -/
def stockReadsUptoRow : OpenClaim := { program := "ytojpdhfnmodinaagreatdoor", sum := "3abe42495269722d524cc371d2fd574e84ffffba5e7ca0923f5733c579c66827", func := "stairwell/stairwelllaw21.StockReads", spec := "stockReads", inPlace := ["internal/bytealg.CountString", "internal/bytealg.IndexByteString", "internal/bytealg.IndexString", "internal/abi.NoEscape"], unfollowed := true, recurses := true, named := ["unicode/utf8.first", "unicode/utf8.acceptRanges", "internal/bytealg.MaxLen"], apart := false, laid := [("unicode/utf8.acceptRanges", laid_unicode_utf8_acceptRanges), ("unicode/utf8.first", laid_unicode_utf8_first)], narrowed := true }
def StockReadsUptoSaid : Prop := stockReadsUptoRow.holds Tryz.pinned (OpenSpec.upto stockReadsSpec)

/-- 'stairwelllaw21.StockPlays', WHERE WHAT IT READS IS OF BULK AT MOST 1048576: true; the input reads as it did. -/
def stockPlaysUptoRow : OpenClaim := { program := "ytojpdhfnmodinaagreatdoor", sum := "3abe42495269722d524cc371d2fd574e84ffffba5e7ca0923f5733c579c66827", func := "stairwell/stairwelllaw21.StockPlays", spec := "stockPlays", inPlace := ["internal/bytealg.CountString", "internal/bytealg.IndexByteString", "internal/bytealg.IndexString", "internal/abi.NoEscape"], unfollowed := true, recurses := true, named := ["unicode/utf8.first", "unicode/utf8.acceptRanges", "internal/bytealg.MaxLen"], apart := false, laid := [("unicode/utf8.acceptRanges", laid_unicode_utf8_acceptRanges), ("unicode/utf8.first", laid_unicode_utf8_first)], narrowed := true }
def StockPlaysUptoSaid : Prop := stockPlaysUptoRow.holds Tryz.pinned (OpenSpec.upto stockPlaysSpec)

end Rows
end Go.Proofs.YtojpdhfnmodinaaGreatDoor
