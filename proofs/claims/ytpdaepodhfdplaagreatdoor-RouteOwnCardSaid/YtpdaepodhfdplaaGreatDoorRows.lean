/-
  NARROWER THAN 'FOR EVERY INPUT', by the rows' own cells (each row's printed sentence says how): LineGoes: laid · LineFirst: laid · LineOf: laid · LineWakes: laid · LinePlays: laid · RouteLeads: laid · RouteOwn: laid · RoutePlays: laid.
  DERIVED. THE GIVEN ROWS OF THIS SEAT. 8 by the template 'for every input the law returns true; each argument reads behind the call as it read before'; 0 by the template 'total and deterministic' (their statements: YtpdaepodhfdplaaGreatDoorTotals.lean).
  GIVEN WITH THE SEED: the statements are not yours to turn. If you find one false, say at which input.
  Laid BY PROGRAM, IN A SANDBOX (cutbox-rows.mjs): the forced cells as the released guide's own fill.sh prints them over the translation c0d15c2f6c713250… (all of the seat's roots in one cut). By AI agents, Wed Nov 11 2026. No macro, syntax, notation, axiom, sorry.
-/
import Derived.Test.YtpdaepodhfdplaaGreatDoorChecked
import GoSem.PinnedTables
import GoSem.Claim
import GoSem.ClaimJoined
import GoSem.ClaimMapViews
import Derived.JoinedTies
import Derived.KernelRfl
namespace Go.Proofs.YtpdaepodhfdplaaGreatDoor
/- THE CELL 'sum', in the pinned program and in every row, IS THE sha256 OF THE DUMP (.gsa) THAT YtpdaepodhfdplaaGreatDoorProg.lean LOADS. Nothing in Lean hashes anything: it is a label: what it is worth is what the hold of that sum in a sandbox is worth. -/
noncomputable def Tryz.pinned : Pinned := { name := "ytpdaepodhfdplaagreatdoor", sum := "c0d15c2f6c713250d9a91512ed43dfb2478af1b3a0fed194028db3d53ae67e48", checked := Tryz.checked }
namespace Rows
def none {H : Type} : Left H := { results := [], args := [] }

/- WHAT THE LISTED PACKAGE-LEVEL VARIABLES READ AS WHEN THE CALL BEGINS. Each datum BY PROGRAM (the guide's laid-datum.mjs) off the statement by which the dump's own 'gosem.cut.vars' lays the variable. In a bare row this is a premise. The card (YtpdaepodhfdplaaGreatDoorCards.lean) ties it to the program's text. -/
def laid_unicode_utf8_acceptRanges {H : Type} : DataW H := .agg [.agg [.lit (.int .u8 128), .lit (.int .u8 191)], .agg [.lit (.int .u8 160), .lit (.int .u8 191)], .agg [.lit (.int .u8 128), .lit (.int .u8 159)], .agg [.lit (.int .u8 144), .lit (.int .u8 191)], .agg [.lit (.int .u8 128), .lit (.int .u8 143)], .agg [.lit (.int .u8 0), .lit (.int .u8 0)], .agg [.lit (.int .u8 0), .lit (.int .u8 0)], .agg [.lit (.int .u8 0), .lit (.int .u8 0)], .agg [.lit (.int .u8 0), .lit (.int .u8 0)], .agg [.lit (.int .u8 0), .lit (.int .u8 0)], .agg [.lit (.int .u8 0), .lit (.int .u8 0)], .agg [.lit (.int .u8 0), .lit (.int .u8 0)], .agg [.lit (.int .u8 0), .lit (.int .u8 0)], .agg [.lit (.int .u8 0), .lit (.int .u8 0)], .agg [.lit (.int .u8 0), .lit (.int .u8 0)], .agg [.lit (.int .u8 0), .lit (.int .u8 0)]]
/-- One of Go's own tables, pinned by name: the form's constant. -/
def laid_unicode_utf8_first : DataW Unit := Go.Pinned.utf8First

/-- 'stairwelllaw18.LineGoes': WHATEVER THE INPUT: true; the input reads as it did. -/
def lineGoesSpec : ChangeSpec := { name := "lineGoes", fn := fun _ => fun
  | [d] => { results := [.lit (.bool true)], args := [d] }
  | _ => none }
def lineGoesRow : OpenClaim := { program := "ytpdaepodhfdplaagreatdoor", sum := "c0d15c2f6c713250d9a91512ed43dfb2478af1b3a0fed194028db3d53ae67e48", func := "stairwell/stairwelllaw18.LineGoes", spec := "lineGoes", inPlace := ["internal/bytealg.CountString", "internal/bytealg.IndexByteString", "internal/bytealg.IndexString", "internal/abi.NoEscape"], unfollowed := true, recurses := true, named := ["unicode/utf8.first", "unicode/utf8.acceptRanges", "internal/bytealg.MaxLen"], apart := false, laid := [("unicode/utf8.acceptRanges", laid_unicode_utf8_acceptRanges), ("unicode/utf8.first", laid_unicode_utf8_first)] }
def LineGoesSaid : Prop := lineGoesRow.holds Tryz.pinned (OpenSpec.ofChange lineGoesSpec)

/-- ITS FALSE NEIGHBOUR: 'it returns false'. Refute it at one input. -/
def lineGoesWrong : ChangeSpec := { name := "lineGoes", fn := fun _ => fun
  | [d] => { results := [.lit (.bool false)], args := [d] }
  | _ => none }
def LineGoesWrongFalsely : Prop := lineGoesRow.holds Tryz.pinned (OpenSpec.ofChange lineGoesWrong)

/-- 'stairwelllaw18.LineFirst': WHATEVER THE INPUT: true; the input reads as it did. -/
def lineFirstSpec : ChangeSpec := { name := "lineFirst", fn := fun _ => fun
  | [d1, d2] => { results := [.lit (.bool true)], args := [d1, d2] }
  | _ => none }
def lineFirstRow : OpenClaim := { program := "ytpdaepodhfdplaagreatdoor", sum := "c0d15c2f6c713250d9a91512ed43dfb2478af1b3a0fed194028db3d53ae67e48", func := "stairwell/stairwelllaw18.LineFirst", spec := "lineFirst", inPlace := ["internal/bytealg.CountString", "internal/bytealg.IndexByteString", "internal/bytealg.IndexString", "internal/abi.NoEscape"], unfollowed := true, recurses := true, named := ["unicode/utf8.first", "unicode/utf8.acceptRanges", "internal/bytealg.MaxLen"], apart := false, laid := [("unicode/utf8.acceptRanges", laid_unicode_utf8_acceptRanges), ("unicode/utf8.first", laid_unicode_utf8_first)] }
def LineFirstSaid : Prop := lineFirstRow.holds Tryz.pinned (OpenSpec.ofChange lineFirstSpec)

/-- ITS FALSE NEIGHBOUR: 'it returns false'. Refute it at one input. -/
def lineFirstWrong : ChangeSpec := { name := "lineFirst", fn := fun _ => fun
  | [d1, d2] => { results := [.lit (.bool false)], args := [d1, d2] }
  | _ => none }
def LineFirstWrongFalsely : Prop := lineFirstRow.holds Tryz.pinned (OpenSpec.ofChange lineFirstWrong)

/-- 'stairwelllaw18.LineOf': WHATEVER THE INPUT: true; the input reads as it did. -/
def lineOfSpec : ChangeSpec := { name := "lineOf", fn := fun _ => fun
  | [d] => { results := [.lit (.bool true)], args := [d] }
  | _ => none }
def lineOfRow : OpenClaim := { program := "ytpdaepodhfdplaagreatdoor", sum := "c0d15c2f6c713250d9a91512ed43dfb2478af1b3a0fed194028db3d53ae67e48", func := "stairwell/stairwelllaw18.LineOf", spec := "lineOf", inPlace := ["internal/bytealg.CountString", "internal/bytealg.IndexByteString", "internal/bytealg.IndexString", "internal/abi.NoEscape"], unfollowed := true, recurses := true, named := ["unicode/utf8.first", "unicode/utf8.acceptRanges", "internal/bytealg.MaxLen"], apart := false, laid := [("unicode/utf8.acceptRanges", laid_unicode_utf8_acceptRanges), ("unicode/utf8.first", laid_unicode_utf8_first)] }
def LineOfSaid : Prop := lineOfRow.holds Tryz.pinned (OpenSpec.ofChange lineOfSpec)

/-- ITS FALSE NEIGHBOUR: 'it returns false'. Refute it at one input. -/
def lineOfWrong : ChangeSpec := { name := "lineOf", fn := fun _ => fun
  | [d] => { results := [.lit (.bool false)], args := [d] }
  | _ => none }
def LineOfWrongFalsely : Prop := lineOfRow.holds Tryz.pinned (OpenSpec.ofChange lineOfWrong)

/-- 'stairwelllaw18.LineWakes': WHATEVER THE INPUT: true; the input reads as it did. -/
def lineWakesSpec : ChangeSpec := { name := "lineWakes", fn := fun _ => fun
  | [d] => { results := [.lit (.bool true)], args := [d] }
  | _ => none }
def lineWakesRow : OpenClaim := { program := "ytpdaepodhfdplaagreatdoor", sum := "c0d15c2f6c713250d9a91512ed43dfb2478af1b3a0fed194028db3d53ae67e48", func := "stairwell/stairwelllaw18.LineWakes", spec := "lineWakes", inPlace := ["internal/bytealg.CountString", "internal/bytealg.IndexByteString", "internal/bytealg.IndexString", "internal/abi.NoEscape"], unfollowed := true, recurses := true, named := ["unicode/utf8.first", "unicode/utf8.acceptRanges", "internal/bytealg.MaxLen"], apart := false, laid := [("unicode/utf8.acceptRanges", laid_unicode_utf8_acceptRanges), ("unicode/utf8.first", laid_unicode_utf8_first)] }
def LineWakesSaid : Prop := lineWakesRow.holds Tryz.pinned (OpenSpec.ofChange lineWakesSpec)

/-- ITS FALSE NEIGHBOUR: 'it returns false'. Refute it at one input. -/
def lineWakesWrong : ChangeSpec := { name := "lineWakes", fn := fun _ => fun
  | [d] => { results := [.lit (.bool false)], args := [d] }
  | _ => none }
def LineWakesWrongFalsely : Prop := lineWakesRow.holds Tryz.pinned (OpenSpec.ofChange lineWakesWrong)

/-- 'stairwelllaw18.LinePlays': WHATEVER THE INPUT: true; the input reads as it did. -/
def linePlaysSpec : ChangeSpec := { name := "linePlays", fn := fun _ => fun
  | [d1, d2] => { results := [.lit (.bool true)], args := [d1, d2] }
  | _ => none }
def linePlaysRow : OpenClaim := { program := "ytpdaepodhfdplaagreatdoor", sum := "c0d15c2f6c713250d9a91512ed43dfb2478af1b3a0fed194028db3d53ae67e48", func := "stairwell/stairwelllaw18.LinePlays", spec := "linePlays", inPlace := ["internal/bytealg.CountString", "internal/bytealg.IndexByteString", "internal/bytealg.IndexString", "internal/abi.NoEscape"], unfollowed := true, recurses := true, named := ["unicode/utf8.first", "unicode/utf8.acceptRanges", "internal/bytealg.MaxLen"], apart := false, laid := [("unicode/utf8.acceptRanges", laid_unicode_utf8_acceptRanges), ("unicode/utf8.first", laid_unicode_utf8_first)] }
def LinePlaysSaid : Prop := linePlaysRow.holds Tryz.pinned (OpenSpec.ofChange linePlaysSpec)

/-- ITS FALSE NEIGHBOUR: 'it returns false'. Refute it at one input. -/
def linePlaysWrong : ChangeSpec := { name := "linePlays", fn := fun _ => fun
  | [d1, d2] => { results := [.lit (.bool false)], args := [d1, d2] }
  | _ => none }
def LinePlaysWrongFalsely : Prop := linePlaysRow.holds Tryz.pinned (OpenSpec.ofChange linePlaysWrong)

/-- 'stairwelllaw14.RouteLeads': WHATEVER THE INPUT: true; the input reads as it did. -/
def routeLeadsSpec : ChangeSpec := { name := "routeLeads", fn := fun _ => fun
  | [d1, d2, d3, d4] => { results := [.lit (.bool true)], args := [d1, d2, d3, d4] }
  | _ => none }
def routeLeadsRow : OpenClaim := { program := "ytpdaepodhfdplaagreatdoor", sum := "c0d15c2f6c713250d9a91512ed43dfb2478af1b3a0fed194028db3d53ae67e48", func := "stairwell/stairwelllaw14.RouteLeads", spec := "routeLeads", inPlace := ["internal/bytealg.CountString", "internal/bytealg.IndexByteString", "internal/bytealg.IndexString", "internal/abi.NoEscape"], unfollowed := true, recurses := true, named := ["unicode/utf8.first", "unicode/utf8.acceptRanges", "internal/bytealg.MaxLen"], apart := false, laid := [("unicode/utf8.acceptRanges", laid_unicode_utf8_acceptRanges), ("unicode/utf8.first", laid_unicode_utf8_first)] }
def RouteLeadsSaid : Prop := routeLeadsRow.holds Tryz.pinned (OpenSpec.ofChange routeLeadsSpec)

/-- ITS FALSE NEIGHBOUR: 'it returns false'. Refute it at one input. -/
def routeLeadsWrong : ChangeSpec := { name := "routeLeads", fn := fun _ => fun
  | [d1, d2, d3, d4] => { results := [.lit (.bool false)], args := [d1, d2, d3, d4] }
  | _ => none }
def RouteLeadsWrongFalsely : Prop := routeLeadsRow.holds Tryz.pinned (OpenSpec.ofChange routeLeadsWrong)

/-- 'stairwelllaw14.RouteOwn': WHATEVER THE INPUT: true; the input reads as it did. -/
def routeOwnSpec : ChangeSpec := { name := "routeOwn", fn := fun _ => fun
  | [d1, d2, d3, d4, d5] => { results := [.lit (.bool true)], args := [d1, d2, d3, d4, d5] }
  | _ => none }
def routeOwnRow : OpenClaim := { program := "ytpdaepodhfdplaagreatdoor", sum := "c0d15c2f6c713250d9a91512ed43dfb2478af1b3a0fed194028db3d53ae67e48", func := "stairwell/stairwelllaw14.RouteOwn", spec := "routeOwn", inPlace := ["internal/bytealg.CountString", "internal/bytealg.IndexByteString", "internal/bytealg.IndexString", "internal/abi.NoEscape"], unfollowed := true, recurses := true, named := ["unicode/utf8.first", "unicode/utf8.acceptRanges", "internal/bytealg.MaxLen"], apart := false, laid := [("unicode/utf8.acceptRanges", laid_unicode_utf8_acceptRanges), ("unicode/utf8.first", laid_unicode_utf8_first)] }
def RouteOwnSaid : Prop := routeOwnRow.holds Tryz.pinned (OpenSpec.ofChange routeOwnSpec)

/-- ITS FALSE NEIGHBOUR: 'it returns false'. Refute it at one input. -/
def routeOwnWrong : ChangeSpec := { name := "routeOwn", fn := fun _ => fun
  | [d1, d2, d3, d4, d5] => { results := [.lit (.bool false)], args := [d1, d2, d3, d4, d5] }
  | _ => none }
def RouteOwnWrongFalsely : Prop := routeOwnRow.holds Tryz.pinned (OpenSpec.ofChange routeOwnWrong)

/-- 'stairwelllaw14.RoutePlays': WHATEVER THE INPUT: true; the input reads as it did. -/
def routePlaysSpec : ChangeSpec := { name := "routePlays", fn := fun _ => fun
  | [d] => { results := [.lit (.bool true)], args := [d] }
  | _ => none }
def routePlaysRow : OpenClaim := { program := "ytpdaepodhfdplaagreatdoor", sum := "c0d15c2f6c713250d9a91512ed43dfb2478af1b3a0fed194028db3d53ae67e48", func := "stairwell/stairwelllaw14.RoutePlays", spec := "routePlays", inPlace := ["internal/bytealg.CountString", "internal/bytealg.IndexByteString", "internal/bytealg.IndexString", "internal/abi.NoEscape"], unfollowed := true, recurses := true, named := ["unicode/utf8.first", "unicode/utf8.acceptRanges", "internal/bytealg.MaxLen"], apart := false, laid := [("unicode/utf8.acceptRanges", laid_unicode_utf8_acceptRanges), ("unicode/utf8.first", laid_unicode_utf8_first)] }
def RoutePlaysSaid : Prop := routePlaysRow.holds Tryz.pinned (OpenSpec.ofChange routePlaysSpec)

/-- ITS FALSE NEIGHBOUR: 'it returns false'. Refute it at one input. -/
def routePlaysWrong : ChangeSpec := { name := "routePlays", fn := fun _ => fun
  | [d] => { results := [.lit (.bool false)], args := [d] }
  | _ => none }
def RoutePlaysWrongFalsely : Prop := routePlaysRow.holds Tryz.pinned (OpenSpec.ofChange routePlaysWrong)

/- THE SECOND FORM. 'bulk': how many values and letters a reading holds, each counted each time it is reached (what is shared counts as often as it is met; a slice's spare places count too). A statement '..UptoSaid' is the law's where the arguments, and the package variables that the reading takes, are together of bulk at most 1048576: NARROWER than '..Said'. Prove '..Said' where nothing that the law and all that it calls make is longer than what came in: it says more and counts as full. Else prove '..UptoSaid'. A law counts once. -/
mutual
def uptoBulk {H : Type} : DataW H → Nat
  | .lit (.string bytes) => bytes.length + 1
  | .lit _ => 1
  | .nil => 1
  | .ptr d => uptoBulk d + 1
  | .slice elems spare => uptoBulkAll elems + uptoBulkAll spare + 1
  | .agg parts => uptoBulkAll parts + 1
  | .iface _ d => uptoBulk d + 1
  | .map entries => uptoBulkEntries entries + 1
  | .held _ => 1
def uptoBulkAll {H : Type} : List (DataW H) → Nat
  | [] => 0
  | d :: r => uptoBulk d + uptoBulkAll r
def uptoBulkEntries {H : Type} : List (Lit × DataW H) → Nat
  | [] => 0
  | x :: r => uptoBulkEntry x + uptoBulkEntries r
def uptoBulkEntry {H : Type} : Lit × DataW H → Nat
  | (.string bytes, d) => bytes.length + uptoBulk d + 1
  | (_, d) => uptoBulk d + 1
 end
def uptoSmall : (H : Type) → List (DataW H) → Bool := fun _ ds => decide (uptoBulkAll ds ≤ 1048576)
def OpenSpec.upto (s : _root_.Go.ChangeSpec) : _root_.Go.OpenSpec := { _root_.Go.OpenSpec.ofChange s with cond := some uptoSmall }

/-- 'stairwelllaw18.LineGoes', WHERE WHAT IT READS IS OF BULK AT MOST 1048576: true; the input reads as it did. -/
def lineGoesUptoRow : OpenClaim := { program := "ytpdaepodhfdplaagreatdoor", sum := "c0d15c2f6c713250d9a91512ed43dfb2478af1b3a0fed194028db3d53ae67e48", func := "stairwell/stairwelllaw18.LineGoes", spec := "lineGoes", inPlace := ["internal/bytealg.CountString", "internal/bytealg.IndexByteString", "internal/bytealg.IndexString", "internal/abi.NoEscape"], unfollowed := true, recurses := true, named := ["unicode/utf8.first", "unicode/utf8.acceptRanges", "internal/bytealg.MaxLen"], apart := false, laid := [("unicode/utf8.acceptRanges", laid_unicode_utf8_acceptRanges), ("unicode/utf8.first", laid_unicode_utf8_first)], narrowed := true }
def LineGoesUptoSaid : Prop := lineGoesUptoRow.holds Tryz.pinned (OpenSpec.upto lineGoesSpec)

/-- 'stairwelllaw18.LineFirst', WHERE WHAT IT READS IS OF BULK AT MOST 1048576: true; the input reads as it did. -/
def lineFirstUptoRow : OpenClaim := { program := "ytpdaepodhfdplaagreatdoor", sum := "c0d15c2f6c713250d9a91512ed43dfb2478af1b3a0fed194028db3d53ae67e48", func := "stairwell/stairwelllaw18.LineFirst", spec := "lineFirst", inPlace := ["internal/bytealg.CountString", "internal/bytealg.IndexByteString", "internal/bytealg.IndexString", "internal/abi.NoEscape"], unfollowed := true, recurses := true, named := ["unicode/utf8.first", "unicode/utf8.acceptRanges", "internal/bytealg.MaxLen"], apart := false, laid := [("unicode/utf8.acceptRanges", laid_unicode_utf8_acceptRanges), ("unicode/utf8.first", laid_unicode_utf8_first)], narrowed := true }
def LineFirstUptoSaid : Prop := lineFirstUptoRow.holds Tryz.pinned (OpenSpec.upto lineFirstSpec)

/-- 'stairwelllaw18.LineOf', WHERE WHAT IT READS IS OF BULK AT MOST 1048576: true; the input reads as it did. -/
def lineOfUptoRow : OpenClaim := { program := "ytpdaepodhfdplaagreatdoor", sum := "c0d15c2f6c713250d9a91512ed43dfb2478af1b3a0fed194028db3d53ae67e48", func := "stairwell/stairwelllaw18.LineOf", spec := "lineOf", inPlace := ["internal/bytealg.CountString", "internal/bytealg.IndexByteString", "internal/bytealg.IndexString", "internal/abi.NoEscape"], unfollowed := true, recurses := true, named := ["unicode/utf8.first", "unicode/utf8.acceptRanges", "internal/bytealg.MaxLen"], apart := false, laid := [("unicode/utf8.acceptRanges", laid_unicode_utf8_acceptRanges), ("unicode/utf8.first", laid_unicode_utf8_first)], narrowed := true }
def LineOfUptoSaid : Prop := lineOfUptoRow.holds Tryz.pinned (OpenSpec.upto lineOfSpec)

/-- 'stairwelllaw18.LineWakes', WHERE WHAT IT READS IS OF BULK AT MOST 1048576: true; the input reads as it did. -/
def lineWakesUptoRow : OpenClaim := { program := "ytpdaepodhfdplaagreatdoor", sum := "c0d15c2f6c713250d9a91512ed43dfb2478af1b3a0fed194028db3d53ae67e48", func := "stairwell/stairwelllaw18.LineWakes", spec := "lineWakes", inPlace := ["internal/bytealg.CountString", "internal/bytealg.IndexByteString", "internal/bytealg.IndexString", "internal/abi.NoEscape"], unfollowed := true, recurses := true, named := ["unicode/utf8.first", "unicode/utf8.acceptRanges", "internal/bytealg.MaxLen"], apart := false, laid := [("unicode/utf8.acceptRanges", laid_unicode_utf8_acceptRanges), ("unicode/utf8.first", laid_unicode_utf8_first)], narrowed := true }
def LineWakesUptoSaid : Prop := lineWakesUptoRow.holds Tryz.pinned (OpenSpec.upto lineWakesSpec)

/-- 'stairwelllaw18.LinePlays', WHERE WHAT IT READS IS OF BULK AT MOST 1048576: true; the input reads as it did. -/
def linePlaysUptoRow : OpenClaim := { program := "ytpdaepodhfdplaagreatdoor", sum := "c0d15c2f6c713250d9a91512ed43dfb2478af1b3a0fed194028db3d53ae67e48", func := "stairwell/stairwelllaw18.LinePlays", spec := "linePlays", inPlace := ["internal/bytealg.CountString", "internal/bytealg.IndexByteString", "internal/bytealg.IndexString", "internal/abi.NoEscape"], unfollowed := true, recurses := true, named := ["unicode/utf8.first", "unicode/utf8.acceptRanges", "internal/bytealg.MaxLen"], apart := false, laid := [("unicode/utf8.acceptRanges", laid_unicode_utf8_acceptRanges), ("unicode/utf8.first", laid_unicode_utf8_first)], narrowed := true }
def LinePlaysUptoSaid : Prop := linePlaysUptoRow.holds Tryz.pinned (OpenSpec.upto linePlaysSpec)

/-- 'stairwelllaw14.RouteLeads', WHERE WHAT IT READS IS OF BULK AT MOST 1048576: true; the input reads as it did. -/
def routeLeadsUptoRow : OpenClaim := { program := "ytpdaepodhfdplaagreatdoor", sum := "c0d15c2f6c713250d9a91512ed43dfb2478af1b3a0fed194028db3d53ae67e48", func := "stairwell/stairwelllaw14.RouteLeads", spec := "routeLeads", inPlace := ["internal/bytealg.CountString", "internal/bytealg.IndexByteString", "internal/bytealg.IndexString", "internal/abi.NoEscape"], unfollowed := true, recurses := true, named := ["unicode/utf8.first", "unicode/utf8.acceptRanges", "internal/bytealg.MaxLen"], apart := false, laid := [("unicode/utf8.acceptRanges", laid_unicode_utf8_acceptRanges), ("unicode/utf8.first", laid_unicode_utf8_first)], narrowed := true }
def RouteLeadsUptoSaid : Prop := routeLeadsUptoRow.holds Tryz.pinned (OpenSpec.upto routeLeadsSpec)

/-- 'stairwelllaw14.RouteOwn', WHERE WHAT IT READS IS OF BULK AT MOST 1048576: true; the input reads as it did. -/
def routeOwnUptoRow : OpenClaim := { program := "ytpdaepodhfdplaagreatdoor", sum := "c0d15c2f6c713250d9a91512ed43dfb2478af1b3a0fed194028db3d53ae67e48", func := "stairwell/stairwelllaw14.RouteOwn", spec := "routeOwn", inPlace := ["internal/bytealg.CountString", "internal/bytealg.IndexByteString", "internal/bytealg.IndexString", "internal/abi.NoEscape"], unfollowed := true, recurses := true, named := ["unicode/utf8.first", "unicode/utf8.acceptRanges", "internal/bytealg.MaxLen"], apart := false, laid := [("unicode/utf8.acceptRanges", laid_unicode_utf8_acceptRanges), ("unicode/utf8.first", laid_unicode_utf8_first)], narrowed := true }
def RouteOwnUptoSaid : Prop := routeOwnUptoRow.holds Tryz.pinned (OpenSpec.upto routeOwnSpec)

/-- 'stairwelllaw14.RoutePlays', WHERE WHAT IT READS IS OF BULK AT MOST 1048576: true; the input reads as it did. -/
def routePlaysUptoRow : OpenClaim := { program := "ytpdaepodhfdplaagreatdoor", sum := "c0d15c2f6c713250d9a91512ed43dfb2478af1b3a0fed194028db3d53ae67e48", func := "stairwell/stairwelllaw14.RoutePlays", spec := "routePlays", inPlace := ["internal/bytealg.CountString", "internal/bytealg.IndexByteString", "internal/bytealg.IndexString", "internal/abi.NoEscape"], unfollowed := true, recurses := true, named := ["unicode/utf8.first", "unicode/utf8.acceptRanges", "internal/bytealg.MaxLen"], apart := false, laid := [("unicode/utf8.acceptRanges", laid_unicode_utf8_acceptRanges), ("unicode/utf8.first", laid_unicode_utf8_first)], narrowed := true }
def RoutePlaysUptoSaid : Prop := routePlaysUptoRow.holds Tryz.pinned (OpenSpec.upto routePlaysSpec)

end Rows
end Go.Proofs.YtpdaepodhfdplaaGreatDoor
