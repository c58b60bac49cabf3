/-
  NARROWER THAN 'FOR EVERY INPUT', by the rows' own cells (each row's printed sentence says how): MatchGoes: laid · MatchPlain: laid · MailSame: laid · MatchSame: laid · RiseTold: laid · RiseNumbers: laid · MailReads: laid · MailBytes: laid.
  DERIVED. THE GIVEN ROWS OF THIS SEAT. 8 by the template 'for every input the law returns true; each argument reads behind the call as it read before'; 0 by the template 'total and deterministic' (their statements: YtaelkcinofhhcaaDoorTotals.lean).
  GIVEN WITH THE SEED: the statements are not yours to turn. If you find one false, say at which input.
  Laid BY PROGRAM, IN A SANDBOX (cutbox-rows.mjs): the forced cells as the released guide's own fill.sh prints them over the translation 23a26a3aebfec04c… (all of the seat's roots in one cut). By AI agents, Wed Nov 11 2026. No macro, syntax, notation, axiom, sorry.
-/
import Derived.Test.YtaelkcinofhhcaaDoorChecked
import GoSem.PinnedTables
import GoSem.Claim
import GoSem.ClaimJoined
import GoSem.ClaimMapViews
import Derived.JoinedTies
import Derived.KernelRfl
namespace Go.Proofs.YtaelkcinofhhcaaDoor
/- THE CELL 'sum', in the pinned program and in every row, IS THE sha256 OF THE DUMP (.gsa) THAT YtaelkcinofhhcaaDoorProg.lean LOADS. Nothing in Lean hashes anything: it is a label: what it is worth is what the hold of that sum in a sandbox is worth. -/
noncomputable def Tryd.pinned : Pinned := { name := "ytaelkcinofhhcaadoor", sum := "23a26a3aebfec04cba6f8163e39637076f274a7c4f87904924c62e4c67ebf911", checked := Tryd.checked }
namespace Rows
def none {H : Type} : Left H := { results := [], args := [] }

/- WHAT THE LISTED PACKAGE-LEVEL VARIABLES READ AS WHEN THE CALL BEGINS. Each datum BY PROGRAM (the guide's laid-datum.mjs) off the statement by which the dump's own 'gosem.cut.vars' lays the variable. In a bare row this is a premise. The card (YtaelkcinofhhcaaDoorCards.lean) ties it to the program's text. -/
def laid_unicode_utf8_acceptRanges {H : Type} : DataW H := .agg [.agg [.lit (.int .u8 128), .lit (.int .u8 191)], .agg [.lit (.int .u8 160), .lit (.int .u8 191)], .agg [.lit (.int .u8 128), .lit (.int .u8 159)], .agg [.lit (.int .u8 144), .lit (.int .u8 191)], .agg [.lit (.int .u8 128), .lit (.int .u8 143)], .agg [.lit (.int .u8 0), .lit (.int .u8 0)], .agg [.lit (.int .u8 0), .lit (.int .u8 0)], .agg [.lit (.int .u8 0), .lit (.int .u8 0)], .agg [.lit (.int .u8 0), .lit (.int .u8 0)], .agg [.lit (.int .u8 0), .lit (.int .u8 0)], .agg [.lit (.int .u8 0), .lit (.int .u8 0)], .agg [.lit (.int .u8 0), .lit (.int .u8 0)], .agg [.lit (.int .u8 0), .lit (.int .u8 0)], .agg [.lit (.int .u8 0), .lit (.int .u8 0)], .agg [.lit (.int .u8 0), .lit (.int .u8 0)], .agg [.lit (.int .u8 0), .lit (.int .u8 0)]]
/-- One of Go's own tables, pinned by name: the form's constant. -/
def laid_unicode_utf8_first : DataW Unit := Go.Pinned.utf8First

/-- 'stairwelllaw10.MatchGoes': WHATEVER THE INPUT: true; the input reads as it did. -/
def matchGoesSpec : ChangeSpec := { name := "matchGoes", fn := fun _ => fun
  | [d1, d2, d3] => { results := [.lit (.bool true)], args := [d1, d2, d3] }
  | _ => none }
def matchGoesRow : OpenClaim := { program := "ytaelkcinofhhcaadoor", sum := "23a26a3aebfec04cba6f8163e39637076f274a7c4f87904924c62e4c67ebf911", func := "stairwell/stairwelllaw10.MatchGoes", spec := "matchGoes", inPlace := ["internal/bytealg.CountString", "internal/bytealg.IndexByteString", "internal/bytealg.IndexString", "internal/abi.NoEscape"], unfollowed := true, recurses := true, named := ["unicode/utf8.first", "unicode/utf8.acceptRanges", "internal/bytealg.MaxLen"], apart := false, laid := [("unicode/utf8.acceptRanges", laid_unicode_utf8_acceptRanges), ("unicode/utf8.first", laid_unicode_utf8_first)] }
def MatchGoesSaid : Prop := matchGoesRow.holds Tryd.pinned (OpenSpec.ofChange matchGoesSpec)

/-- ITS FALSE NEIGHBOUR: 'it returns false'. Refute it at one input. -/
def matchGoesWrong : ChangeSpec := { name := "matchGoes", fn := fun _ => fun
  | [d1, d2, d3] => { results := [.lit (.bool false)], args := [d1, d2, d3] }
  | _ => none }
def MatchGoesWrongFalsely : Prop := matchGoesRow.holds Tryd.pinned (OpenSpec.ofChange matchGoesWrong)

/-- 'stairwelllaw10.MatchPlain': WHATEVER THE INPUT: true; the input reads as it did. -/
def matchPlainSpec : ChangeSpec := { name := "matchPlain", fn := fun _ => fun
  | [d1, d2, d3] => { results := [.lit (.bool true)], args := [d1, d2, d3] }
  | _ => none }
def matchPlainRow : OpenClaim := { program := "ytaelkcinofhhcaadoor", sum := "23a26a3aebfec04cba6f8163e39637076f274a7c4f87904924c62e4c67ebf911", func := "stairwell/stairwelllaw10.MatchPlain", spec := "matchPlain", inPlace := ["internal/bytealg.CountString", "internal/bytealg.IndexByteString", "internal/bytealg.IndexString", "internal/abi.NoEscape"], unfollowed := true, recurses := true, named := ["unicode/utf8.first", "unicode/utf8.acceptRanges", "internal/bytealg.MaxLen"], apart := false, laid := [("unicode/utf8.acceptRanges", laid_unicode_utf8_acceptRanges), ("unicode/utf8.first", laid_unicode_utf8_first)] }
def MatchPlainSaid : Prop := matchPlainRow.holds Tryd.pinned (OpenSpec.ofChange matchPlainSpec)

/-- ITS FALSE NEIGHBOUR: 'it returns false'. Refute it at one input. -/
def matchPlainWrong : ChangeSpec := { name := "matchPlain", fn := fun _ => fun
  | [d1, d2, d3] => { results := [.lit (.bool false)], args := [d1, d2, d3] }
  | _ => none }
def MatchPlainWrongFalsely : Prop := matchPlainRow.holds Tryd.pinned (OpenSpec.ofChange matchPlainWrong)

/-- 'stairwelllaw13.MailSame': WHATEVER THE INPUT: true; the input reads as it did. -/
def mailSameSpec : ChangeSpec := { name := "mailSame", fn := fun _ => fun
  | [d1, d2] => { results := [.lit (.bool true)], args := [d1, d2] }
  | _ => none }
def mailSameRow : OpenClaim := { program := "ytaelkcinofhhcaadoor", sum := "23a26a3aebfec04cba6f8163e39637076f274a7c4f87904924c62e4c67ebf911", func := "stairwell/stairwelllaw13.MailSame", spec := "mailSame", inPlace := ["internal/bytealg.CountString", "internal/bytealg.IndexByteString", "internal/bytealg.IndexString", "internal/abi.NoEscape"], unfollowed := true, recurses := true, named := ["unicode/utf8.first", "unicode/utf8.acceptRanges", "internal/bytealg.MaxLen"], apart := false, laid := [("unicode/utf8.acceptRanges", laid_unicode_utf8_acceptRanges), ("unicode/utf8.first", laid_unicode_utf8_first)] }
def MailSameSaid : Prop := mailSameRow.holds Tryd.pinned (OpenSpec.ofChange mailSameSpec)

/-- ITS FALSE NEIGHBOUR: 'it returns false'. Refute it at one input. -/
def mailSameWrong : ChangeSpec := { name := "mailSame", fn := fun _ => fun
  | [d1, d2] => { results := [.lit (.bool false)], args := [d1, d2] }
  | _ => none }
def MailSameWrongFalsely : Prop := mailSameRow.holds Tryd.pinned (OpenSpec.ofChange mailSameWrong)

/-- 'stairwelllaw10.MatchSame': WHATEVER THE INPUT: true; the input reads as it did. -/
def matchSameSpec : ChangeSpec := { name := "matchSame", fn := fun _ => fun
  | [d1, d2] => { results := [.lit (.bool true)], args := [d1, d2] }
  | _ => none }
def matchSameRow : OpenClaim := { program := "ytaelkcinofhhcaadoor", sum := "23a26a3aebfec04cba6f8163e39637076f274a7c4f87904924c62e4c67ebf911", func := "stairwell/stairwelllaw10.MatchSame", spec := "matchSame", inPlace := ["internal/bytealg.CountString", "internal/bytealg.IndexByteString", "internal/bytealg.IndexString", "internal/abi.NoEscape"], unfollowed := true, recurses := true, named := ["unicode/utf8.first", "unicode/utf8.acceptRanges", "internal/bytealg.MaxLen"], apart := false, laid := [("unicode/utf8.acceptRanges", laid_unicode_utf8_acceptRanges), ("unicode/utf8.first", laid_unicode_utf8_first)] }
def MatchSameSaid : Prop := matchSameRow.holds Tryd.pinned (OpenSpec.ofChange matchSameSpec)

/-- ITS FALSE NEIGHBOUR: 'it returns false'. Refute it at one input. -/
def matchSameWrong : ChangeSpec := { name := "matchSame", fn := fun _ => fun
  | [d1, d2] => { results := [.lit (.bool false)], args := [d1, d2] }
  | _ => none }
def MatchSameWrongFalsely : Prop := matchSameRow.holds Tryd.pinned (OpenSpec.ofChange matchSameWrong)

/-- 'stairwelllaw20.RiseTold': WHATEVER THE INPUT: true; the input reads as it did. -/
def riseToldSpec : ChangeSpec := { name := "riseTold", fn := fun _ => fun
  | [d1, d2] => { results := [.lit (.bool true)], args := [d1, d2] }
  | _ => none }
def riseToldRow : OpenClaim := { program := "ytaelkcinofhhcaadoor", sum := "23a26a3aebfec04cba6f8163e39637076f274a7c4f87904924c62e4c67ebf911", func := "stairwell/stairwelllaw20.RiseTold", spec := "riseTold", inPlace := ["internal/bytealg.CountString", "internal/bytealg.IndexByteString", "internal/bytealg.IndexString", "internal/abi.NoEscape"], unfollowed := true, recurses := true, named := ["unicode/utf8.first", "unicode/utf8.acceptRanges", "internal/bytealg.MaxLen"], apart := false, laid := [("unicode/utf8.acceptRanges", laid_unicode_utf8_acceptRanges), ("unicode/utf8.first", laid_unicode_utf8_first)] }
def RiseToldSaid : Prop := riseToldRow.holds Tryd.pinned (OpenSpec.ofChange riseToldSpec)

/-- ITS FALSE NEIGHBOUR: 'it returns false'. Refute it at one input. -/
def riseToldWrong : ChangeSpec := { name := "riseTold", fn := fun _ => fun
  | [d1, d2] => { results := [.lit (.bool false)], args := [d1, d2] }
  | _ => none }
def RiseToldWrongFalsely : Prop := riseToldRow.holds Tryd.pinned (OpenSpec.ofChange riseToldWrong)

/-- 'stairwelllaw20.RiseNumbers': WHATEVER THE INPUT: true; the input reads as it did. -/
def riseNumbersSpec : ChangeSpec := { name := "riseNumbers", fn := fun _ => fun
  | [d] => { results := [.lit (.bool true)], args := [d] }
  | _ => none }
def riseNumbersRow : OpenClaim := { program := "ytaelkcinofhhcaadoor", sum := "23a26a3aebfec04cba6f8163e39637076f274a7c4f87904924c62e4c67ebf911", func := "stairwell/stairwelllaw20.RiseNumbers", spec := "riseNumbers", inPlace := ["internal/bytealg.CountString", "internal/bytealg.IndexByteString", "internal/bytealg.IndexString", "internal/abi.NoEscape"], unfollowed := true, recurses := true, named := ["unicode/utf8.first", "unicode/utf8.acceptRanges", "internal/bytealg.MaxLen"], apart := false, laid := [("unicode/utf8.acceptRanges", laid_unicode_utf8_acceptRanges), ("unicode/utf8.first", laid_unicode_utf8_first)] }
def RiseNumbersSaid : Prop := riseNumbersRow.holds Tryd.pinned (OpenSpec.ofChange riseNumbersSpec)

/-- ITS FALSE NEIGHBOUR: 'it returns false'. Refute it at one input. -/
def riseNumbersWrong : ChangeSpec := { name := "riseNumbers", fn := fun _ => fun
  | [d] => { results := [.lit (.bool false)], args := [d] }
  | _ => none }
def RiseNumbersWrongFalsely : Prop := riseNumbersRow.holds Tryd.pinned (OpenSpec.ofChange riseNumbersWrong)

/-- 'stairwelllaw13.MailReads': WHATEVER THE INPUT: true; the input reads as it did. -/
def mailReadsSpec : ChangeSpec := { name := "mailReads", fn := fun _ => fun
  | [d] => { results := [.lit (.bool true)], args := [d] }
  | _ => none }
def mailReadsRow : OpenClaim := { program := "ytaelkcinofhhcaadoor", sum := "23a26a3aebfec04cba6f8163e39637076f274a7c4f87904924c62e4c67ebf911", func := "stairwell/stairwelllaw13.MailReads", spec := "mailReads", inPlace := ["internal/bytealg.CountString", "internal/bytealg.IndexByteString", "internal/bytealg.IndexString", "internal/abi.NoEscape"], unfollowed := true, recurses := true, named := ["unicode/utf8.first", "unicode/utf8.acceptRanges", "internal/bytealg.MaxLen"], apart := false, laid := [("unicode/utf8.acceptRanges", laid_unicode_utf8_acceptRanges), ("unicode/utf8.first", laid_unicode_utf8_first)] }
def MailReadsSaid : Prop := mailReadsRow.holds Tryd.pinned (OpenSpec.ofChange mailReadsSpec)

/-- ITS FALSE NEIGHBOUR: 'it returns false'. Refute it at one input. -/
def mailReadsWrong : ChangeSpec := { name := "mailReads", fn := fun _ => fun
  | [d] => { results := [.lit (.bool false)], args := [d] }
  | _ => none }
def MailReadsWrongFalsely : Prop := mailReadsRow.holds Tryd.pinned (OpenSpec.ofChange mailReadsWrong)

/-- 'stairwelllaw13.MailBytes': WHATEVER THE INPUT: true; the input reads as it did. -/
def mailBytesSpec : ChangeSpec := { name := "mailBytes", fn := fun _ => fun
  | [d] => { results := [.lit (.bool true)], args := [d] }
  | _ => none }
def mailBytesRow : OpenClaim := { program := "ytaelkcinofhhcaadoor", sum := "23a26a3aebfec04cba6f8163e39637076f274a7c4f87904924c62e4c67ebf911", func := "stairwell/stairwelllaw13.MailBytes", spec := "mailBytes", inPlace := ["internal/bytealg.CountString", "internal/bytealg.IndexByteString", "internal/bytealg.IndexString", "internal/abi.NoEscape"], unfollowed := true, recurses := true, named := ["unicode/utf8.first", "unicode/utf8.acceptRanges", "internal/bytealg.MaxLen"], apart := false, laid := [("unicode/utf8.acceptRanges", laid_unicode_utf8_acceptRanges), ("unicode/utf8.first", laid_unicode_utf8_first)] }
def MailBytesSaid : Prop := mailBytesRow.holds Tryd.pinned (OpenSpec.ofChange mailBytesSpec)

/-- ITS FALSE NEIGHBOUR: 'it returns false'. Refute it at one input. -/
def mailBytesWrong : ChangeSpec := { name := "mailBytes", fn := fun _ => fun
  | [d] => { results := [.lit (.bool false)], args := [d] }
  | _ => none }
def MailBytesWrongFalsely : Prop := mailBytesRow.holds Tryd.pinned (OpenSpec.ofChange mailBytesWrong)

/- THE SECOND FORM. 'bulk': how many values and letters a reading holds, each counted each time it is reached (what is shared counts as often as it is met; a slice's spare places count too). A statement '..UptoSaid' is the law's where the arguments, and the package variables that the reading takes, are together of bulk at most 1048576: NARROWER than '..Said'. Prove '..Said' where nothing that the law and all that it calls make is longer than what came in: it says more and counts as full. Else prove '..UptoSaid'. A law counts once. -/
mutual
def uptoBulk {H : Type} : DataW H → Nat
  | .lit (.string bytes) => bytes.length + 1
  | .lit _ => 1
  | .nil => 1
  | .ptr d => uptoBulk d + 1
  | .slice elems spare => uptoBulkAll elems + uptoBulkAll spare + 1
  | .agg parts => uptoBulkAll parts + 1
  | .iface _ d => uptoBulk d + 1
  | .map entries => uptoBulkEntries entries + 1
  | .held _ => 1
def uptoBulkAll {H : Type} : List (DataW H) → Nat
  | [] => 0
  | d :: r => uptoBulk d + uptoBulkAll r
def uptoBulkEntries {H : Type} : List (Lit × DataW H) → Nat
  | [] => 0
  | x :: r => uptoBulkEntry x + uptoBulkEntries r
def uptoBulkEntry {H : Type} : Lit × DataW H → Nat
  | (.string bytes, d) => bytes.length + uptoBulk d + 1
  | (_, d) => uptoBulk d + 1
 end
def uptoSmall : (H : Type) → List (DataW H) → Bool := fun _ ds => decide (uptoBulkAll ds ≤ 1048576)
def OpenSpec.upto (s : _root_.Go.ChangeSpec) : _root_.Go.OpenSpec := { _root_.Go.OpenSpec.ofChange s with cond := some uptoSmall }

/-- 'stairwelllaw10.MatchGoes', WHERE WHAT IT READS IS OF BULK AT MOST 1048576: true; the input reads as it did. -/
def matchGoesUptoRow : OpenClaim := { program := "ytaelkcinofhhcaadoor", sum := "23a26a3aebfec04cba6f8163e39637076f274a7c4f87904924c62e4c67ebf911", func := "stairwell/stairwelllaw10.MatchGoes", spec := "matchGoes", inPlace := ["internal/bytealg.CountString", "internal/bytealg.IndexByteString", "internal/bytealg.IndexString", "internal/abi.NoEscape"], unfollowed := true, recurses := true, named := ["unicode/utf8.first", "unicode/utf8.acceptRanges", "internal/bytealg.MaxLen"], apart := false, laid := [("unicode/utf8.acceptRanges", laid_unicode_utf8_acceptRanges), ("unicode/utf8.first", laid_unicode_utf8_first)], narrowed := true }
def MatchGoesUptoSaid : Prop := matchGoesUptoRow.holds Tryd.pinned (OpenSpec.upto matchGoesSpec)

/-- 'stairwelllaw10.MatchPlain', WHERE WHAT IT READS IS OF BULK AT MOST 1048576: true; the input reads as it did. -/
def matchPlainUptoRow : OpenClaim := { program := "ytaelkcinofhhcaadoor", sum := "23a26a3aebfec04cba6f8163e39637076f274a7c4f87904924c62e4c67ebf911", func := "stairwell/stairwelllaw10.MatchPlain", spec := "matchPlain", inPlace := ["internal/bytealg.CountString", "internal/bytealg.IndexByteString", "internal/bytealg.IndexString", "internal/abi.NoEscape"], unfollowed := true, recurses := true, named := ["unicode/utf8.first", "unicode/utf8.acceptRanges", "internal/bytealg.MaxLen"], apart := false, laid := [("unicode/utf8.acceptRanges", laid_unicode_utf8_acceptRanges), ("unicode/utf8.first", laid_unicode_utf8_first)], narrowed := true }
def MatchPlainUptoSaid : Prop := matchPlainUptoRow.holds Tryd.pinned (OpenSpec.upto matchPlainSpec)

/-- 'stairwelllaw13.MailSame', WHERE WHAT IT READS IS OF BULK AT MOST 1048576: true; the input reads as it did. -/
def mailSameUptoRow : OpenClaim := { program := "ytaelkcinofhhcaadoor", sum := "23a26a3aebfec04cba6f8163e39637076f274a7c4f87904924c62e4c67ebf911", func := "stairwell/stairwelllaw13.MailSame", spec := "mailSame", inPlace := ["internal/bytealg.CountString", "internal/bytealg.IndexByteString", "internal/bytealg.IndexString", "internal/abi.NoEscape"], unfollowed := true, recurses := true, named := ["unicode/utf8.first", "unicode/utf8.acceptRanges", "internal/bytealg.MaxLen"], apart := false, laid := [("unicode/utf8.acceptRanges", laid_unicode_utf8_acceptRanges), ("unicode/utf8.first", laid_unicode_utf8_first)], narrowed := true }
def MailSameUptoSaid : Prop := mailSameUptoRow.holds Tryd.pinned (OpenSpec.upto mailSameSpec)

/-- 'stairwelllaw10.MatchSame', WHERE WHAT IT READS IS OF BULK AT MOST 1048576: true; the input reads as it did. -/
def matchSameUptoRow : OpenClaim := { program := "ytaelkcinofhhcaadoor", sum := "23a26a3aebfec04cba6f8163e39637076f274a7c4f87904924c62e4c67ebf911", func := "stairwell/stairwelllaw10.MatchSame", spec := "matchSame", inPlace := ["internal/bytealg.CountString", "internal/bytealg.IndexByteString", "internal/bytealg.IndexString", "internal/abi.NoEscape"], unfollowed := true, recurses := true, named := ["unicode/utf8.first", "unicode/utf8.acceptRanges", "internal/bytealg.MaxLen"], apart := false, laid := [("unicode/utf8.acceptRanges", laid_unicode_utf8_acceptRanges), ("unicode/utf8.first", laid_unicode_utf8_first)], narrowed := true }
def MatchSameUptoSaid : Prop := matchSameUptoRow.holds Tryd.pinned (OpenSpec.upto matchSameSpec)

/-- 'stairwelllaw20.RiseTold', WHERE WHAT IT READS IS OF BULK AT MOST 1048576: true; the input reads as it did. -/
def riseToldUptoRow : OpenClaim := { program := "ytaelkcinofhhcaadoor", sum := "23a26a3aebfec04cba6f8163e39637076f274a7c4f87904924c62e4c67ebf911", func := "stairwell/stairwelllaw20.RiseTold", spec := "riseTold", inPlace := ["internal/bytealg.CountString", "internal/bytealg.IndexByteString", "internal/bytealg.IndexString", "internal/abi.NoEscape"], unfollowed := true, recurses := true, named := ["unicode/utf8.first", "unicode/utf8.acceptRanges", "internal/bytealg.MaxLen"], apart := false, laid := [("unicode/utf8.acceptRanges", laid_unicode_utf8_acceptRanges), ("unicode/utf8.first", laid_unicode_utf8_first)], narrowed := true }
def RiseToldUptoSaid : Prop := riseToldUptoRow.holds Tryd.pinned (OpenSpec.upto riseToldSpec)

/-- 'stairwelllaw20.RiseNumbers', WHERE WHAT IT READS IS OF BULK AT MOST 1048576: true; the input reads as it did. -/
def riseNumbersUptoRow : OpenClaim := { program := "ytaelkcinofhhcaadoor", sum := "23a26a3aebfec04cba6f8163e39637076f274a7c4f87904924c62e4c67ebf911", func := "stairwell/stairwelllaw20.RiseNumbers", spec := "riseNumbers", inPlace := ["internal/bytealg.CountString", "internal/bytealg.IndexByteString", "internal/bytealg.IndexString", "internal/abi.NoEscape"], unfollowed := true, recurses := true, named := ["unicode/utf8.first", "unicode/utf8.acceptRanges", "internal/bytealg.MaxLen"], apart := false, laid := [("unicode/utf8.acceptRanges", laid_unicode_utf8_acceptRanges), ("unicode/utf8.first", laid_unicode_utf8_first)], narrowed := true }
def RiseNumbersUptoSaid : Prop := riseNumbersUptoRow.holds Tryd.pinned (OpenSpec.upto riseNumbersSpec)

/-- 'stairwelllaw13.MailReads', WHERE WHAT IT READS IS OF BULK AT MOST 1048576: true; the input reads as it did. -/
def mailReadsUptoRow : OpenClaim := { program := "ytaelkcinofhhcaadoor", sum := "23a26a3aebfec04cba6f8163e39637076f274a7c4f87904924c62e4c67ebf911", func := "stairwell/stairwelllaw13.MailReads", spec := "mailReads", inPlace := ["internal/bytealg.CountString", "internal/bytealg.IndexByteString", "internal/bytealg.IndexString", "internal/abi.NoEscape"], unfollowed := true, recurses := true, named := ["unicode/utf8.first", "unicode/utf8.acceptRanges", "internal/bytealg.MaxLen"], apart := false, laid := [("unicode/utf8.acceptRanges", laid_unicode_utf8_acceptRanges), ("unicode/utf8.first", laid_unicode_utf8_first)], narrowed := true }
def MailReadsUptoSaid : Prop := mailReadsUptoRow.holds Tryd.pinned (OpenSpec.upto mailReadsSpec)

/-- 'stairwelllaw13.MailBytes', WHERE WHAT IT READS IS OF BULK AT MOST 1048576: true; the input reads as it did. -/
def mailBytesUptoRow : OpenClaim := { program := "ytaelkcinofhhcaadoor", sum := "23a26a3aebfec04cba6f8163e39637076f274a7c4f87904924c62e4c67ebf911", func := "stairwell/stairwelllaw13.MailBytes", spec := "mailBytes", inPlace := ["internal/bytealg.CountString", "internal/bytealg.IndexByteString", "internal/bytealg.IndexString", "internal/abi.NoEscape"], unfollowed := true, recurses := true, named := ["unicode/utf8.first", "unicode/utf8.acceptRanges", "internal/bytealg.MaxLen"], apart := false, laid := [("unicode/utf8.acceptRanges", laid_unicode_utf8_acceptRanges), ("unicode/utf8.first", laid_unicode_utf8_first)], narrowed := true }
def MailBytesUptoSaid : Prop := mailBytesUptoRow.holds Tryd.pinned (OpenSpec.upto mailBytesSpec)

end Rows
end Go.Proofs.YtaelkcinofhhcaaDoor
