/-
  NARROWER THAN 'FOR EVERY INPUT', by the rows' own cells (each row's printed sentence says how): WordsMatches: laid · WordsForms: laid · LatticeTexts: laid · WordsSelf: laid · WordsStars: laid · HeadSame: laid · HeadReads: laid · HeadBytes: laid.
  DERIVED. THE GIVEN ROWS OF THIS SEAT. 8 by the template 'for every input the law returns true; each argument reads behind the call as it read before'; 0 by the template 'total and deterministic' (their statements: YtajdamefabfoaaaDoorTotals.lean).
  GIVEN WITH THE SEED: the statements are not yours to turn. If you find one false, say at which input.
  Laid BY PROGRAM, IN A SANDBOX (cutbox-rows.mjs): the forced cells as the released guide's own fill.sh prints them over the translation 589b817413dab524… (all of the seat's roots in one cut). By AI agents, Wed Nov 11 2026. No macro, syntax, notation, axiom, sorry.
-/
import Derived.Test.YtajdamefabfoaaaDoorChecked
import GoSem.PinnedTables
import GoSem.Claim
import GoSem.ClaimJoined
import GoSem.ClaimMapViews
import Derived.JoinedTies
import Derived.KernelRfl
namespace Go.Proofs.YtajdamefabfoaaaDoor
/- THE CELL 'sum', in the pinned program and in every row, IS THE sha256 OF THE DUMP (.gsa) THAT YtajdamefabfoaaaDoorProg.lean LOADS. Nothing in Lean hashes anything: it is a label: what it is worth is what the hold of that sum in a sandbox is worth. -/
noncomputable def Tryd.pinned : Pinned := { name := "ytajdamefabfoaaadoor", sum := "589b817413dab5246edec7928d06b39ab31cf580979a7a1cd5c38791af3350c1", checked := Tryd.checked }
namespace Rows
def none {H : Type} : Left H := { results := [], args := [] }

/- WHAT THE LISTED PACKAGE-LEVEL VARIABLES READ AS WHEN THE CALL BEGINS. Each datum BY PROGRAM (the guide's laid-datum.mjs) off the statement by which the dump's own 'gosem.cut.vars' lays the variable. In a bare row this is a premise. The card (YtajdamefabfoaaaDoorCards.lean) ties it to the program's text. -/
def laid_unicode_utf8_acceptRanges {H : Type} : DataW H := .agg [.agg [.lit (.int .u8 128), .lit (.int .u8 191)], .agg [.lit (.int .u8 160), .lit (.int .u8 191)], .agg [.lit (.int .u8 128), .lit (.int .u8 159)], .agg [.lit (.int .u8 144), .lit (.int .u8 191)], .agg [.lit (.int .u8 128), .lit (.int .u8 143)], .agg [.lit (.int .u8 0), .lit (.int .u8 0)], .agg [.lit (.int .u8 0), .lit (.int .u8 0)], .agg [.lit (.int .u8 0), .lit (.int .u8 0)], .agg [.lit (.int .u8 0), .lit (.int .u8 0)], .agg [.lit (.int .u8 0), .lit (.int .u8 0)], .agg [.lit (.int .u8 0), .lit (.int .u8 0)], .agg [.lit (.int .u8 0), .lit (.int .u8 0)], .agg [.lit (.int .u8 0), .lit (.int .u8 0)], .agg [.lit (.int .u8 0), .lit (.int .u8 0)], .agg [.lit (.int .u8 0), .lit (.int .u8 0)], .agg [.lit (.int .u8 0), .lit (.int .u8 0)]]
/-- One of Go's own tables, pinned by name: the form's constant. -/
def laid_unicode_utf8_first : DataW Unit := Go.Pinned.utf8First
def laid_math_bits_deBruijn32tab {H : Type} : DataW H := .agg [.lit (.int .u8 0), .lit (.int .u8 1), .lit (.int .u8 28), .lit (.int .u8 2), .lit (.int .u8 29), .lit (.int .u8 14), .lit (.int .u8 24), .lit (.int .u8 3), .lit (.int .u8 30), .lit (.int .u8 22), .lit (.int .u8 20), .lit (.int .u8 15), .lit (.int .u8 25), .lit (.int .u8 17), .lit (.int .u8 4), .lit (.int .u8 8), .lit (.int .u8 31), .lit (.int .u8 27), .lit (.int .u8 13), .lit (.int .u8 23), .lit (.int .u8 21), .lit (.int .u8 19), .lit (.int .u8 16), .lit (.int .u8 7), .lit (.int .u8 26), .lit (.int .u8 12), .lit (.int .u8 18), .lit (.int .u8 6), .lit (.int .u8 11), .lit (.int .u8 5), .lit (.int .u8 10), .lit (.int .u8 9)]
def laid_math_bits_deBruijn64tab {H : Type} : DataW H := .agg [.lit (.int .u8 0), .lit (.int .u8 1), .lit (.int .u8 56), .lit (.int .u8 2), .lit (.int .u8 57), .lit (.int .u8 49), .lit (.int .u8 28), .lit (.int .u8 3), .lit (.int .u8 61), .lit (.int .u8 58), .lit (.int .u8 42), .lit (.int .u8 50), .lit (.int .u8 38), .lit (.int .u8 29), .lit (.int .u8 17), .lit (.int .u8 4), .lit (.int .u8 62), .lit (.int .u8 47), .lit (.int .u8 59), .lit (.int .u8 36), .lit (.int .u8 45), .lit (.int .u8 43), .lit (.int .u8 51), .lit (.int .u8 22), .lit (.int .u8 53), .lit (.int .u8 39), .lit (.int .u8 33), .lit (.int .u8 30), .lit (.int .u8 24), .lit (.int .u8 18), .lit (.int .u8 12), .lit (.int .u8 5), .lit (.int .u8 63), .lit (.int .u8 55), .lit (.int .u8 48), .lit (.int .u8 27), .lit (.int .u8 60), .lit (.int .u8 41), .lit (.int .u8 37), .lit (.int .u8 16), .lit (.int .u8 46), .lit (.int .u8 35), .lit (.int .u8 44), .lit (.int .u8 21), .lit (.int .u8 52), .lit (.int .u8 32), .lit (.int .u8 23), .lit (.int .u8 11), .lit (.int .u8 54), .lit (.int .u8 26), .lit (.int .u8 40), .lit (.int .u8 15), .lit (.int .u8 34), .lit (.int .u8 20), .lit (.int .u8 31), .lit (.int .u8 10), .lit (.int .u8 25), .lit (.int .u8 14), .lit (.int .u8 19), .lit (.int .u8 9), .lit (.int .u8 13), .lit (.int .u8 8), .lit (.int .u8 7), .lit (.int .u8 6)]
def laid_internal_strconv_uint64pow10 {H : Type} : DataW H := .agg [.lit (.int .u64 1), .lit (.int .u64 10), .lit (.int .u64 100), .lit (.int .u64 1000), .lit (.int .u64 10000), .lit (.int .u64 100000), .lit (.int .u64 1000000), .lit (.int .u64 10000000), .lit (.int .u64 100000000), .lit (.int .u64 1000000000), .lit (.int .u64 10000000000), .lit (.int .u64 100000000000), .lit (.int .u64 1000000000000), .lit (.int .u64 10000000000000), .lit (.int .u64 100000000000000), .lit (.int .u64 1000000000000000), .lit (.int .u64 10000000000000000), .lit (.int .u64 100000000000000000), .lit (.int .u64 1000000000000000000), .lit (.int .u64 10000000000000000000)]

/-- 'stairwelllaw04.WordsMatches': WHATEVER THE INPUT: true; the input reads as it did. -/
def wordsMatchesSpec : ChangeSpec := { name := "wordsMatches", fn := fun _ => fun
  | [d1, d2] => { results := [.lit (.bool true)], args := [d1, d2] }
  | _ => none }
def wordsMatchesRow : OpenClaim := { program := "ytajdamefabfoaaadoor", sum := "589b817413dab5246edec7928d06b39ab31cf580979a7a1cd5c38791af3350c1", func := "stairwell/stairwelllaw04.WordsMatches", spec := "wordsMatches", inPlace := ["internal/bytealg.CountString", "internal/bytealg.IndexByteString", "internal/bytealg.IndexString"], named := ["unicode/utf8.first", "unicode/utf8.acceptRanges", "internal/bytealg.MaxLen"], apart := false, laid := [("unicode/utf8.acceptRanges", laid_unicode_utf8_acceptRanges), ("unicode/utf8.first", laid_unicode_utf8_first)] }
def WordsMatchesSaid : Prop := wordsMatchesRow.holds Tryd.pinned (OpenSpec.ofChange wordsMatchesSpec)

/-- ITS FALSE NEIGHBOUR: 'it returns false'. Refute it at one input. -/
def wordsMatchesWrong : ChangeSpec := { name := "wordsMatches", fn := fun _ => fun
  | [d1, d2] => { results := [.lit (.bool false)], args := [d1, d2] }
  | _ => none }
def WordsMatchesWrongFalsely : Prop := wordsMatchesRow.holds Tryd.pinned (OpenSpec.ofChange wordsMatchesWrong)

/-- 'stairwelllaw04.WordsForms': WHATEVER THE INPUT: true; the input reads as it did. -/
def wordsFormsSpec : ChangeSpec := { name := "wordsForms", fn := fun _ => fun
  | [d] => { results := [.lit (.bool true)], args := [d] }
  | _ => none }
def wordsFormsRow : OpenClaim := { program := "ytajdamefabfoaaadoor", sum := "589b817413dab5246edec7928d06b39ab31cf580979a7a1cd5c38791af3350c1", func := "stairwell/stairwelllaw04.WordsForms", spec := "wordsForms", inPlace := ["internal/bytealg.CountString", "internal/bytealg.IndexByteString", "internal/bytealg.IndexString"], named := ["unicode/utf8.first", "unicode/utf8.acceptRanges", "internal/bytealg.MaxLen"], apart := false, laid := [("unicode/utf8.acceptRanges", laid_unicode_utf8_acceptRanges), ("unicode/utf8.first", laid_unicode_utf8_first)] }
def WordsFormsSaid : Prop := wordsFormsRow.holds Tryd.pinned (OpenSpec.ofChange wordsFormsSpec)

/-- ITS FALSE NEIGHBOUR: 'it returns false'. Refute it at one input. -/
def wordsFormsWrong : ChangeSpec := { name := "wordsForms", fn := fun _ => fun
  | [d] => { results := [.lit (.bool false)], args := [d] }
  | _ => none }
def WordsFormsWrongFalsely : Prop := wordsFormsRow.holds Tryd.pinned (OpenSpec.ofChange wordsFormsWrong)

/-- 'stairwelllaw03.LatticeTexts': WHATEVER THE INPUT: true; the input reads as it did. -/
def latticeTextsSpec : ChangeSpec := { name := "latticeTexts", fn := fun _ => fun
  | [d1, d2] => { results := [.lit (.bool true)], args := [d1, d2] }
  | _ => none }
def latticeTextsRow : OpenClaim := { program := "ytajdamefabfoaaadoor", sum := "589b817413dab5246edec7928d06b39ab31cf580979a7a1cd5c38791af3350c1", func := "stairwell/stairwelllaw03.LatticeTexts", spec := "latticeTexts", inPlace := ["internal/abi.NoEscape"], recurses := true, named := ["internal/strconv.uint64pow10", "math/bits.deBruijn32tab", "math/bits.deBruijn64tab"], apart := false, laid := [("math/bits.deBruijn32tab", laid_math_bits_deBruijn32tab), ("math/bits.deBruijn64tab", laid_math_bits_deBruijn64tab), ("internal/strconv.uint64pow10", laid_internal_strconv_uint64pow10)] }
def LatticeTextsSaid : Prop := latticeTextsRow.holds Tryd.pinned (OpenSpec.ofChange latticeTextsSpec)

/-- ITS FALSE NEIGHBOUR: 'it returns false'. Refute it at one input. -/
def latticeTextsWrong : ChangeSpec := { name := "latticeTexts", fn := fun _ => fun
  | [d1, d2] => { results := [.lit (.bool false)], args := [d1, d2] }
  | _ => none }
def LatticeTextsWrongFalsely : Prop := latticeTextsRow.holds Tryd.pinned (OpenSpec.ofChange latticeTextsWrong)

/-- 'stairwelllaw04.WordsSelf': WHATEVER THE INPUT: true; the input reads as it did. -/
def wordsSelfSpec : ChangeSpec := { name := "wordsSelf", fn := fun _ => fun
  | [d1, d2, d3, d4] => { results := [.lit (.bool true)], args := [d1, d2, d3, d4] }
  | _ => none }
def wordsSelfRow : OpenClaim := { program := "ytajdamefabfoaaadoor", sum := "589b817413dab5246edec7928d06b39ab31cf580979a7a1cd5c38791af3350c1", func := "stairwell/stairwelllaw04.WordsSelf", spec := "wordsSelf", inPlace := ["internal/bytealg.CountString", "internal/bytealg.IndexByteString", "internal/bytealg.IndexString", "internal/abi.NoEscape", "internal/bytealg.MakeNoZero"], named := ["unicode/utf8.first", "unicode/utf8.acceptRanges", "internal/bytealg.MaxLen"], apart := false, laid := [("unicode/utf8.acceptRanges", laid_unicode_utf8_acceptRanges), ("unicode/utf8.first", laid_unicode_utf8_first)] }
def WordsSelfSaid : Prop := wordsSelfRow.holds Tryd.pinned (OpenSpec.ofChange wordsSelfSpec)

/-- ITS FALSE NEIGHBOUR: 'it returns false'. Refute it at one input. -/
def wordsSelfWrong : ChangeSpec := { name := "wordsSelf", fn := fun _ => fun
  | [d1, d2, d3, d4] => { results := [.lit (.bool false)], args := [d1, d2, d3, d4] }
  | _ => none }
def WordsSelfWrongFalsely : Prop := wordsSelfRow.holds Tryd.pinned (OpenSpec.ofChange wordsSelfWrong)

/-- 'stairwelllaw04.WordsStars': WHATEVER THE INPUT: true; the input reads as it did. -/
def wordsStarsSpec : ChangeSpec := { name := "wordsStars", fn := fun _ => fun
  | [d1, d2] => { results := [.lit (.bool true)], args := [d1, d2] }
  | _ => none }
def wordsStarsRow : OpenClaim := { program := "ytajdamefabfoaaadoor", sum := "589b817413dab5246edec7928d06b39ab31cf580979a7a1cd5c38791af3350c1", func := "stairwell/stairwelllaw04.WordsStars", spec := "wordsStars", inPlace := ["internal/bytealg.CountString", "internal/bytealg.IndexByteString", "internal/bytealg.IndexString", "internal/abi.NoEscape", "internal/bytealg.MakeNoZero"], named := ["unicode/utf8.first", "unicode/utf8.acceptRanges", "internal/bytealg.MaxLen"], apart := false, laid := [("unicode/utf8.acceptRanges", laid_unicode_utf8_acceptRanges), ("unicode/utf8.first", laid_unicode_utf8_first)] }
def WordsStarsSaid : Prop := wordsStarsRow.holds Tryd.pinned (OpenSpec.ofChange wordsStarsSpec)

/-- ITS FALSE NEIGHBOUR: 'it returns false'. Refute it at one input. -/
def wordsStarsWrong : ChangeSpec := { name := "wordsStars", fn := fun _ => fun
  | [d1, d2] => { results := [.lit (.bool false)], args := [d1, d2] }
  | _ => none }
def WordsStarsWrongFalsely : Prop := wordsStarsRow.holds Tryd.pinned (OpenSpec.ofChange wordsStarsWrong)

/-- 'stairwelllaw09.HeadSame': WHATEVER THE INPUT: true; the input reads as it did. -/
def headSameSpec : ChangeSpec := { name := "headSame", fn := fun _ => fun
  | [d1, d2] => { results := [.lit (.bool true)], args := [d1, d2] }
  | _ => none }
def headSameRow : OpenClaim := { program := "ytajdamefabfoaaadoor", sum := "589b817413dab5246edec7928d06b39ab31cf580979a7a1cd5c38791af3350c1", func := "stairwell/stairwelllaw09.HeadSame", spec := "headSame", inPlace := ["internal/abi.NoEscape", "internal/bytealg.CountString", "internal/bytealg.IndexByteString", "internal/bytealg.IndexString"], unfollowed := true, recurses := true, named := ["unicode/utf8.first", "unicode/utf8.acceptRanges", "internal/bytealg.MaxLen"], apart := false, laid := [("unicode/utf8.acceptRanges", laid_unicode_utf8_acceptRanges), ("unicode/utf8.first", laid_unicode_utf8_first)] }
def HeadSameSaid : Prop := headSameRow.holds Tryd.pinned (OpenSpec.ofChange headSameSpec)

/-- ITS FALSE NEIGHBOUR: 'it returns false'. Refute it at one input. -/
def headSameWrong : ChangeSpec := { name := "headSame", fn := fun _ => fun
  | [d1, d2] => { results := [.lit (.bool false)], args := [d1, d2] }
  | _ => none }
def HeadSameWrongFalsely : Prop := headSameRow.holds Tryd.pinned (OpenSpec.ofChange headSameWrong)

/-- 'stairwelllaw09.HeadReads': WHATEVER THE INPUT: true; the input reads as it did. -/
def headReadsSpec : ChangeSpec := { name := "headReads", fn := fun _ => fun
  | [d] => { results := [.lit (.bool true)], args := [d] }
  | _ => none }
def headReadsRow : OpenClaim := { program := "ytajdamefabfoaaadoor", sum := "589b817413dab5246edec7928d06b39ab31cf580979a7a1cd5c38791af3350c1", func := "stairwell/stairwelllaw09.HeadReads", spec := "headReads", inPlace := ["internal/abi.NoEscape", "internal/bytealg.CountString", "internal/bytealg.IndexByteString", "internal/bytealg.IndexString"], unfollowed := true, recurses := true, named := ["unicode/utf8.first", "unicode/utf8.acceptRanges", "internal/bytealg.MaxLen"], apart := false, laid := [("unicode/utf8.acceptRanges", laid_unicode_utf8_acceptRanges), ("unicode/utf8.first", laid_unicode_utf8_first)] }
def HeadReadsSaid : Prop := headReadsRow.holds Tryd.pinned (OpenSpec.ofChange headReadsSpec)

/-- ITS FALSE NEIGHBOUR: 'it returns false'. Refute it at one input. -/
def headReadsWrong : ChangeSpec := { name := "headReads", fn := fun _ => fun
  | [d] => { results := [.lit (.bool false)], args := [d] }
  | _ => none }
def HeadReadsWrongFalsely : Prop := headReadsRow.holds Tryd.pinned (OpenSpec.ofChange headReadsWrong)

/-- 'stairwelllaw09.HeadBytes': WHATEVER THE INPUT: true; the input reads as it did. -/
def headBytesSpec : ChangeSpec := { name := "headBytes", fn := fun _ => fun
  | [d1, d2] => { results := [.lit (.bool true)], args := [d1, d2] }
  | _ => none }
def headBytesRow : OpenClaim := { program := "ytajdamefabfoaaadoor", sum := "589b817413dab5246edec7928d06b39ab31cf580979a7a1cd5c38791af3350c1", func := "stairwell/stairwelllaw09.HeadBytes", spec := "headBytes", inPlace := ["internal/abi.NoEscape", "internal/bytealg.CountString", "internal/bytealg.IndexByteString", "internal/bytealg.IndexString"], unfollowed := true, recurses := true, named := ["unicode/utf8.first", "unicode/utf8.acceptRanges", "internal/bytealg.MaxLen"], apart := false, laid := [("unicode/utf8.acceptRanges", laid_unicode_utf8_acceptRanges), ("unicode/utf8.first", laid_unicode_utf8_first)] }
def HeadBytesSaid : Prop := headBytesRow.holds Tryd.pinned (OpenSpec.ofChange headBytesSpec)

/-- ITS FALSE NEIGHBOUR: 'it returns false'. Refute it at one input. -/
def headBytesWrong : ChangeSpec := { name := "headBytes", fn := fun _ => fun
  | [d1, d2] => { results := [.lit (.bool false)], args := [d1, d2] }
  | _ => none }
def HeadBytesWrongFalsely : Prop := headBytesRow.holds Tryd.pinned (OpenSpec.ofChange headBytesWrong)

/- THE SECOND FORM. 'bulk': how many values and letters a reading holds, each counted each time it is reached (what is shared counts as often as it is met; a slice's spare places count too). A statement '..UptoSaid' is the law's where the arguments, and the package variables that the reading takes, are together of bulk at most 1048576: NARROWER than '..Said'. Prove '..Said' where nothing that the law and all that it calls make is longer than what came in: it says more and counts as full. Else prove '..UptoSaid'. A law counts once. -/
mutual
def uptoBulk {H : Type} : DataW H → Nat
  | .lit (.string bytes) => bytes.length + 1
  | .lit _ => 1
  | .nil => 1
  | .ptr d => uptoBulk d + 1
  | .slice elems spare => uptoBulkAll elems + uptoBulkAll spare + 1
  | .agg parts => uptoBulkAll parts + 1
  | .iface _ d => uptoBulk d + 1
  | .map entries => uptoBulkEntries entries + 1
  | .held _ => 1
def uptoBulkAll {H : Type} : List (DataW H) → Nat
  | [] => 0
  | d :: r => uptoBulk d + uptoBulkAll r
def uptoBulkEntries {H : Type} : List (Lit × DataW H) → Nat
  | [] => 0
  | x :: r => uptoBulkEntry x + uptoBulkEntries r
def uptoBulkEntry {H : Type} : Lit × DataW H → Nat
  | (.string bytes, d) => bytes.length + uptoBulk d + 1
  | (_, d) => uptoBulk d + 1
 end
def uptoSmall : (H : Type) → List (DataW H) → Bool := fun _ ds => decide (uptoBulkAll ds ≤ 1048576)
def OpenSpec.upto (s : _root_.Go.ChangeSpec) : _root_.Go.OpenSpec := { _root_.Go.OpenSpec.ofChange s with cond := some uptoSmall }

/-- 'stairwelllaw04.WordsMatches', WHERE WHAT IT READS IS OF BULK AT MOST 1048576: true; the input reads as it did. -/
def wordsMatchesUptoRow : OpenClaim := { program := "ytajdamefabfoaaadoor", sum := "589b817413dab5246edec7928d06b39ab31cf580979a7a1cd5c38791af3350c1", func := "stairwell/stairwelllaw04.WordsMatches", spec := "wordsMatches", inPlace := ["internal/bytealg.CountString", "internal/bytealg.IndexByteString", "internal/bytealg.IndexString"], named := ["unicode/utf8.first", "unicode/utf8.acceptRanges", "internal/bytealg.MaxLen"], apart := false, laid := [("unicode/utf8.acceptRanges", laid_unicode_utf8_acceptRanges), ("unicode/utf8.first", laid_unicode_utf8_first)], narrowed := true }
def WordsMatchesUptoSaid : Prop := wordsMatchesUptoRow.holds Tryd.pinned (OpenSpec.upto wordsMatchesSpec)

/-- 'stairwelllaw04.WordsForms', WHERE WHAT IT READS IS OF BULK AT MOST 1048576: true; the input reads as it did. -/
def wordsFormsUptoRow : OpenClaim := { program := "ytajdamefabfoaaadoor", sum := "589b817413dab5246edec7928d06b39ab31cf580979a7a1cd5c38791af3350c1", func := "stairwell/stairwelllaw04.WordsForms", spec := "wordsForms", inPlace := ["internal/bytealg.CountString", "internal/bytealg.IndexByteString", "internal/bytealg.IndexString"], named := ["unicode/utf8.first", "unicode/utf8.acceptRanges", "internal/bytealg.MaxLen"], apart := false, laid := [("unicode/utf8.acceptRanges", laid_unicode_utf8_acceptRanges), ("unicode/utf8.first", laid_unicode_utf8_first)], narrowed := true }
def WordsFormsUptoSaid : Prop := wordsFormsUptoRow.holds Tryd.pinned (OpenSpec.upto wordsFormsSpec)

/-- 'stairwelllaw03.LatticeTexts', WHERE WHAT IT READS IS OF BULK AT MOST 1048576: true; the input reads as it did. -/
def latticeTextsUptoRow : OpenClaim := { program := "ytajdamefabfoaaadoor", sum := "589b817413dab5246edec7928d06b39ab31cf580979a7a1cd5c38791af3350c1", func := "stairwell/stairwelllaw03.LatticeTexts", spec := "latticeTexts", inPlace := ["internal/abi.NoEscape"], recurses := true, named := ["internal/strconv.uint64pow10", "math/bits.deBruijn32tab", "math/bits.deBruijn64tab"], apart := false, laid := [("math/bits.deBruijn32tab", laid_math_bits_deBruijn32tab), ("math/bits.deBruijn64tab", laid_math_bits_deBruijn64tab), ("internal/strconv.uint64pow10", laid_internal_strconv_uint64pow10)], narrowed := true }
def LatticeTextsUptoSaid : Prop := latticeTextsUptoRow.holds Tryd.pinned (OpenSpec.upto latticeTextsSpec)

/-- 'stairwelllaw04.WordsSelf', WHERE WHAT IT READS IS OF BULK AT MOST 1048576: true; the input reads as it did. -/
def wordsSelfUptoRow : OpenClaim := { program := "ytajdamefabfoaaadoor", sum := "589b817413dab5246edec7928d06b39ab31cf580979a7a1cd5c38791af3350c1", func := "stairwell/stairwelllaw04.WordsSelf", spec := "wordsSelf", inPlace := ["internal/bytealg.CountString", "internal/bytealg.IndexByteString", "internal/bytealg.IndexString", "internal/abi.NoEscape", "internal/bytealg.MakeNoZero"], named := ["unicode/utf8.first", "unicode/utf8.acceptRanges", "internal/bytealg.MaxLen"], apart := false, laid := [("unicode/utf8.acceptRanges", laid_unicode_utf8_acceptRanges), ("unicode/utf8.first", laid_unicode_utf8_first)], narrowed := true }
def WordsSelfUptoSaid : Prop := wordsSelfUptoRow.holds Tryd.pinned (OpenSpec.upto wordsSelfSpec)

/-- 'stairwelllaw04.WordsStars', WHERE WHAT IT READS IS OF BULK AT MOST 1048576: true; the input reads as it did. -/
def wordsStarsUptoRow : OpenClaim := { program := "ytajdamefabfoaaadoor", sum := "589b817413dab5246edec7928d06b39ab31cf580979a7a1cd5c38791af3350c1", func := "stairwell/stairwelllaw04.WordsStars", spec := "wordsStars", inPlace := ["internal/bytealg.CountString", "internal/bytealg.IndexByteString", "internal/bytealg.IndexString", "internal/abi.NoEscape", "internal/bytealg.MakeNoZero"], named := ["unicode/utf8.first", "unicode/utf8.acceptRanges", "internal/bytealg.MaxLen"], apart := false, laid := [("unicode/utf8.acceptRanges", laid_unicode_utf8_acceptRanges), ("unicode/utf8.first", laid_unicode_utf8_first)], narrowed := true }
def WordsStarsUptoSaid : Prop := wordsStarsUptoRow.holds Tryd.pinned (OpenSpec.upto wordsStarsSpec)

/-- 'stairwelllaw09.HeadSame', WHERE WHAT IT READS IS OF BULK AT MOST 1048576: true; the input reads as it did. -/
def headSameUptoRow : OpenClaim := { program := "ytajdamefabfoaaadoor", sum := "589b817413dab5246edec7928d06b39ab31cf580979a7a1cd5c38791af3350c1", func := "stairwell/stairwelllaw09.HeadSame", spec := "headSame", inPlace := ["internal/abi.NoEscape", "internal/bytealg.CountString", "internal/bytealg.IndexByteString", "internal/bytealg.IndexString"], unfollowed := true, recurses := true, named := ["unicode/utf8.first", "unicode/utf8.acceptRanges", "internal/bytealg.MaxLen"], apart := false, laid := [("unicode/utf8.acceptRanges", laid_unicode_utf8_acceptRanges), ("unicode/utf8.first", laid_unicode_utf8_first)], narrowed := true }
def HeadSameUptoSaid : Prop := headSameUptoRow.holds Tryd.pinned (OpenSpec.upto headSameSpec)

/-- 'stairwelllaw09.HeadReads', WHERE WHAT IT READS IS OF BULK AT MOST 1048576: true; the input reads as it did. -/
def headReadsUptoRow : OpenClaim := { program := "ytajdamefabfoaaadoor", sum := "589b817413dab5246edec7928d06b39ab31cf580979a7a1cd5c38791af3350c1", func := "stairwell/stairwelllaw09.HeadReads", spec := "headReads", inPlace := ["internal/abi.NoEscape", "internal/bytealg.CountString", "internal/bytealg.IndexByteString", "internal/bytealg.IndexString"], unfollowed := true, recurses := true, named := ["unicode/utf8.first", "unicode/utf8.acceptRanges", "internal/bytealg.MaxLen"], apart := false, laid := [("unicode/utf8.acceptRanges", laid_unicode_utf8_acceptRanges), ("unicode/utf8.first", laid_unicode_utf8_first)], narrowed := true }
def HeadReadsUptoSaid : Prop := headReadsUptoRow.holds Tryd.pinned (OpenSpec.upto headReadsSpec)

/-- 'stairwelllaw09.HeadBytes', WHERE WHAT IT READS IS OF BULK AT MOST 1048576: true; the input reads as it did. -/
def headBytesUptoRow : OpenClaim := { program := "ytajdamefabfoaaadoor", sum := "589b817413dab5246edec7928d06b39ab31cf580979a7a1cd5c38791af3350c1", func := "stairwell/stairwelllaw09.HeadBytes", spec := "headBytes", inPlace := ["internal/abi.NoEscape", "internal/bytealg.CountString", "internal/bytealg.IndexByteString", "internal/bytealg.IndexString"], unfollowed := true, recurses := true, named := ["unicode/utf8.first", "unicode/utf8.acceptRanges", "internal/bytealg.MaxLen"], apart := false, laid := [("unicode/utf8.acceptRanges", laid_unicode_utf8_acceptRanges), ("unicode/utf8.first", laid_unicode_utf8_first)], narrowed := true }
def HeadBytesUptoSaid : Prop := headBytesUptoRow.holds Tryd.pinned (OpenSpec.upto headBytesSpec)

end Rows
end Go.Proofs.YtajdamefabfoaaaDoor
