/-
  No cell of these rows narrows 'for every input' (looked for: loops, veiled, ifaces, maps, wideKeys, modest, calm, conditions, laid).
  DERIVED. THE GIVEN ROWS OF THIS SEAT. 3 by the template 'for every input the law returns true; each argument reads behind the call as it read before'; 0 by the template 'total and deterministic' (their statements: YtajdamefabfoaaaTotals.lean).
  GIVEN WITH THE SEED: the statements are not yours to turn. If you find one false, say at which input.
  Laid BY PROGRAM, IN A SANDBOX (cutbox-rows.mjs): the forced cells as the released guide's own fill.sh prints them over the translation 131a48cad9854d97… (all of the seat's roots in one cut). By AI agents, Wed Nov 11 2026. No macro, syntax, notation, axiom, sorry.
-/
import Derived.Test.YtajdamefabfoaaaChecked
import GoSem.Claim
import GoSem.ClaimJoined
import GoSem.ClaimMapViews
import Derived.JoinedTies
import Derived.KernelRfl
namespace Go.Proofs.Ytajdamefabfoaaa
/- THE CELL 'sum', in the pinned program and in every row, IS THE sha256 OF THE DUMP (.gsa) THAT YtajdamefabfoaaaProg.lean LOADS. Nothing in Lean hashes anything: it is a label: what it is worth is what the hold of that sum in a sandbox is worth. -/
noncomputable def Try.pinned : Pinned := { name := "ytajdamefabfoaaa", sum := "131a48cad9854d97bc4edc1ef3a9baabe2c01caec55e166383b76f8371ca1cda", checked := Try.checked }
namespace Rows
def none {H : Type} : Left H := { results := [], args := [] }

/-- 'stairwelllaw03.LatticeOrder': WHATEVER THE INPUT: true; the input reads as it did. -/
def latticeOrderSpec : ChangeSpec := { name := "latticeOrder", fn := fun _ => fun
  | [d1, d2, d3] => { results := [.lit (.bool true)], args := [d1, d2, d3] }
  | _ => none }
def latticeOrderRow : OpenClaim := { program := "ytajdamefabfoaaa", sum := "131a48cad9854d97bc4edc1ef3a9baabe2c01caec55e166383b76f8371ca1cda", func := "stairwell/stairwelllaw03.LatticeOrder", spec := "latticeOrder", inPlace := ["internal/abi.NoEscape"], apart := false }
def LatticeOrderSaid : Prop := latticeOrderRow.holds Try.pinned (OpenSpec.ofChange latticeOrderSpec)

/-- ITS FALSE NEIGHBOUR: 'it returns false'. Refute it at one input. -/
def latticeOrderWrong : ChangeSpec := { name := "latticeOrder", fn := fun _ => fun
  | [d1, d2, d3] => { results := [.lit (.bool false)], args := [d1, d2, d3] }
  | _ => none }
def LatticeOrderWrongFalsely : Prop := latticeOrderRow.holds Try.pinned (OpenSpec.ofChange latticeOrderWrong)

/-- 'stairwelllaw03.LatticeUnder': WHATEVER THE INPUT: true; the input reads as it did. -/
def latticeUnderSpec : ChangeSpec := { name := "latticeUnder", fn := fun _ => fun
  | [d1, d2] => { results := [.lit (.bool true)], args := [d1, d2] }
  | _ => none }
def latticeUnderRow : OpenClaim := { program := "ytajdamefabfoaaa", sum := "131a48cad9854d97bc4edc1ef3a9baabe2c01caec55e166383b76f8371ca1cda", func := "stairwell/stairwelllaw03.LatticeUnder", spec := "latticeUnder", inPlace := ["internal/abi.NoEscape"], apart := false }
def LatticeUnderSaid : Prop := latticeUnderRow.holds Try.pinned (OpenSpec.ofChange latticeUnderSpec)

/-- ITS FALSE NEIGHBOUR: 'it returns false'. Refute it at one input. -/
def latticeUnderWrong : ChangeSpec := { name := "latticeUnder", fn := fun _ => fun
  | [d1, d2] => { results := [.lit (.bool false)], args := [d1, d2] }
  | _ => none }
def LatticeUnderWrongFalsely : Prop := latticeUnderRow.holds Try.pinned (OpenSpec.ofChange latticeUnderWrong)

/-- 'stairwelllaw03.LatticeBounds': WHATEVER THE INPUT: true; the input reads as it did. -/
def latticeBoundsSpec : ChangeSpec := { name := "latticeBounds", fn := fun _ => fun
  | [d1, d2, d3] => { results := [.lit (.bool true)], args := [d1, d2, d3] }
  | _ => none }
def latticeBoundsRow : OpenClaim := { program := "ytajdamefabfoaaa", sum := "131a48cad9854d97bc4edc1ef3a9baabe2c01caec55e166383b76f8371ca1cda", func := "stairwell/stairwelllaw03.LatticeBounds", spec := "latticeBounds", inPlace := ["internal/abi.NoEscape"], apart := false }
def LatticeBoundsSaid : Prop := latticeBoundsRow.holds Try.pinned (OpenSpec.ofChange latticeBoundsSpec)

/-- ITS FALSE NEIGHBOUR: 'it returns false'. Refute it at one input. -/
def latticeBoundsWrong : ChangeSpec := { name := "latticeBounds", fn := fun _ => fun
  | [d1, d2, d3] => { results := [.lit (.bool false)], args := [d1, d2, d3] }
  | _ => none }
def LatticeBoundsWrongFalsely : Prop := latticeBoundsRow.holds Try.pinned (OpenSpec.ofChange latticeBoundsWrong)

/- THE SECOND FORM. 'bulk': how many values and letters a reading holds, each counted each time it is reached (what is shared counts as often as it is met; a slice's spare places count too). A statement '..UptoSaid' is the law's where the arguments, and the package variables that the reading takes, are together of bulk at most 1048576: NARROWER than '..Said'. Prove '..Said' where nothing that the law and all that it calls make is longer than what came in: it says more and counts as full. Else prove '..UptoSaid'. A law counts once. -/
mutual
def uptoBulk {H : Type} : DataW H → Nat
  | .lit (.string bytes) => bytes.length + 1
  | .lit _ => 1
  | .nil => 1
  | .ptr d => uptoBulk d + 1
  | .slice elems spare => uptoBulkAll elems + uptoBulkAll spare + 1
  | .agg parts => uptoBulkAll parts + 1
  | .iface _ d => uptoBulk d + 1
  | .map entries => uptoBulkEntries entries + 1
  | .held _ => 1
def uptoBulkAll {H : Type} : List (DataW H) → Nat
  | [] => 0
  | d :: r => uptoBulk d + uptoBulkAll r
def uptoBulkEntries {H : Type} : List (Lit × DataW H) → Nat
  | [] => 0
  | x :: r => uptoBulkEntry x + uptoBulkEntries r
def uptoBulkEntry {H : Type} : Lit × DataW H → Nat
  | (.string bytes, d) => bytes.length + uptoBulk d + 1
  | (_, d) => uptoBulk d + 1
 end
def uptoSmall : (H : Type) → List (DataW H) → Bool := fun _ ds => decide (uptoBulkAll ds ≤ 1048576)
def OpenSpec.upto (s : _root_.Go.ChangeSpec) : _root_.Go.OpenSpec := { _root_.Go.OpenSpec.ofChange s with cond := some uptoSmall }

/-- 'stairwelllaw03.LatticeOrder', WHERE WHAT IT READS IS OF BULK AT MOST 1048576: true; the input reads as it did. -/
def latticeOrderUptoRow : OpenClaim := { program := "ytajdamefabfoaaa", sum := "131a48cad9854d97bc4edc1ef3a9baabe2c01caec55e166383b76f8371ca1cda", func := "stairwell/stairwelllaw03.LatticeOrder", spec := "latticeOrder", inPlace := ["internal/abi.NoEscape"], apart := false, narrowed := true }
def LatticeOrderUptoSaid : Prop := latticeOrderUptoRow.holds Try.pinned (OpenSpec.upto latticeOrderSpec)

/-- 'stairwelllaw03.LatticeUnder', WHERE WHAT IT READS IS OF BULK AT MOST 1048576: true; the input reads as it did. -/
def latticeUnderUptoRow : OpenClaim := { program := "ytajdamefabfoaaa", sum := "131a48cad9854d97bc4edc1ef3a9baabe2c01caec55e166383b76f8371ca1cda", func := "stairwell/stairwelllaw03.LatticeUnder", spec := "latticeUnder", inPlace := ["internal/abi.NoEscape"], apart := false, narrowed := true }
def LatticeUnderUptoSaid : Prop := latticeUnderUptoRow.holds Try.pinned (OpenSpec.upto latticeUnderSpec)

/-- 'stairwelllaw03.LatticeBounds', WHERE WHAT IT READS IS OF BULK AT MOST 1048576: true; the input reads as it did. -/
def latticeBoundsUptoRow : OpenClaim := { program := "ytajdamefabfoaaa", sum := "131a48cad9854d97bc4edc1ef3a9baabe2c01caec55e166383b76f8371ca1cda", func := "stairwell/stairwelllaw03.LatticeBounds", spec := "latticeBounds", inPlace := ["internal/abi.NoEscape"], apart := false, narrowed := true }
def LatticeBoundsUptoSaid : Prop := latticeBoundsUptoRow.holds Try.pinned (OpenSpec.upto latticeBoundsSpec)

end Rows
end Go.Proofs.Ytajdamefabfoaaa
