/-
  No cell of these rows narrows 'for every input' (looked for: loops, veiled, ifaces, maps, wideKeys, modest, calm, conditions, laid).
  DERIVED. THE GIVEN ROWS OF THIS SEAT. 6 by the template 'for every input the law returns true; each argument reads behind the call as it read before'; 0 by the template 'total and deterministic' (their statements: YtkifafdbobhlpaaTotals.lean).
  GIVEN WITH THE SEED: the statements are not yours to turn. If you find one false, say at which input.
  Laid BY PROGRAM, IN A SANDBOX (cutbox-rows.mjs): the forced cells as the released guide's own fill.sh prints them over the translation 29f686f137a960b7… (all of the seat's roots in one cut). By AI agents, Wed Nov 11 2026. No macro, syntax, notation, axiom, sorry.
-/
import Derived.Test.YtkifafdbobhlpaaChecked
import GoSem.Claim
import GoSem.ClaimJoined
import GoSem.ClaimMapViews
import Derived.JoinedTies
import Derived.KernelRfl
namespace Go.Proofs.Ytkifafdbobhlpaa
/- THE CELL 'sum', in the pinned program and in every row, IS THE sha256 OF THE DUMP (.gsa) THAT YtkifafdbobhlpaaProg.lean LOADS. Nothing in Lean hashes anything: it is a label: what it is worth is what the hold of that sum in a sandbox is worth. -/
noncomputable def Try.pinned : Pinned := { name := "ytkifafdbobhlpaa", sum := "29f686f137a960b725de1c2a056775d5e24ff0c54beede1047c80f245ceb41fe", checked := Try.checked }
namespace Rows
def none {H : Type} : Left H := { results := [], args := [] }

/-- 'beaglelaw21.TurnPoint': WHATEVER THE INPUT: true; the input reads as it did. -/
def turnPointSpec : ChangeSpec := { name := "turnPoint", fn := fun _ => fun
  | [d1, d2, d3] => { results := [.lit (.bool true)], args := [d1, d2, d3] }
  | _ => none }
def turnPointRow : OpenClaim := { program := "ytkifafdbobhlpaa", sum := "29f686f137a960b725de1c2a056775d5e24ff0c54beede1047c80f245ceb41fe", func := "beagle/beaglelaw21.TurnPoint", spec := "turnPoint", apart := false }
def TurnPointSaid : Prop := turnPointRow.holds Try.pinned (OpenSpec.ofChange turnPointSpec)

/-- ITS FALSE NEIGHBOUR: 'it returns false'. Refute it at one input. -/
def turnPointWrong : ChangeSpec := { name := "turnPoint", fn := fun _ => fun
  | [d1, d2, d3] => { results := [.lit (.bool false)], args := [d1, d2, d3] }
  | _ => none }
def TurnPointWrongFalsely : Prop := turnPointRow.holds Try.pinned (OpenSpec.ofChange turnPointWrong)

/-- 'beaglelaw21.TurnBox': WHATEVER THE INPUT: true; the input reads as it did. -/
def turnBoxSpec : ChangeSpec := { name := "turnBox", fn := fun _ => fun
  | [d] => { results := [.lit (.bool true)], args := [d] }
  | _ => none }
def turnBoxRow : OpenClaim := { program := "ytkifafdbobhlpaa", sum := "29f686f137a960b725de1c2a056775d5e24ff0c54beede1047c80f245ceb41fe", func := "beagle/beaglelaw21.TurnBox", spec := "turnBox", apart := false }
def TurnBoxSaid : Prop := turnBoxRow.holds Try.pinned (OpenSpec.ofChange turnBoxSpec)

/-- ITS FALSE NEIGHBOUR: 'it returns false'. Refute it at one input. -/
def turnBoxWrong : ChangeSpec := { name := "turnBox", fn := fun _ => fun
  | [d] => { results := [.lit (.bool false)], args := [d] }
  | _ => none }
def TurnBoxWrongFalsely : Prop := turnBoxRow.holds Try.pinned (OpenSpec.ofChange turnBoxWrong)

/-- 'beaglelaw21.TurnPoints': WHATEVER THE INPUT: true; the input reads as it did. -/
def turnPointsSpec : ChangeSpec := { name := "turnPoints", fn := fun _ => fun
  | [d1, d2] => { results := [.lit (.bool true)], args := [d1, d2] }
  | _ => none }
def turnPointsRow : OpenClaim := { program := "ytkifafdbobhlpaa", sum := "29f686f137a960b725de1c2a056775d5e24ff0c54beede1047c80f245ceb41fe", func := "beagle/beaglelaw21.TurnPoints", spec := "turnPoints", apart := false }
def TurnPointsSaid : Prop := turnPointsRow.holds Try.pinned (OpenSpec.ofChange turnPointsSpec)

/-- ITS FALSE NEIGHBOUR: 'it returns false'. Refute it at one input. -/
def turnPointsWrong : ChangeSpec := { name := "turnPoints", fn := fun _ => fun
  | [d1, d2] => { results := [.lit (.bool false)], args := [d1, d2] }
  | _ => none }
def TurnPointsWrongFalsely : Prop := turnPointsRow.holds Try.pinned (OpenSpec.ofChange turnPointsWrong)

/-- 'beaglelaw21.TurnTwice': WHATEVER THE INPUT: true; the input reads as it did. -/
def turnTwiceSpec : ChangeSpec := { name := "turnTwice", fn := fun _ => fun
  | [d1, d2] => { results := [.lit (.bool true)], args := [d1, d2] }
  | _ => none }
def turnTwiceRow : OpenClaim := { program := "ytkifafdbobhlpaa", sum := "29f686f137a960b725de1c2a056775d5e24ff0c54beede1047c80f245ceb41fe", func := "beagle/beaglelaw21.TurnTwice", spec := "turnTwice", apart := false }
def TurnTwiceSaid : Prop := turnTwiceRow.holds Try.pinned (OpenSpec.ofChange turnTwiceSpec)

/-- ITS FALSE NEIGHBOUR: 'it returns false'. Refute it at one input. -/
def turnTwiceWrong : ChangeSpec := { name := "turnTwice", fn := fun _ => fun
  | [d1, d2] => { results := [.lit (.bool false)], args := [d1, d2] }
  | _ => none }
def TurnTwiceWrongFalsely : Prop := turnTwiceRow.holds Try.pinned (OpenSpec.ofChange turnTwiceWrong)

/-- 'beaglelaw21.TurnCells': WHATEVER THE INPUT: true; the input reads as it did. -/
def turnCellsSpec : ChangeSpec := { name := "turnCells", fn := fun _ => fun
  | [d1, d2, d3] => { results := [.lit (.bool true)], args := [d1, d2, d3] }
  | _ => none }
def turnCellsRow : OpenClaim := { program := "ytkifafdbobhlpaa", sum := "29f686f137a960b725de1c2a056775d5e24ff0c54beede1047c80f245ceb41fe", func := "beagle/beaglelaw21.TurnCells", spec := "turnCells", apart := false }
def TurnCellsSaid : Prop := turnCellsRow.holds Try.pinned (OpenSpec.ofChange turnCellsSpec)

/-- ITS FALSE NEIGHBOUR: 'it returns false'. Refute it at one input. -/
def turnCellsWrong : ChangeSpec := { name := "turnCells", fn := fun _ => fun
  | [d1, d2, d3] => { results := [.lit (.bool false)], args := [d1, d2, d3] }
  | _ => none }
def TurnCellsWrongFalsely : Prop := turnCellsRow.holds Try.pinned (OpenSpec.ofChange turnCellsWrong)

/-- 'beaglelaw21.TurnFour': WHATEVER THE INPUT: true; the input reads as it did. -/
def turnFourSpec : ChangeSpec := { name := "turnFour", fn := fun _ => fun
  | [d1, d2] => { results := [.lit (.bool true)], args := [d1, d2] }
  | _ => none }
def turnFourRow : OpenClaim := { program := "ytkifafdbobhlpaa", sum := "29f686f137a960b725de1c2a056775d5e24ff0c54beede1047c80f245ceb41fe", func := "beagle/beaglelaw21.TurnFour", spec := "turnFour", apart := false }
def TurnFourSaid : Prop := turnFourRow.holds Try.pinned (OpenSpec.ofChange turnFourSpec)

/-- ITS FALSE NEIGHBOUR: 'it returns false'. Refute it at one input. -/
def turnFourWrong : ChangeSpec := { name := "turnFour", fn := fun _ => fun
  | [d1, d2] => { results := [.lit (.bool false)], args := [d1, d2] }
  | _ => none }
def TurnFourWrongFalsely : Prop := turnFourRow.holds Try.pinned (OpenSpec.ofChange turnFourWrong)

/- THE SECOND FORM. 'bulk': how many values and letters a reading holds, each counted each time it is reached (what is shared counts as often as it is met; a slice's spare places count too). A statement '..UptoSaid' is the law's where the arguments, and the package variables that the reading takes, are together of bulk at most 1048576: NARROWER than '..Said'. Prove '..Said' where nothing that the law and all that it calls make is longer than what came in: it says more and counts as full. Else prove '..UptoSaid'. A law counts once. -/
mutual
def uptoBulk {H : Type} : DataW H → Nat
  | .lit (.string bytes) => bytes.length + 1
  | .lit _ => 1
  | .nil => 1
  | .ptr d => uptoBulk d + 1
  | .slice elems spare => uptoBulkAll elems + uptoBulkAll spare + 1
  | .agg parts => uptoBulkAll parts + 1
  | .iface _ d => uptoBulk d + 1
  | .map entries => uptoBulkEntries entries + 1
  | .held _ => 1
def uptoBulkAll {H : Type} : List (DataW H) → Nat
  | [] => 0
  | d :: r => uptoBulk d + uptoBulkAll r
def uptoBulkEntries {H : Type} : List (Lit × DataW H) → Nat
  | [] => 0
  | x :: r => uptoBulkEntry x + uptoBulkEntries r
def uptoBulkEntry {H : Type} : Lit × DataW H → Nat
  | (.string bytes, d) => bytes.length + uptoBulk d + 1
  | (_, d) => uptoBulk d + 1
 end
def uptoSmall : (H : Type) → List (DataW H) → Bool := fun _ ds => decide (uptoBulkAll ds ≤ 1048576)
def OpenSpec.upto (s : _root_.Go.ChangeSpec) : _root_.Go.OpenSpec := { _root_.Go.OpenSpec.ofChange s with cond := some uptoSmall }

/-- 'beaglelaw21.TurnPoint', WHERE WHAT IT READS IS OF BULK AT MOST 1048576: true; the input reads as it did. -/
def turnPointUptoRow : OpenClaim := { program := "ytkifafdbobhlpaa", sum := "29f686f137a960b725de1c2a056775d5e24ff0c54beede1047c80f245ceb41fe", func := "beagle/beaglelaw21.TurnPoint", spec := "turnPoint", apart := false, narrowed := true }
def TurnPointUptoSaid : Prop := turnPointUptoRow.holds Try.pinned (OpenSpec.upto turnPointSpec)

/-- 'beaglelaw21.TurnBox', WHERE WHAT IT READS IS OF BULK AT MOST 1048576: true; the input reads as it did. -/
def turnBoxUptoRow : OpenClaim := { program := "ytkifafdbobhlpaa", sum := "29f686f137a960b725de1c2a056775d5e24ff0c54beede1047c80f245ceb41fe", func := "beagle/beaglelaw21.TurnBox", spec := "turnBox", apart := false, narrowed := true }
def TurnBoxUptoSaid : Prop := turnBoxUptoRow.holds Try.pinned (OpenSpec.upto turnBoxSpec)

/-- 'beaglelaw21.TurnPoints', WHERE WHAT IT READS IS OF BULK AT MOST 1048576: true; the input reads as it did. -/
def turnPointsUptoRow : OpenClaim := { program := "ytkifafdbobhlpaa", sum := "29f686f137a960b725de1c2a056775d5e24ff0c54beede1047c80f245ceb41fe", func := "beagle/beaglelaw21.TurnPoints", spec := "turnPoints", apart := false, narrowed := true }
def TurnPointsUptoSaid : Prop := turnPointsUptoRow.holds Try.pinned (OpenSpec.upto turnPointsSpec)

/-- 'beaglelaw21.TurnTwice', WHERE WHAT IT READS IS OF BULK AT MOST 1048576: true; the input reads as it did. -/
def turnTwiceUptoRow : OpenClaim := { program := "ytkifafdbobhlpaa", sum := "29f686f137a960b725de1c2a056775d5e24ff0c54beede1047c80f245ceb41fe", func := "beagle/beaglelaw21.TurnTwice", spec := "turnTwice", apart := false, narrowed := true }
def TurnTwiceUptoSaid : Prop := turnTwiceUptoRow.holds Try.pinned (OpenSpec.upto turnTwiceSpec)

/-- 'beaglelaw21.TurnCells', WHERE WHAT IT READS IS OF BULK AT MOST 1048576: true; the input reads as it did. -/
def turnCellsUptoRow : OpenClaim := { program := "ytkifafdbobhlpaa", sum := "29f686f137a960b725de1c2a056775d5e24ff0c54beede1047c80f245ceb41fe", func := "beagle/beaglelaw21.TurnCells", spec := "turnCells", apart := false, narrowed := true }
def TurnCellsUptoSaid : Prop := turnCellsUptoRow.holds Try.pinned (OpenSpec.upto turnCellsSpec)

/-- 'beaglelaw21.TurnFour', WHERE WHAT IT READS IS OF BULK AT MOST 1048576: true; the input reads as it did. -/
def turnFourUptoRow : OpenClaim := { program := "ytkifafdbobhlpaa", sum := "29f686f137a960b725de1c2a056775d5e24ff0c54beede1047c80f245ceb41fe", func := "beagle/beaglelaw21.TurnFour", spec := "turnFour", apart := false, narrowed := true }
def TurnFourUptoSaid : Prop := turnFourUptoRow.holds Try.pinned (OpenSpec.upto turnFourSpec)

end Rows
end Go.Proofs.Ytkifafdbobhlpaa
