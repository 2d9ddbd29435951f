/-
  No cell of these rows narrows 'for every input' (looked for: loops, veiled, ifaces, maps, wideKeys, modest, calm, conditions, laid).
  DERIVED. THE GIVEN ROWS OF THIS SEAT. 6 by the template 'for every input the law returns true; each argument reads behind the call as it read before'; 0 by the template 'total and deterministic' (their statements: YtobailigphmopaaTotals.lean).
  GIVEN WITH THE SEED: the statements are not yours to turn. If you find one false, say at which input.
  Laid BY PROGRAM, IN A SANDBOX (cutbox-rows.mjs): the forced cells as the released guide's own fill.sh prints them over the translation b993f8f8fe6a7867… (all of the seat's roots in one cut). By AI agents, Wed Nov 11 2026. No macro, syntax, notation, axiom, sorry.
-/
import Derived.Test.YtobailigphmopaaChecked
import GoSem.Claim
import GoSem.ClaimJoined
import GoSem.ClaimMapViews
import Derived.JoinedTies
import Derived.KernelRfl
namespace Go.Proofs.Ytobailigphmopaa
/- THE CELL 'sum', in the pinned program and in every row, IS THE sha256 OF THE DUMP (.gsa) THAT YtobailigphmopaaProg.lean LOADS. Nothing in Lean hashes anything: it is a label: what it is worth is what the hold of that sum in a sandbox is worth. -/
noncomputable def Try.pinned : Pinned := { name := "ytobailigphmopaa", sum := "b993f8f8fe6a786787f4294e0653cfa117315812c301dc5a5342011f26b731f4", checked := Try.checked }
namespace Rows
def none {H : Type} : Left H := { results := [], args := [] }

/-- 'beaglelaw10.WildValues': WHATEVER THE INPUT: true; the input reads as it did. -/
def wildValuesSpec : ChangeSpec := { name := "wildValues", fn := fun _ => fun
  | [d1, d2] => { results := [.lit (.bool true)], args := [d1, d2] }
  | _ => none }
def wildValuesRow : OpenClaim := { program := "ytobailigphmopaa", sum := "b993f8f8fe6a786787f4294e0653cfa117315812c301dc5a5342011f26b731f4", func := "beagle/beaglelaw10.WildValues", spec := "wildValues", unfollowed := true, recurses := true, apart := false }
def WildValuesSaid : Prop := wildValuesRow.holds Try.pinned (OpenSpec.ofChange wildValuesSpec)

/-- ITS FALSE NEIGHBOUR: 'it returns false'. Refute it at one input. -/
def wildValuesWrong : ChangeSpec := { name := "wildValues", fn := fun _ => fun
  | [d1, d2] => { results := [.lit (.bool false)], args := [d1, d2] }
  | _ => none }
def WildValuesWrongFalsely : Prop := wildValuesRow.holds Try.pinned (OpenSpec.ofChange wildValuesWrong)

/-- 'beaglelaw10.WildSums': WHATEVER THE INPUT: true; the input reads as it did. -/
def wildSumsSpec : ChangeSpec := { name := "wildSums", fn := fun _ => fun
  | [d1, d2, d3] => { results := [.lit (.bool true)], args := [d1, d2, d3] }
  | _ => none }
def wildSumsRow : OpenClaim := { program := "ytobailigphmopaa", sum := "b993f8f8fe6a786787f4294e0653cfa117315812c301dc5a5342011f26b731f4", func := "beagle/beaglelaw10.WildSums", spec := "wildSums", unfollowed := true, recurses := true, apart := false }
def WildSumsSaid : Prop := wildSumsRow.holds Try.pinned (OpenSpec.ofChange wildSumsSpec)

/-- ITS FALSE NEIGHBOUR: 'it returns false'. Refute it at one input. -/
def wildSumsWrong : ChangeSpec := { name := "wildSums", fn := fun _ => fun
  | [d1, d2, d3] => { results := [.lit (.bool false)], args := [d1, d2, d3] }
  | _ => none }
def WildSumsWrongFalsely : Prop := wildSumsRow.holds Try.pinned (OpenSpec.ofChange wildSumsWrong)

/-- 'beaglelaw10.WildFinds': WHATEVER THE INPUT: true; the input reads as it did. -/
def wildFindsSpec : ChangeSpec := { name := "wildFinds", fn := fun _ => fun
  | [d1, d2, d3] => { results := [.lit (.bool true)], args := [d1, d2, d3] }
  | _ => none }
def wildFindsRow : OpenClaim := { program := "ytobailigphmopaa", sum := "b993f8f8fe6a786787f4294e0653cfa117315812c301dc5a5342011f26b731f4", func := "beagle/beaglelaw10.WildFinds", spec := "wildFinds", unfollowed := true, recurses := true, apart := false }
def WildFindsSaid : Prop := wildFindsRow.holds Try.pinned (OpenSpec.ofChange wildFindsSpec)

/-- ITS FALSE NEIGHBOUR: 'it returns false'. Refute it at one input. -/
def wildFindsWrong : ChangeSpec := { name := "wildFinds", fn := fun _ => fun
  | [d1, d2, d3] => { results := [.lit (.bool false)], args := [d1, d2, d3] }
  | _ => none }
def WildFindsWrongFalsely : Prop := wildFindsRow.holds Try.pinned (OpenSpec.ofChange wildFindsWrong)

/-- 'beaglelaw10.WildZero': WHATEVER THE INPUT: true; the input reads as it did. -/
def wildZeroSpec : ChangeSpec := { name := "wildZero", fn := fun _ => fun
  | [d1, d2, d3] => { results := [.lit (.bool true)], args := [d1, d2, d3] }
  | _ => none }
def wildZeroRow : OpenClaim := { program := "ytobailigphmopaa", sum := "b993f8f8fe6a786787f4294e0653cfa117315812c301dc5a5342011f26b731f4", func := "beagle/beaglelaw10.WildZero", spec := "wildZero", unfollowed := true, recurses := true, apart := false }
def WildZeroSaid : Prop := wildZeroRow.holds Try.pinned (OpenSpec.ofChange wildZeroSpec)

/-- ITS FALSE NEIGHBOUR: 'it returns false'. Refute it at one input. -/
def wildZeroWrong : ChangeSpec := { name := "wildZero", fn := fun _ => fun
  | [d1, d2, d3] => { results := [.lit (.bool false)], args := [d1, d2, d3] }
  | _ => none }
def WildZeroWrongFalsely : Prop := wildZeroRow.holds Try.pinned (OpenSpec.ofChange wildZeroWrong)

/-- 'beaglelaw10.WildSizes': WHATEVER THE INPUT: true; the input reads as it did. -/
def wildSizesSpec : ChangeSpec := { name := "wildSizes", fn := fun _ => fun
  | [d1, d2, d3] => { results := [.lit (.bool true)], args := [d1, d2, d3] }
  | _ => none }
def wildSizesRow : OpenClaim := { program := "ytobailigphmopaa", sum := "b993f8f8fe6a786787f4294e0653cfa117315812c301dc5a5342011f26b731f4", func := "beagle/beaglelaw10.WildSizes", spec := "wildSizes", unfollowed := true, recurses := true, apart := false }
def WildSizesSaid : Prop := wildSizesRow.holds Try.pinned (OpenSpec.ofChange wildSizesSpec)

/-- ITS FALSE NEIGHBOUR: 'it returns false'. Refute it at one input. -/
def wildSizesWrong : ChangeSpec := { name := "wildSizes", fn := fun _ => fun
  | [d1, d2, d3] => { results := [.lit (.bool false)], args := [d1, d2, d3] }
  | _ => none }
def WildSizesWrongFalsely : Prop := wildSizesRow.holds Try.pinned (OpenSpec.ofChange wildSizesWrong)

/-- 'beaglelaw10.WildGreat': WHATEVER THE INPUT: true; the input reads as it did. -/
def wildGreatSpec : ChangeSpec := { name := "wildGreat", fn := fun _ => fun
  | [d1, d2, d3] => { results := [.lit (.bool true)], args := [d1, d2, d3] }
  | _ => none }
def wildGreatRow : OpenClaim := { program := "ytobailigphmopaa", sum := "b993f8f8fe6a786787f4294e0653cfa117315812c301dc5a5342011f26b731f4", func := "beagle/beaglelaw10.WildGreat", spec := "wildGreat", unfollowed := true, recurses := true, apart := false }
def WildGreatSaid : Prop := wildGreatRow.holds Try.pinned (OpenSpec.ofChange wildGreatSpec)

/-- ITS FALSE NEIGHBOUR: 'it returns false'. Refute it at one input. -/
def wildGreatWrong : ChangeSpec := { name := "wildGreat", fn := fun _ => fun
  | [d1, d2, d3] => { results := [.lit (.bool false)], args := [d1, d2, d3] }
  | _ => none }
def WildGreatWrongFalsely : Prop := wildGreatRow.holds Try.pinned (OpenSpec.ofChange wildGreatWrong)

/- THE SECOND FORM. 'bulk': how many values and letters a reading holds, each counted each time it is reached (what is shared counts as often as it is met; a slice's spare places count too). A statement '..UptoSaid' is the law's where the arguments, and the package variables that the reading takes, are together of bulk at most 1048576: NARROWER than '..Said'. Prove '..Said' where nothing that the law and all that it calls make is longer than what came in: it says more and counts as full. Else prove '..UptoSaid'. A law counts once. -/
mutual
def uptoBulk {H : Type} : DataW H → Nat
  | .lit (.string bytes) => bytes.length + 1
  | .lit _ => 1
  | .nil => 1
  | .ptr d => uptoBulk d + 1
  | .slice elems spare => uptoBulkAll elems + uptoBulkAll spare + 1
  | .agg parts => uptoBulkAll parts + 1
  | .iface _ d => uptoBulk d + 1
  | .map entries => uptoBulkEntries entries + 1
  | .held _ => 1
def uptoBulkAll {H : Type} : List (DataW H) → Nat
  | [] => 0
  | d :: r => uptoBulk d + uptoBulkAll r
def uptoBulkEntries {H : Type} : List (Lit × DataW H) → Nat
  | [] => 0
  | x :: r => uptoBulkEntry x + uptoBulkEntries r
def uptoBulkEntry {H : Type} : Lit × DataW H → Nat
  | (.string bytes, d) => bytes.length + uptoBulk d + 1
  | (_, d) => uptoBulk d + 1
 end
def uptoSmall : (H : Type) → List (DataW H) → Bool := fun _ ds => decide (uptoBulkAll ds ≤ 1048576)
def OpenSpec.upto (s : _root_.Go.ChangeSpec) : _root_.Go.OpenSpec := { _root_.Go.OpenSpec.ofChange s with cond := some uptoSmall }

/-- 'beaglelaw10.WildValues', WHERE WHAT IT READS IS OF BULK AT MOST 1048576: true; the input reads as it did. -/
def wildValuesUptoRow : OpenClaim := { program := "ytobailigphmopaa", sum := "b993f8f8fe6a786787f4294e0653cfa117315812c301dc5a5342011f26b731f4", func := "beagle/beaglelaw10.WildValues", spec := "wildValues", unfollowed := true, recurses := true, apart := false, narrowed := true }
def WildValuesUptoSaid : Prop := wildValuesUptoRow.holds Try.pinned (OpenSpec.upto wildValuesSpec)

/-- 'beaglelaw10.WildSums', WHERE WHAT IT READS IS OF BULK AT MOST 1048576: true; the input reads as it did. -/
def wildSumsUptoRow : OpenClaim := { program := "ytobailigphmopaa", sum := "b993f8f8fe6a786787f4294e0653cfa117315812c301dc5a5342011f26b731f4", func := "beagle/beaglelaw10.WildSums", spec := "wildSums", unfollowed := true, recurses := true, apart := false, narrowed := true }
def WildSumsUptoSaid : Prop := wildSumsUptoRow.holds Try.pinned (OpenSpec.upto wildSumsSpec)

/-- 'beaglelaw10.WildFinds', WHERE WHAT IT READS IS OF BULK AT MOST 1048576: true; the input reads as it did. -/
def wildFindsUptoRow : OpenClaim := { program := "ytobailigphmopaa", sum := "b993f8f8fe6a786787f4294e0653cfa117315812c301dc5a5342011f26b731f4", func := "beagle/beaglelaw10.WildFinds", spec := "wildFinds", unfollowed := true, recurses := true, apart := false, narrowed := true }
def WildFindsUptoSaid : Prop := wildFindsUptoRow.holds Try.pinned (OpenSpec.upto wildFindsSpec)

/-- 'beaglelaw10.WildZero', WHERE WHAT IT READS IS OF BULK AT MOST 1048576: true; the input reads as it did. -/
def wildZeroUptoRow : OpenClaim := { program := "ytobailigphmopaa", sum := "b993f8f8fe6a786787f4294e0653cfa117315812c301dc5a5342011f26b731f4", func := "beagle/beaglelaw10.WildZero", spec := "wildZero", unfollowed := true, recurses := true, apart := false, narrowed := true }
def WildZeroUptoSaid : Prop := wildZeroUptoRow.holds Try.pinned (OpenSpec.upto wildZeroSpec)

/-- 'beaglelaw10.WildSizes', WHERE WHAT IT READS IS OF BULK AT MOST 1048576: true; the input reads as it did. -/
def wildSizesUptoRow : OpenClaim := { program := "ytobailigphmopaa", sum := "b993f8f8fe6a786787f4294e0653cfa117315812c301dc5a5342011f26b731f4", func := "beagle/beaglelaw10.WildSizes", spec := "wildSizes", unfollowed := true, recurses := true, apart := false, narrowed := true }
def WildSizesUptoSaid : Prop := wildSizesUptoRow.holds Try.pinned (OpenSpec.upto wildSizesSpec)

/-- 'beaglelaw10.WildGreat', WHERE WHAT IT READS IS OF BULK AT MOST 1048576: true; the input reads as it did. -/
def wildGreatUptoRow : OpenClaim := { program := "ytobailigphmopaa", sum := "b993f8f8fe6a786787f4294e0653cfa117315812c301dc5a5342011f26b731f4", func := "beagle/beaglelaw10.WildGreat", spec := "wildGreat", unfollowed := true, recurses := true, apart := false, narrowed := true }
def WildGreatUptoSaid : Prop := wildGreatUptoRow.holds Try.pinned (OpenSpec.upto wildGreatSpec)

end Rows
end Go.Proofs.Ytobailigphmopaa
