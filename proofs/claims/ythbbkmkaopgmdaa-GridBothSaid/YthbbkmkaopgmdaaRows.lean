/-
  No cell of these rows narrows 'for every input' (looked for: loops, veiled, ifaces, maps, wideKeys, modest, calm, conditions, laid).
  DERIVED. THE GIVEN ROWS OF THIS SEAT. 6 by the template 'for every input the law returns true; each argument reads behind the call as it read before'; 0 by the template 'total and deterministic' (their statements: YthbbkmkaopgmdaaTotals.lean).
  GIVEN WITH THE SEED: the statements are not yours to turn. If you find one false, say at which input.
  Laid BY PROGRAM, IN A SANDBOX (cutbox-rows.mjs): the forced cells as the released guide's own fill.sh prints them over the translation 8df20a9494f5e1a8… (all of the seat's roots in one cut). By AI agents, Wed Nov 11 2026. No macro, syntax, notation, axiom, sorry.
-/
import Derived.Test.YthbbkmkaopgmdaaChecked
import GoSem.Claim
import GoSem.ClaimJoined
import GoSem.ClaimMapViews
import Derived.JoinedTies
import Derived.KernelRfl
namespace Go.Proofs.Ythbbkmkaopgmdaa
/- THE CELL 'sum', in the pinned program and in every row, IS THE sha256 OF THE DUMP (.gsa) THAT YthbbkmkaopgmdaaProg.lean LOADS. Nothing in Lean hashes anything: it is a label: what it is worth is what the hold of that sum in a sandbox is worth. -/
noncomputable def Try.pinned : Pinned := { name := "ythbbkmkaopgmdaa", sum := "8df20a9494f5e1a8e30f684c02c22b808a341ddbe712c77dd93c1e9fdaa8d81f", checked := Try.checked }
namespace Rows
def none {H : Type} : Left H := { results := [], args := [] }

/-- 'beaglelaw22.GridForms': WHATEVER THE INPUT: true; the input reads as it did. -/
def gridFormsSpec : ChangeSpec := { name := "gridForms", fn := fun _ => fun
  | [d1, d2] => { results := [.lit (.bool true)], args := [d1, d2] }
  | _ => none }
def gridFormsRow : OpenClaim := { program := "ythbbkmkaopgmdaa", sum := "8df20a9494f5e1a8e30f684c02c22b808a341ddbe712c77dd93c1e9fdaa8d81f", func := "beagle/beaglelaw22.GridForms", spec := "gridForms", unfollowed := true, recurses := true, apart := false }
def GridFormsSaid : Prop := gridFormsRow.holds Try.pinned (OpenSpec.ofChange gridFormsSpec)

/-- ITS FALSE NEIGHBOUR: 'it returns false'. Refute it at one input. -/
def gridFormsWrong : ChangeSpec := { name := "gridForms", fn := fun _ => fun
  | [d1, d2] => { results := [.lit (.bool false)], args := [d1, d2] }
  | _ => none }
def GridFormsWrongFalsely : Prop := gridFormsRow.holds Try.pinned (OpenSpec.ofChange gridFormsWrong)

/-- 'beaglelaw22.GridFinds': WHATEVER THE INPUT: true; the input reads as it did. -/
def gridFindsSpec : ChangeSpec := { name := "gridFinds", fn := fun _ => fun
  | [d1, d2, d3] => { results := [.lit (.bool true)], args := [d1, d2, d3] }
  | _ => none }
def gridFindsRow : OpenClaim := { program := "ythbbkmkaopgmdaa", sum := "8df20a9494f5e1a8e30f684c02c22b808a341ddbe712c77dd93c1e9fdaa8d81f", func := "beagle/beaglelaw22.GridFinds", spec := "gridFinds", unfollowed := true, recurses := true, apart := false }
def GridFindsSaid : Prop := gridFindsRow.holds Try.pinned (OpenSpec.ofChange gridFindsSpec)

/-- ITS FALSE NEIGHBOUR: 'it returns false'. Refute it at one input. -/
def gridFindsWrong : ChangeSpec := { name := "gridFinds", fn := fun _ => fun
  | [d1, d2, d3] => { results := [.lit (.bool false)], args := [d1, d2, d3] }
  | _ => none }
def GridFindsWrongFalsely : Prop := gridFindsRow.holds Try.pinned (OpenSpec.ofChange gridFindsWrong)

/-- 'beaglelaw22.GridTurns': WHATEVER THE INPUT: true; the input reads as it did. -/
def gridTurnsSpec : ChangeSpec := { name := "gridTurns", fn := fun _ => fun
  | [d1, d2] => { results := [.lit (.bool true)], args := [d1, d2] }
  | _ => none }
def gridTurnsRow : OpenClaim := { program := "ythbbkmkaopgmdaa", sum := "8df20a9494f5e1a8e30f684c02c22b808a341ddbe712c77dd93c1e9fdaa8d81f", func := "beagle/beaglelaw22.GridTurns", spec := "gridTurns", unfollowed := true, recurses := true, apart := false }
def GridTurnsSaid : Prop := gridTurnsRow.holds Try.pinned (OpenSpec.ofChange gridTurnsSpec)

/-- ITS FALSE NEIGHBOUR: 'it returns false'. Refute it at one input. -/
def gridTurnsWrong : ChangeSpec := { name := "gridTurns", fn := fun _ => fun
  | [d1, d2] => { results := [.lit (.bool false)], args := [d1, d2] }
  | _ => none }
def GridTurnsWrongFalsely : Prop := gridTurnsRow.holds Try.pinned (OpenSpec.ofChange gridTurnsWrong)

/-- 'beaglelaw22.GridAll': WHATEVER THE INPUT: true; the input reads as it did. -/
def gridAllSpec : ChangeSpec := { name := "gridAll", fn := fun _ => fun
  | [d1, d2, d3] => { results := [.lit (.bool true)], args := [d1, d2, d3] }
  | _ => none }
def gridAllRow : OpenClaim := { program := "ythbbkmkaopgmdaa", sum := "8df20a9494f5e1a8e30f684c02c22b808a341ddbe712c77dd93c1e9fdaa8d81f", func := "beagle/beaglelaw22.GridAll", spec := "gridAll", unfollowed := true, recurses := true, apart := false }
def GridAllSaid : Prop := gridAllRow.holds Try.pinned (OpenSpec.ofChange gridAllSpec)

/-- ITS FALSE NEIGHBOUR: 'it returns false'. Refute it at one input. -/
def gridAllWrong : ChangeSpec := { name := "gridAll", fn := fun _ => fun
  | [d1, d2, d3] => { results := [.lit (.bool false)], args := [d1, d2, d3] }
  | _ => none }
def GridAllWrongFalsely : Prop := gridAllRow.holds Try.pinned (OpenSpec.ofChange gridAllWrong)

/-- 'beaglelaw22.GridSizes': WHATEVER THE INPUT: true; the input reads as it did. -/
def gridSizesSpec : ChangeSpec := { name := "gridSizes", fn := fun _ => fun
  | [d1, d2, d3] => { results := [.lit (.bool true)], args := [d1, d2, d3] }
  | _ => none }
def gridSizesRow : OpenClaim := { program := "ythbbkmkaopgmdaa", sum := "8df20a9494f5e1a8e30f684c02c22b808a341ddbe712c77dd93c1e9fdaa8d81f", func := "beagle/beaglelaw22.GridSizes", spec := "gridSizes", unfollowed := true, recurses := true, apart := false }
def GridSizesSaid : Prop := gridSizesRow.holds Try.pinned (OpenSpec.ofChange gridSizesSpec)

/-- ITS FALSE NEIGHBOUR: 'it returns false'. Refute it at one input. -/
def gridSizesWrong : ChangeSpec := { name := "gridSizes", fn := fun _ => fun
  | [d1, d2, d3] => { results := [.lit (.bool false)], args := [d1, d2, d3] }
  | _ => none }
def GridSizesWrongFalsely : Prop := gridSizesRow.holds Try.pinned (OpenSpec.ofChange gridSizesWrong)

/-- 'beaglelaw22.GridBoth': WHATEVER THE INPUT: true; the input reads as it did. -/
def gridBothSpec : ChangeSpec := { name := "gridBoth", fn := fun _ => fun
  | [d1, d2, d3] => { results := [.lit (.bool true)], args := [d1, d2, d3] }
  | _ => none }
def gridBothRow : OpenClaim := { program := "ythbbkmkaopgmdaa", sum := "8df20a9494f5e1a8e30f684c02c22b808a341ddbe712c77dd93c1e9fdaa8d81f", func := "beagle/beaglelaw22.GridBoth", spec := "gridBoth", unfollowed := true, recurses := true, apart := false }
def GridBothSaid : Prop := gridBothRow.holds Try.pinned (OpenSpec.ofChange gridBothSpec)

/-- ITS FALSE NEIGHBOUR: 'it returns false'. Refute it at one input. -/
def gridBothWrong : ChangeSpec := { name := "gridBoth", fn := fun _ => fun
  | [d1, d2, d3] => { results := [.lit (.bool false)], args := [d1, d2, d3] }
  | _ => none }
def GridBothWrongFalsely : Prop := gridBothRow.holds Try.pinned (OpenSpec.ofChange gridBothWrong)

/- THE SECOND FORM. 'bulk': how many values and letters a reading holds, each counted each time it is reached (what is shared counts as often as it is met; a slice's spare places count too). A statement '..UptoSaid' is the law's where the arguments, and the package variables that the reading takes, are together of bulk at most 1048576: NARROWER than '..Said'. Prove '..Said' where nothing that the law and all that it calls make is longer than what came in: it says more and counts as full. Else prove '..UptoSaid'. A law counts once. -/
mutual
def uptoBulk {H : Type} : DataW H → Nat
  | .lit (.string bytes) => bytes.length + 1
  | .lit _ => 1
  | .nil => 1
  | .ptr d => uptoBulk d + 1
  | .slice elems spare => uptoBulkAll elems + uptoBulkAll spare + 1
  | .agg parts => uptoBulkAll parts + 1
  | .iface _ d => uptoBulk d + 1
  | .map entries => uptoBulkEntries entries + 1
  | .held _ => 1
def uptoBulkAll {H : Type} : List (DataW H) → Nat
  | [] => 0
  | d :: r => uptoBulk d + uptoBulkAll r
def uptoBulkEntries {H : Type} : List (Lit × DataW H) → Nat
  | [] => 0
  | x :: r => uptoBulkEntry x + uptoBulkEntries r
def uptoBulkEntry {H : Type} : Lit × DataW H → Nat
  | (.string bytes, d) => bytes.length + uptoBulk d + 1
  | (_, d) => uptoBulk d + 1
 end
def uptoSmall : (H : Type) → List (DataW H) → Bool := fun _ ds => decide (uptoBulkAll ds ≤ 1048576)
def OpenSpec.upto (s : _root_.Go.ChangeSpec) : _root_.Go.OpenSpec := { _root_.Go.OpenSpec.ofChange s with cond := some uptoSmall }

/-- 'beaglelaw22.GridForms', WHERE WHAT IT READS IS OF BULK AT MOST 1048576: true; the input reads as it did. -/
def gridFormsUptoRow : OpenClaim := { program := "ythbbkmkaopgmdaa", sum := "8df20a9494f5e1a8e30f684c02c22b808a341ddbe712c77dd93c1e9fdaa8d81f", func := "beagle/beaglelaw22.GridForms", spec := "gridForms", unfollowed := true, recurses := true, apart := false, narrowed := true }
def GridFormsUptoSaid : Prop := gridFormsUptoRow.holds Try.pinned (OpenSpec.upto gridFormsSpec)

/-- 'beaglelaw22.GridFinds', WHERE WHAT IT READS IS OF BULK AT MOST 1048576: true; the input reads as it did. -/
def gridFindsUptoRow : OpenClaim := { program := "ythbbkmkaopgmdaa", sum := "8df20a9494f5e1a8e30f684c02c22b808a341ddbe712c77dd93c1e9fdaa8d81f", func := "beagle/beaglelaw22.GridFinds", spec := "gridFinds", unfollowed := true, recurses := true, apart := false, narrowed := true }
def GridFindsUptoSaid : Prop := gridFindsUptoRow.holds Try.pinned (OpenSpec.upto gridFindsSpec)

/-- 'beaglelaw22.GridTurns', WHERE WHAT IT READS IS OF BULK AT MOST 1048576: true; the input reads as it did. -/
def gridTurnsUptoRow : OpenClaim := { program := "ythbbkmkaopgmdaa", sum := "8df20a9494f5e1a8e30f684c02c22b808a341ddbe712c77dd93c1e9fdaa8d81f", func := "beagle/beaglelaw22.GridTurns", spec := "gridTurns", unfollowed := true, recurses := true, apart := false, narrowed := true }
def GridTurnsUptoSaid : Prop := gridTurnsUptoRow.holds Try.pinned (OpenSpec.upto gridTurnsSpec)

/-- 'beaglelaw22.GridAll', WHERE WHAT IT READS IS OF BULK AT MOST 1048576: true; the input reads as it did. -/
def gridAllUptoRow : OpenClaim := { program := "ythbbkmkaopgmdaa", sum := "8df20a9494f5e1a8e30f684c02c22b808a341ddbe712c77dd93c1e9fdaa8d81f", func := "beagle/beaglelaw22.GridAll", spec := "gridAll", unfollowed := true, recurses := true, apart := false, narrowed := true }
def GridAllUptoSaid : Prop := gridAllUptoRow.holds Try.pinned (OpenSpec.upto gridAllSpec)

/-- 'beaglelaw22.GridSizes', WHERE WHAT IT READS IS OF BULK AT MOST 1048576: true; the input reads as it did. -/
def gridSizesUptoRow : OpenClaim := { program := "ythbbkmkaopgmdaa", sum := "8df20a9494f5e1a8e30f684c02c22b808a341ddbe712c77dd93c1e9fdaa8d81f", func := "beagle/beaglelaw22.GridSizes", spec := "gridSizes", unfollowed := true, recurses := true, apart := false, narrowed := true }
def GridSizesUptoSaid : Prop := gridSizesUptoRow.holds Try.pinned (OpenSpec.upto gridSizesSpec)

/-- 'beaglelaw22.GridBoth', WHERE WHAT IT READS IS OF BULK AT MOST 1048576: true; the input reads as it did. -/
def gridBothUptoRow : OpenClaim := { program := "ythbbkmkaopgmdaa", sum := "8df20a9494f5e1a8e30f684c02c22b808a341ddbe712c77dd93c1e9fdaa8d81f", func := "beagle/beaglelaw22.GridBoth", spec := "gridBoth", unfollowed := true, recurses := true, apart := false, narrowed := true }
def GridBothUptoSaid : Prop := gridBothUptoRow.holds Try.pinned (OpenSpec.upto gridBothSpec)

end Rows
end Go.Proofs.Ythbbkmkaopgmdaa
