/-
  No cell of these rows narrows 'for every input' (looked for: loops, veiled, ifaces, maps, wideKeys, modest, calm, conditions, laid).
  DERIVED. THE GIVEN ROWS OF THIS SEAT. 7 by the template 'for every input the law returns true; each argument reads behind the call as it read before'; 0 by the template 'total and deterministic' (their statements: YthjedgniedpkfaaTotals.lean).
  GIVEN WITH THE SEED: the statements are not yours to turn. If you find one false, say at which input.
  Laid BY PROGRAM, IN A SANDBOX (cutbox-rows.mjs): the forced cells as the released guide's own fill.sh prints them over the translation 5cfa28a38882206f… (all of the seat's roots in one cut). By AI agents, Wed Nov 11 2026. No macro, syntax, notation, axiom, sorry.
-/
import Derived.Test.YthjedgniedpkfaaChecked
import GoSem.Claim
import GoSem.ClaimJoined
import GoSem.ClaimMapViews
import Derived.JoinedTies
import Derived.KernelRfl
namespace Go.Proofs.Ythjedgniedpkfaa
/- THE CELL 'sum', in the pinned program and in every row, IS THE sha256 OF THE DUMP (.gsa) THAT YthjedgniedpkfaaProg.lean LOADS. Nothing in Lean hashes anything: it is a label: what it is worth is what the hold of that sum in a sandbox is worth. -/
noncomputable def Try.pinned : Pinned := { name := "ythjedgniedpkfaa", sum := "5cfa28a38882206f1e7a53281898e9ea1964f66038d379304cf93b65e464bbc0", checked := Try.checked }
namespace Rows
def none {H : Type} : Left H := { results := [], args := [] }

/-- 'beaglelaw05.BlockChecks': WHATEVER THE INPUT: true; the input reads as it did. -/
def blockChecksSpec : ChangeSpec := { name := "blockChecks", fn := fun _ => fun
  | [d1, d2, d3] => { results := [.lit (.bool true)], args := [d1, d2, d3] }
  | _ => none }
def blockChecksRow : OpenClaim := { program := "ythjedgniedpkfaa", sum := "5cfa28a38882206f1e7a53281898e9ea1964f66038d379304cf93b65e464bbc0", func := "beagle/beaglelaw05.BlockChecks", spec := "blockChecks", unfollowed := true, recurses := true, apart := false }
def BlockChecksSaid : Prop := blockChecksRow.holds Try.pinned (OpenSpec.ofChange blockChecksSpec)

/-- ITS FALSE NEIGHBOUR: 'it returns false'. Refute it at one input. -/
def blockChecksWrong : ChangeSpec := { name := "blockChecks", fn := fun _ => fun
  | [d1, d2, d3] => { results := [.lit (.bool false)], args := [d1, d2, d3] }
  | _ => none }
def BlockChecksWrongFalsely : Prop := blockChecksRow.holds Try.pinned (OpenSpec.ofChange blockChecksWrong)

/-- 'beaglelaw05.BlockCounts': WHATEVER THE INPUT: true; the input reads as it did. -/
def blockCountsSpec : ChangeSpec := { name := "blockCounts", fn := fun _ => fun
  | [d1, d2, d3] => { results := [.lit (.bool true)], args := [d1, d2, d3] }
  | _ => none }
def blockCountsRow : OpenClaim := { program := "ythjedgniedpkfaa", sum := "5cfa28a38882206f1e7a53281898e9ea1964f66038d379304cf93b65e464bbc0", func := "beagle/beaglelaw05.BlockCounts", spec := "blockCounts", unfollowed := true, recurses := true, apart := false }
def BlockCountsSaid : Prop := blockCountsRow.holds Try.pinned (OpenSpec.ofChange blockCountsSpec)

/-- ITS FALSE NEIGHBOUR: 'it returns false'. Refute it at one input. -/
def blockCountsWrong : ChangeSpec := { name := "blockCounts", fn := fun _ => fun
  | [d1, d2, d3] => { results := [.lit (.bool false)], args := [d1, d2, d3] }
  | _ => none }
def BlockCountsWrongFalsely : Prop := blockCountsRow.holds Try.pinned (OpenSpec.ofChange blockCountsWrong)

/-- 'beaglelaw05.BlockFits': WHATEVER THE INPUT: true; the input reads as it did. -/
def blockFitsSpec : ChangeSpec := { name := "blockFits", fn := fun _ => fun
  | [d1, d2] => { results := [.lit (.bool true)], args := [d1, d2] }
  | _ => none }
def blockFitsRow : OpenClaim := { program := "ythjedgniedpkfaa", sum := "5cfa28a38882206f1e7a53281898e9ea1964f66038d379304cf93b65e464bbc0", func := "beagle/beaglelaw05.BlockFits", spec := "blockFits", unfollowed := true, recurses := true, apart := false }
def BlockFitsSaid : Prop := blockFitsRow.holds Try.pinned (OpenSpec.ofChange blockFitsSpec)

/-- ITS FALSE NEIGHBOUR: 'it returns false'. Refute it at one input. -/
def blockFitsWrong : ChangeSpec := { name := "blockFits", fn := fun _ => fun
  | [d1, d2] => { results := [.lit (.bool false)], args := [d1, d2] }
  | _ => none }
def BlockFitsWrongFalsely : Prop := blockFitsRow.holds Try.pinned (OpenSpec.ofChange blockFitsWrong)

/-- 'beaglelaw05.BlockCorrelates': WHATEVER THE INPUT: true; the input reads as it did. -/
def blockCorrelatesSpec : ChangeSpec := { name := "blockCorrelates", fn := fun _ => fun
  | [d1, d2, d3] => { results := [.lit (.bool true)], args := [d1, d2, d3] }
  | _ => none }
def blockCorrelatesRow : OpenClaim := { program := "ythjedgniedpkfaa", sum := "5cfa28a38882206f1e7a53281898e9ea1964f66038d379304cf93b65e464bbc0", func := "beagle/beaglelaw05.BlockCorrelates", spec := "blockCorrelates", unfollowed := true, recurses := true, apart := false }
def BlockCorrelatesSaid : Prop := blockCorrelatesRow.holds Try.pinned (OpenSpec.ofChange blockCorrelatesSpec)

/-- ITS FALSE NEIGHBOUR: 'it returns false'. Refute it at one input. -/
def blockCorrelatesWrong : ChangeSpec := { name := "blockCorrelates", fn := fun _ => fun
  | [d1, d2, d3] => { results := [.lit (.bool false)], args := [d1, d2, d3] }
  | _ => none }
def BlockCorrelatesWrongFalsely : Prop := blockCorrelatesRow.holds Try.pinned (OpenSpec.ofChange blockCorrelatesWrong)

/-- 'beaglelaw05.BlockSizes': WHATEVER THE INPUT: true; the input reads as it did. -/
def blockSizesSpec : ChangeSpec := { name := "blockSizes", fn := fun _ => fun
  | [d1, d2, d3] => { results := [.lit (.bool true)], args := [d1, d2, d3] }
  | _ => none }
def blockSizesRow : OpenClaim := { program := "ythjedgniedpkfaa", sum := "5cfa28a38882206f1e7a53281898e9ea1964f66038d379304cf93b65e464bbc0", func := "beagle/beaglelaw05.BlockSizes", spec := "blockSizes", unfollowed := true, recurses := true, apart := false }
def BlockSizesSaid : Prop := blockSizesRow.holds Try.pinned (OpenSpec.ofChange blockSizesSpec)

/-- ITS FALSE NEIGHBOUR: 'it returns false'. Refute it at one input. -/
def blockSizesWrong : ChangeSpec := { name := "blockSizes", fn := fun _ => fun
  | [d1, d2, d3] => { results := [.lit (.bool false)], args := [d1, d2, d3] }
  | _ => none }
def BlockSizesWrongFalsely : Prop := blockSizesRow.holds Try.pinned (OpenSpec.ofChange blockSizesWrong)

/-- 'beaglelaw05.BlockMore': WHATEVER THE INPUT: true; the input reads as it did. -/
def blockMoreSpec : ChangeSpec := { name := "blockMore", fn := fun _ => fun
  | [d1, d2, d3] => { results := [.lit (.bool true)], args := [d1, d2, d3] }
  | _ => none }
def blockMoreRow : OpenClaim := { program := "ythjedgniedpkfaa", sum := "5cfa28a38882206f1e7a53281898e9ea1964f66038d379304cf93b65e464bbc0", func := "beagle/beaglelaw05.BlockMore", spec := "blockMore", unfollowed := true, recurses := true, apart := false }
def BlockMoreSaid : Prop := blockMoreRow.holds Try.pinned (OpenSpec.ofChange blockMoreSpec)

/-- ITS FALSE NEIGHBOUR: 'it returns false'. Refute it at one input. -/
def blockMoreWrong : ChangeSpec := { name := "blockMore", fn := fun _ => fun
  | [d1, d2, d3] => { results := [.lit (.bool false)], args := [d1, d2, d3] }
  | _ => none }
def BlockMoreWrongFalsely : Prop := blockMoreRow.holds Try.pinned (OpenSpec.ofChange blockMoreWrong)

/-- 'beaglelaw05.BlockConv': WHATEVER THE INPUT: true; the input reads as it did. -/
def blockConvSpec : ChangeSpec := { name := "blockConv", fn := fun _ => fun
  | [d1, d2, d3] => { results := [.lit (.bool true)], args := [d1, d2, d3] }
  | _ => none }
def blockConvRow : OpenClaim := { program := "ythjedgniedpkfaa", sum := "5cfa28a38882206f1e7a53281898e9ea1964f66038d379304cf93b65e464bbc0", func := "beagle/beaglelaw05.BlockConv", spec := "blockConv", unfollowed := true, recurses := true, apart := false }
def BlockConvSaid : Prop := blockConvRow.holds Try.pinned (OpenSpec.ofChange blockConvSpec)

/-- ITS FALSE NEIGHBOUR: 'it returns false'. Refute it at one input. -/
def blockConvWrong : ChangeSpec := { name := "blockConv", fn := fun _ => fun
  | [d1, d2, d3] => { results := [.lit (.bool false)], args := [d1, d2, d3] }
  | _ => none }
def BlockConvWrongFalsely : Prop := blockConvRow.holds Try.pinned (OpenSpec.ofChange blockConvWrong)

/- THE SECOND FORM. 'bulk': how many values and letters a reading holds, each counted each time it is reached (what is shared counts as often as it is met; a slice's spare places count too). A statement '..UptoSaid' is the law's where the arguments, and the package variables that the reading takes, are together of bulk at most 1048576: NARROWER than '..Said'. Prove '..Said' where nothing that the law and all that it calls make is longer than what came in: it says more and counts as full. Else prove '..UptoSaid'. A law counts once. -/
mutual
def uptoBulk {H : Type} : DataW H → Nat
  | .lit (.string bytes) => bytes.length + 1
  | .lit _ => 1
  | .nil => 1
  | .ptr d => uptoBulk d + 1
  | .slice elems spare => uptoBulkAll elems + uptoBulkAll spare + 1
  | .agg parts => uptoBulkAll parts + 1
  | .iface _ d => uptoBulk d + 1
  | .map entries => uptoBulkEntries entries + 1
  | .held _ => 1
def uptoBulkAll {H : Type} : List (DataW H) → Nat
  | [] => 0
  | d :: r => uptoBulk d + uptoBulkAll r
def uptoBulkEntries {H : Type} : List (Lit × DataW H) → Nat
  | [] => 0
  | x :: r => uptoBulkEntry x + uptoBulkEntries r
def uptoBulkEntry {H : Type} : Lit × DataW H → Nat
  | (.string bytes, d) => bytes.length + uptoBulk d + 1
  | (_, d) => uptoBulk d + 1
 end
def uptoSmall : (H : Type) → List (DataW H) → Bool := fun _ ds => decide (uptoBulkAll ds ≤ 1048576)
def OpenSpec.upto (s : _root_.Go.ChangeSpec) : _root_.Go.OpenSpec := { _root_.Go.OpenSpec.ofChange s with cond := some uptoSmall }

/-- 'beaglelaw05.BlockChecks', WHERE WHAT IT READS IS OF BULK AT MOST 1048576: true; the input reads as it did. -/
def blockChecksUptoRow : OpenClaim := { program := "ythjedgniedpkfaa", sum := "5cfa28a38882206f1e7a53281898e9ea1964f66038d379304cf93b65e464bbc0", func := "beagle/beaglelaw05.BlockChecks", spec := "blockChecks", unfollowed := true, recurses := true, apart := false, narrowed := true }
def BlockChecksUptoSaid : Prop := blockChecksUptoRow.holds Try.pinned (OpenSpec.upto blockChecksSpec)

/-- 'beaglelaw05.BlockCounts', WHERE WHAT IT READS IS OF BULK AT MOST 1048576: true; the input reads as it did. -/
def blockCountsUptoRow : OpenClaim := { program := "ythjedgniedpkfaa", sum := "5cfa28a38882206f1e7a53281898e9ea1964f66038d379304cf93b65e464bbc0", func := "beagle/beaglelaw05.BlockCounts", spec := "blockCounts", unfollowed := true, recurses := true, apart := false, narrowed := true }
def BlockCountsUptoSaid : Prop := blockCountsUptoRow.holds Try.pinned (OpenSpec.upto blockCountsSpec)

/-- 'beaglelaw05.BlockFits', WHERE WHAT IT READS IS OF BULK AT MOST 1048576: true; the input reads as it did. -/
def blockFitsUptoRow : OpenClaim := { program := "ythjedgniedpkfaa", sum := "5cfa28a38882206f1e7a53281898e9ea1964f66038d379304cf93b65e464bbc0", func := "beagle/beaglelaw05.BlockFits", spec := "blockFits", unfollowed := true, recurses := true, apart := false, narrowed := true }
def BlockFitsUptoSaid : Prop := blockFitsUptoRow.holds Try.pinned (OpenSpec.upto blockFitsSpec)

/-- 'beaglelaw05.BlockCorrelates', WHERE WHAT IT READS IS OF BULK AT MOST 1048576: true; the input reads as it did. -/
def blockCorrelatesUptoRow : OpenClaim := { program := "ythjedgniedpkfaa", sum := "5cfa28a38882206f1e7a53281898e9ea1964f66038d379304cf93b65e464bbc0", func := "beagle/beaglelaw05.BlockCorrelates", spec := "blockCorrelates", unfollowed := true, recurses := true, apart := false, narrowed := true }
def BlockCorrelatesUptoSaid : Prop := blockCorrelatesUptoRow.holds Try.pinned (OpenSpec.upto blockCorrelatesSpec)

/-- 'beaglelaw05.BlockSizes', WHERE WHAT IT READS IS OF BULK AT MOST 1048576: true; the input reads as it did. -/
def blockSizesUptoRow : OpenClaim := { program := "ythjedgniedpkfaa", sum := "5cfa28a38882206f1e7a53281898e9ea1964f66038d379304cf93b65e464bbc0", func := "beagle/beaglelaw05.BlockSizes", spec := "blockSizes", unfollowed := true, recurses := true, apart := false, narrowed := true }
def BlockSizesUptoSaid : Prop := blockSizesUptoRow.holds Try.pinned (OpenSpec.upto blockSizesSpec)

/-- 'beaglelaw05.BlockMore', WHERE WHAT IT READS IS OF BULK AT MOST 1048576: true; the input reads as it did. -/
def blockMoreUptoRow : OpenClaim := { program := "ythjedgniedpkfaa", sum := "5cfa28a38882206f1e7a53281898e9ea1964f66038d379304cf93b65e464bbc0", func := "beagle/beaglelaw05.BlockMore", spec := "blockMore", unfollowed := true, recurses := true, apart := false, narrowed := true }
def BlockMoreUptoSaid : Prop := blockMoreUptoRow.holds Try.pinned (OpenSpec.upto blockMoreSpec)

/-- 'beaglelaw05.BlockConv', WHERE WHAT IT READS IS OF BULK AT MOST 1048576: true; the input reads as it did. -/
def blockConvUptoRow : OpenClaim := { program := "ythjedgniedpkfaa", sum := "5cfa28a38882206f1e7a53281898e9ea1964f66038d379304cf93b65e464bbc0", func := "beagle/beaglelaw05.BlockConv", spec := "blockConv", unfollowed := true, recurses := true, apart := false, narrowed := true }
def BlockConvUptoSaid : Prop := blockConvUptoRow.holds Try.pinned (OpenSpec.upto blockConvSpec)

end Rows
end Go.Proofs.Ythjedgniedpkfaa
