/-
  No cell of these rows narrows 'for every input' (looked for: loops, veiled, ifaces, maps, wideKeys, modest, calm, conditions, laid).
  DERIVED. THE GIVEN ROWS OF THIS SEAT. 7 by the template 'for every input the law returns true; each argument reads behind the call as it read before'; 0 by the template 'total and deterministic' (their statements: YtkielaonclabbaaTotals.lean).
  GIVEN WITH THE SEED: the statements are not yours to turn. If you find one false, say at which input.
  Laid BY PROGRAM, IN A SANDBOX (cutbox-rows.mjs): the forced cells as the released guide's own fill.sh prints them over the translation a1bf993e5a6a1368… (all of the seat's roots in one cut). By AI agents, Wed Nov 11 2026. No macro, syntax, notation, axiom, sorry.
-/
import Derived.Test.YtkielaonclabbaaChecked
import GoSem.Claim
import GoSem.ClaimJoined
import GoSem.ClaimMapViews
import Derived.JoinedTies
import Derived.KernelRfl
namespace Go.Proofs.Ytkielaonclabbaa
/- THE CELL 'sum', in the pinned program and in every row, IS THE sha256 OF THE DUMP (.gsa) THAT YtkielaonclabbaaProg.lean LOADS. Nothing in Lean hashes anything: it is a label: what it is worth is what the hold of that sum in a sandbox is worth. -/
noncomputable def Try.pinned : Pinned := { name := "ytkielaonclabbaa", sum := "a1bf993e5a6a13687097a8073a034e3634b5f2ce273de66aa1c34868a80b019f", checked := Try.checked }
namespace Rows
def none {H : Type} : Left H := { results := [], args := [] }

/-- 'beaglelaw02.NttLogs': WHATEVER THE INPUT: true; the input reads as it did. -/
def nttLogsSpec : ChangeSpec := { name := "nttLogs", fn := fun _ => fun
  | [d] => { results := [.lit (.bool true)], args := [d] }
  | _ => none }
def nttLogsRow : OpenClaim := { program := "ytkielaonclabbaa", sum := "a1bf993e5a6a13687097a8073a034e3634b5f2ce273de66aa1c34868a80b019f", func := "beagle/beaglelaw02.NttLogs", spec := "nttLogs", apart := false }
def NttLogsSaid : Prop := nttLogsRow.holds Try.pinned (OpenSpec.ofChange nttLogsSpec)

/-- ITS FALSE NEIGHBOUR: 'it returns false'. Refute it at one input. -/
def nttLogsWrong : ChangeSpec := { name := "nttLogs", fn := fun _ => fun
  | [d] => { results := [.lit (.bool false)], args := [d] }
  | _ => none }
def NttLogsWrongFalsely : Prop := nttLogsRow.holds Try.pinned (OpenSpec.ofChange nttLogsWrong)

/-- 'beaglelaw02.NttForward': WHATEVER THE INPUT: true; the input reads as it did. -/
def nttForwardSpec : ChangeSpec := { name := "nttForward", fn := fun _ => fun
  | [d1, d2] => { results := [.lit (.bool true)], args := [d1, d2] }
  | _ => none }
def nttForwardRow : OpenClaim := { program := "ytkielaonclabbaa", sum := "a1bf993e5a6a13687097a8073a034e3634b5f2ce273de66aa1c34868a80b019f", func := "beagle/beaglelaw02.NttForward", spec := "nttForward", recurses := true, apart := false }
def NttForwardSaid : Prop := nttForwardRow.holds Try.pinned (OpenSpec.ofChange nttForwardSpec)

/-- ITS FALSE NEIGHBOUR: 'it returns false'. Refute it at one input. -/
def nttForwardWrong : ChangeSpec := { name := "nttForward", fn := fun _ => fun
  | [d1, d2] => { results := [.lit (.bool false)], args := [d1, d2] }
  | _ => none }
def NttForwardWrongFalsely : Prop := nttForwardRow.holds Try.pinned (OpenSpec.ofChange nttForwardWrong)

/-- 'beaglelaw02.NttInverse': WHATEVER THE INPUT: true; the input reads as it did. -/
def nttInverseSpec : ChangeSpec := { name := "nttInverse", fn := fun _ => fun
  | [d1, d2] => { results := [.lit (.bool true)], args := [d1, d2] }
  | _ => none }
def nttInverseRow : OpenClaim := { program := "ytkielaonclabbaa", sum := "a1bf993e5a6a13687097a8073a034e3634b5f2ce273de66aa1c34868a80b019f", func := "beagle/beaglelaw02.NttInverse", spec := "nttInverse", recurses := true, apart := false }
def NttInverseSaid : Prop := nttInverseRow.holds Try.pinned (OpenSpec.ofChange nttInverseSpec)

/-- ITS FALSE NEIGHBOUR: 'it returns false'. Refute it at one input. -/
def nttInverseWrong : ChangeSpec := { name := "nttInverse", fn := fun _ => fun
  | [d1, d2] => { results := [.lit (.bool false)], args := [d1, d2] }
  | _ => none }
def NttInverseWrongFalsely : Prop := nttInverseRow.holds Try.pinned (OpenSpec.ofChange nttInverseWrong)

/-- 'beaglelaw02.NttBack': WHATEVER THE INPUT: true; the input reads as it did. -/
def nttBackSpec : ChangeSpec := { name := "nttBack", fn := fun _ => fun
  | [d1, d2] => { results := [.lit (.bool true)], args := [d1, d2] }
  | _ => none }
def nttBackRow : OpenClaim := { program := "ytkielaonclabbaa", sum := "a1bf993e5a6a13687097a8073a034e3634b5f2ce273de66aa1c34868a80b019f", func := "beagle/beaglelaw02.NttBack", spec := "nttBack", apart := false }
def NttBackSaid : Prop := nttBackRow.holds Try.pinned (OpenSpec.ofChange nttBackSpec)

/-- ITS FALSE NEIGHBOUR: 'it returns false'. Refute it at one input. -/
def nttBackWrong : ChangeSpec := { name := "nttBack", fn := fun _ => fun
  | [d1, d2] => { results := [.lit (.bool false)], args := [d1, d2] }
  | _ => none }
def NttBackWrongFalsely : Prop := nttBackRow.holds Try.pinned (OpenSpec.ofChange nttBackWrong)

/-- 'beaglelaw02.NttCyclic': WHATEVER THE INPUT: true; the input reads as it did. -/
def nttCyclicSpec : ChangeSpec := { name := "nttCyclic", fn := fun _ => fun
  | [d1, d2, d3] => { results := [.lit (.bool true)], args := [d1, d2, d3] }
  | _ => none }
def nttCyclicRow : OpenClaim := { program := "ytkielaonclabbaa", sum := "a1bf993e5a6a13687097a8073a034e3634b5f2ce273de66aa1c34868a80b019f", func := "beagle/beaglelaw02.NttCyclic", spec := "nttCyclic", apart := false }
def NttCyclicSaid : Prop := nttCyclicRow.holds Try.pinned (OpenSpec.ofChange nttCyclicSpec)

/-- ITS FALSE NEIGHBOUR: 'it returns false'. Refute it at one input. -/
def nttCyclicWrong : ChangeSpec := { name := "nttCyclic", fn := fun _ => fun
  | [d1, d2, d3] => { results := [.lit (.bool false)], args := [d1, d2, d3] }
  | _ => none }
def NttCyclicWrongFalsely : Prop := nttCyclicRow.holds Try.pinned (OpenSpec.ofChange nttCyclicWrong)

/-- 'beaglelaw02.NttSums': WHATEVER THE INPUT: true; the input reads as it did. -/
def nttSumsSpec : ChangeSpec := { name := "nttSums", fn := fun _ => fun
  | [d1, d2, d3] => { results := [.lit (.bool true)], args := [d1, d2, d3] }
  | _ => none }
def nttSumsRow : OpenClaim := { program := "ytkielaonclabbaa", sum := "a1bf993e5a6a13687097a8073a034e3634b5f2ce273de66aa1c34868a80b019f", func := "beagle/beaglelaw02.NttSums", spec := "nttSums", apart := false }
def NttSumsSaid : Prop := nttSumsRow.holds Try.pinned (OpenSpec.ofChange nttSumsSpec)

/-- ITS FALSE NEIGHBOUR: 'it returns false'. Refute it at one input. -/
def nttSumsWrong : ChangeSpec := { name := "nttSums", fn := fun _ => fun
  | [d1, d2, d3] => { results := [.lit (.bool false)], args := [d1, d2, d3] }
  | _ => none }
def NttSumsWrongFalsely : Prop := nttSumsRow.holds Try.pinned (OpenSpec.ofChange nttSumsWrong)

/-- 'beaglelaw02.NttShifts': WHATEVER THE INPUT: true; the input reads as it did. -/
def nttShiftsSpec : ChangeSpec := { name := "nttShifts", fn := fun _ => fun
  | [d1, d2] => { results := [.lit (.bool true)], args := [d1, d2] }
  | _ => none }
def nttShiftsRow : OpenClaim := { program := "ytkielaonclabbaa", sum := "a1bf993e5a6a13687097a8073a034e3634b5f2ce273de66aa1c34868a80b019f", func := "beagle/beaglelaw02.NttShifts", spec := "nttShifts", recurses := true, apart := false }
def NttShiftsSaid : Prop := nttShiftsRow.holds Try.pinned (OpenSpec.ofChange nttShiftsSpec)

/-- ITS FALSE NEIGHBOUR: 'it returns false'. Refute it at one input. -/
def nttShiftsWrong : ChangeSpec := { name := "nttShifts", fn := fun _ => fun
  | [d1, d2] => { results := [.lit (.bool false)], args := [d1, d2] }
  | _ => none }
def NttShiftsWrongFalsely : Prop := nttShiftsRow.holds Try.pinned (OpenSpec.ofChange nttShiftsWrong)

/- THE SECOND FORM. 'bulk': how many values and letters a reading holds, each counted each time it is reached (what is shared counts as often as it is met; a slice's spare places count too). A statement '..UptoSaid' is the law's where the arguments, and the package variables that the reading takes, are together of bulk at most 1048576: NARROWER than '..Said'. Prove '..Said' where nothing that the law and all that it calls make is longer than what came in: it says more and counts as full. Else prove '..UptoSaid'. A law counts once. -/
mutual
def uptoBulk {H : Type} : DataW H → Nat
  | .lit (.string bytes) => bytes.length + 1
  | .lit _ => 1
  | .nil => 1
  | .ptr d => uptoBulk d + 1
  | .slice elems spare => uptoBulkAll elems + uptoBulkAll spare + 1
  | .agg parts => uptoBulkAll parts + 1
  | .iface _ d => uptoBulk d + 1
  | .map entries => uptoBulkEntries entries + 1
  | .held _ => 1
def uptoBulkAll {H : Type} : List (DataW H) → Nat
  | [] => 0
  | d :: r => uptoBulk d + uptoBulkAll r
def uptoBulkEntries {H : Type} : List (Lit × DataW H) → Nat
  | [] => 0
  | x :: r => uptoBulkEntry x + uptoBulkEntries r
def uptoBulkEntry {H : Type} : Lit × DataW H → Nat
  | (.string bytes, d) => bytes.length + uptoBulk d + 1
  | (_, d) => uptoBulk d + 1
 end
def uptoSmall : (H : Type) → List (DataW H) → Bool := fun _ ds => decide (uptoBulkAll ds ≤ 1048576)
def OpenSpec.upto (s : _root_.Go.ChangeSpec) : _root_.Go.OpenSpec := { _root_.Go.OpenSpec.ofChange s with cond := some uptoSmall }

/-- 'beaglelaw02.NttLogs', WHERE WHAT IT READS IS OF BULK AT MOST 1048576: true; the input reads as it did. -/
def nttLogsUptoRow : OpenClaim := { program := "ytkielaonclabbaa", sum := "a1bf993e5a6a13687097a8073a034e3634b5f2ce273de66aa1c34868a80b019f", func := "beagle/beaglelaw02.NttLogs", spec := "nttLogs", apart := false, narrowed := true }
def NttLogsUptoSaid : Prop := nttLogsUptoRow.holds Try.pinned (OpenSpec.upto nttLogsSpec)

/-- 'beaglelaw02.NttForward', WHERE WHAT IT READS IS OF BULK AT MOST 1048576: true; the input reads as it did. -/
def nttForwardUptoRow : OpenClaim := { program := "ytkielaonclabbaa", sum := "a1bf993e5a6a13687097a8073a034e3634b5f2ce273de66aa1c34868a80b019f", func := "beagle/beaglelaw02.NttForward", spec := "nttForward", recurses := true, apart := false, narrowed := true }
def NttForwardUptoSaid : Prop := nttForwardUptoRow.holds Try.pinned (OpenSpec.upto nttForwardSpec)

/-- 'beaglelaw02.NttInverse', WHERE WHAT IT READS IS OF BULK AT MOST 1048576: true; the input reads as it did. -/
def nttInverseUptoRow : OpenClaim := { program := "ytkielaonclabbaa", sum := "a1bf993e5a6a13687097a8073a034e3634b5f2ce273de66aa1c34868a80b019f", func := "beagle/beaglelaw02.NttInverse", spec := "nttInverse", recurses := true, apart := false, narrowed := true }
def NttInverseUptoSaid : Prop := nttInverseUptoRow.holds Try.pinned (OpenSpec.upto nttInverseSpec)

/-- 'beaglelaw02.NttBack', WHERE WHAT IT READS IS OF BULK AT MOST 1048576: true; the input reads as it did. -/
def nttBackUptoRow : OpenClaim := { program := "ytkielaonclabbaa", sum := "a1bf993e5a6a13687097a8073a034e3634b5f2ce273de66aa1c34868a80b019f", func := "beagle/beaglelaw02.NttBack", spec := "nttBack", apart := false, narrowed := true }
def NttBackUptoSaid : Prop := nttBackUptoRow.holds Try.pinned (OpenSpec.upto nttBackSpec)

/-- 'beaglelaw02.NttCyclic', WHERE WHAT IT READS IS OF BULK AT MOST 1048576: true; the input reads as it did. -/
def nttCyclicUptoRow : OpenClaim := { program := "ytkielaonclabbaa", sum := "a1bf993e5a6a13687097a8073a034e3634b5f2ce273de66aa1c34868a80b019f", func := "beagle/beaglelaw02.NttCyclic", spec := "nttCyclic", apart := false, narrowed := true }
def NttCyclicUptoSaid : Prop := nttCyclicUptoRow.holds Try.pinned (OpenSpec.upto nttCyclicSpec)

/-- 'beaglelaw02.NttSums', WHERE WHAT IT READS IS OF BULK AT MOST 1048576: true; the input reads as it did. -/
def nttSumsUptoRow : OpenClaim := { program := "ytkielaonclabbaa", sum := "a1bf993e5a6a13687097a8073a034e3634b5f2ce273de66aa1c34868a80b019f", func := "beagle/beaglelaw02.NttSums", spec := "nttSums", apart := false, narrowed := true }
def NttSumsUptoSaid : Prop := nttSumsUptoRow.holds Try.pinned (OpenSpec.upto nttSumsSpec)

/-- 'beaglelaw02.NttShifts', WHERE WHAT IT READS IS OF BULK AT MOST 1048576: true; the input reads as it did. -/
def nttShiftsUptoRow : OpenClaim := { program := "ytkielaonclabbaa", sum := "a1bf993e5a6a13687097a8073a034e3634b5f2ce273de66aa1c34868a80b019f", func := "beagle/beaglelaw02.NttShifts", spec := "nttShifts", recurses := true, apart := false, narrowed := true }
def NttShiftsUptoSaid : Prop := nttShiftsUptoRow.holds Try.pinned (OpenSpec.upto nttShiftsSpec)

end Rows
end Go.Proofs.Ytkielaonclabbaa
