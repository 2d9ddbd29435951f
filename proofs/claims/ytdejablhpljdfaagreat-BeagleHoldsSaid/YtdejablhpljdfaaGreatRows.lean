/-
  No cell of these rows narrows 'for every input' (looked for: loops, veiled, ifaces, maps, wideKeys, modest, calm, conditions, laid).
  DERIVED. THE GIVEN ROWS OF THIS SEAT. 3 by the template 'for every input the law returns true; each argument reads behind the call as it read before'; 0 by the template 'total and deterministic' (their statements: YtdejablhpljdfaaGreatTotals.lean).
  GIVEN WITH THE SEED: the statements are not yours to turn. If you find one false, say at which input.
  Laid BY PROGRAM, IN A SANDBOX (cutbox-rows.mjs): the forced cells as the released guide's own fill.sh prints them over the translation d0981c8110b59c33… (all of the seat's roots in one cut). By AI agents, Wed Nov 11 2026. No macro, syntax, notation, axiom, sorry.
-/
import Derived.Test.YtdejablhpljdfaaGreatChecked
import GoSem.Claim
import GoSem.ClaimJoined
import GoSem.ClaimMapViews
import Derived.JoinedTies
import Derived.KernelRfl
namespace Go.Proofs.YtdejablhpljdfaaGreat
/- THE CELL 'sum', in the pinned program and in every row, IS THE sha256 OF THE DUMP (.gsa) THAT YtdejablhpljdfaaGreatProg.lean LOADS. Nothing in Lean hashes anything: it is a label: what it is worth is what the hold of that sum in a sandbox is worth. -/
noncomputable def Tryz.pinned : Pinned := { name := "ytdejablhpljdfaagreat", sum := "d0981c8110b59c33f1eb2556de87be32d9b2dab790fb1028a3e95284fd86fd80", checked := Tryz.checked }
namespace Rows
def none {H : Type} : Left H := { results := [], args := [] }

/-- 'beagletop.BeagleExact': WHATEVER THE INPUT: true; the input reads as it did. -/
def beagleExactSpec : ChangeSpec := { name := "beagleExact", fn := fun _ => fun
  | [d1, d2, d3] => { results := [.lit (.bool true)], args := [d1, d2, d3] }
  | _ => none }
def beagleExactRow : OpenClaim := { program := "ytdejablhpljdfaagreat", sum := "d0981c8110b59c33f1eb2556de87be32d9b2dab790fb1028a3e95284fd86fd80", func := "beagle/beagletop.BeagleExact", spec := "beagleExact", inPlace := ["internal/bytealg.IndexByteString"], unfollowed := true, recurses := true, plainKeys := false, apart := false }
def BeagleExactSaid : Prop := beagleExactRow.holds Tryz.pinned (OpenSpec.ofChange beagleExactSpec)

/-- ITS FALSE NEIGHBOUR: 'it returns false'. Refute it at one input. -/
def beagleExactWrong : ChangeSpec := { name := "beagleExact", fn := fun _ => fun
  | [d1, d2, d3] => { results := [.lit (.bool false)], args := [d1, d2, d3] }
  | _ => none }
def BeagleExactWrongFalsely : Prop := beagleExactRow.holds Tryz.pinned (OpenSpec.ofChange beagleExactWrong)

/-- 'beagletop.BeagleHolds': WHATEVER THE INPUT: true; the input reads as it did. -/
def beagleHoldsSpec : ChangeSpec := { name := "beagleHolds", fn := fun _ => fun
  | [d1, d2] => { results := [.lit (.bool true)], args := [d1, d2] }
  | _ => none }
def beagleHoldsRow : OpenClaim := { program := "ytdejablhpljdfaagreat", sum := "d0981c8110b59c33f1eb2556de87be32d9b2dab790fb1028a3e95284fd86fd80", func := "beagle/beagletop.BeagleHolds", spec := "beagleHolds", inPlace := ["internal/bytealg.IndexByteString"], unfollowed := true, recurses := true, plainKeys := false, apart := false }
def BeagleHoldsSaid : Prop := beagleHoldsRow.holds Tryz.pinned (OpenSpec.ofChange beagleHoldsSpec)

/-- ITS FALSE NEIGHBOUR: 'it returns false'. Refute it at one input. -/
def beagleHoldsWrong : ChangeSpec := { name := "beagleHolds", fn := fun _ => fun
  | [d1, d2] => { results := [.lit (.bool false)], args := [d1, d2] }
  | _ => none }
def BeagleHoldsWrongFalsely : Prop := beagleHoldsRow.holds Tryz.pinned (OpenSpec.ofChange beagleHoldsWrong)

/-- 'beagletop.BeagleCounts': WHATEVER THE INPUT: true; the input reads as it did. -/
def beagleCountsSpec : ChangeSpec := { name := "beagleCounts", fn := fun _ => fun
  | [d1, d2, d3] => { results := [.lit (.bool true)], args := [d1, d2, d3] }
  | _ => none }
def beagleCountsRow : OpenClaim := { program := "ytdejablhpljdfaagreat", sum := "d0981c8110b59c33f1eb2556de87be32d9b2dab790fb1028a3e95284fd86fd80", func := "beagle/beagletop.BeagleCounts", spec := "beagleCounts", inPlace := ["internal/bytealg.IndexByteString"], unfollowed := true, recurses := true, plainKeys := false, apart := false }
def BeagleCountsSaid : Prop := beagleCountsRow.holds Tryz.pinned (OpenSpec.ofChange beagleCountsSpec)

/-- ITS FALSE NEIGHBOUR: 'it returns false'. Refute it at one input. -/
def beagleCountsWrong : ChangeSpec := { name := "beagleCounts", fn := fun _ => fun
  | [d1, d2, d3] => { results := [.lit (.bool false)], args := [d1, d2, d3] }
  | _ => none }
def BeagleCountsWrongFalsely : Prop := beagleCountsRow.holds Tryz.pinned (OpenSpec.ofChange beagleCountsWrong)

/- THE SECOND FORM. 'bulk': how many values and letters a reading holds, each counted each time it is reached (what is shared counts as often as it is met; a slice's spare places count too). A statement '..UptoSaid' is the law's where the arguments, and the package variables that the reading takes, are together of bulk at most 1048576: NARROWER than '..Said'. Prove '..Said' where nothing that the law and all that it calls make is longer than what came in: it says more and counts as full. Else prove '..UptoSaid'. A law counts once. -/
mutual
def uptoBulk {H : Type} : DataW H → Nat
  | .lit (.string bytes) => bytes.length + 1
  | .lit _ => 1
  | .nil => 1
  | .ptr d => uptoBulk d + 1
  | .slice elems spare => uptoBulkAll elems + uptoBulkAll spare + 1
  | .agg parts => uptoBulkAll parts + 1
  | .iface _ d => uptoBulk d + 1
  | .map entries => uptoBulkEntries entries + 1
  | .held _ => 1
def uptoBulkAll {H : Type} : List (DataW H) → Nat
  | [] => 0
  | d :: r => uptoBulk d + uptoBulkAll r
def uptoBulkEntries {H : Type} : List (Lit × DataW H) → Nat
  | [] => 0
  | x :: r => uptoBulkEntry x + uptoBulkEntries r
def uptoBulkEntry {H : Type} : Lit × DataW H → Nat
  | (.string bytes, d) => bytes.length + uptoBulk d + 1
  | (_, d) => uptoBulk d + 1
 end
def uptoSmall : (H : Type) → List (DataW H) → Bool := fun _ ds => decide (uptoBulkAll ds ≤ 1048576)
def OpenSpec.upto (s : _root_.Go.ChangeSpec) : _root_.Go.OpenSpec := { _root_.Go.OpenSpec.ofChange s with cond := some uptoSmall }

/-- 'beagletop.BeagleExact', WHERE WHAT IT READS IS OF BULK AT MOST 1048576: true; the input reads as it did. -/
def beagleExactUptoRow : OpenClaim := { program := "ytdejablhpljdfaagreat", sum := "d0981c8110b59c33f1eb2556de87be32d9b2dab790fb1028a3e95284fd86fd80", func := "beagle/beagletop.BeagleExact", spec := "beagleExact", inPlace := ["internal/bytealg.IndexByteString"], unfollowed := true, recurses := true, plainKeys := false, apart := false, narrowed := true }
def BeagleExactUptoSaid : Prop := beagleExactUptoRow.holds Tryz.pinned (OpenSpec.upto beagleExactSpec)

/-- 'beagletop.BeagleHolds', WHERE WHAT IT READS IS OF BULK AT MOST 1048576: true; the input reads as it did. -/
def beagleHoldsUptoRow : OpenClaim := { program := "ytdejablhpljdfaagreat", sum := "d0981c8110b59c33f1eb2556de87be32d9b2dab790fb1028a3e95284fd86fd80", func := "beagle/beagletop.BeagleHolds", spec := "beagleHolds", inPlace := ["internal/bytealg.IndexByteString"], unfollowed := true, recurses := true, plainKeys := false, apart := false, narrowed := true }
def BeagleHoldsUptoSaid : Prop := beagleHoldsUptoRow.holds Tryz.pinned (OpenSpec.upto beagleHoldsSpec)

/-- 'beagletop.BeagleCounts', WHERE WHAT IT READS IS OF BULK AT MOST 1048576: true; the input reads as it did. -/
def beagleCountsUptoRow : OpenClaim := { program := "ytdejablhpljdfaagreat", sum := "d0981c8110b59c33f1eb2556de87be32d9b2dab790fb1028a3e95284fd86fd80", func := "beagle/beagletop.BeagleCounts", spec := "beagleCounts", inPlace := ["internal/bytealg.IndexByteString"], unfollowed := true, recurses := true, plainKeys := false, apart := false, narrowed := true }
def BeagleCountsUptoSaid : Prop := beagleCountsUptoRow.holds Tryz.pinned (OpenSpec.upto beagleCountsSpec)

end Rows
end Go.Proofs.YtdejablhpljdfaaGreat
