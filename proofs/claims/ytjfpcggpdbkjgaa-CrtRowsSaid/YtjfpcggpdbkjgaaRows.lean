/-
  No cell of these rows narrows 'for every input' (looked for: loops, veiled, ifaces, maps, wideKeys, modest, calm, conditions, laid).
  DERIVED. THE GIVEN ROWS OF THIS SEAT. 12 by the template 'for every input the law returns true; each argument reads behind the call as it read before'; 0 by the template 'total and deterministic' (their statements: YtjfpcggpdbkjgaaTotals.lean).
  GIVEN WITH THE SEED: the statements are not yours to turn. If you find one false, say at which input.
  Laid BY PROGRAM, IN A SANDBOX (cutbox-rows.mjs): the forced cells as the released guide's own fill.sh prints them over the translation 477fc7e81e0fa9f3… (all of the seat's roots in one cut). By AI agents, Wed Nov 11 2026. No macro, syntax, notation, axiom, sorry.
-/
import Derived.Test.YtjfpcggpdbkjgaaChecked
import GoSem.Claim
import GoSem.ClaimJoined
import GoSem.ClaimMapViews
import Derived.JoinedTies
import Derived.KernelRfl
namespace Go.Proofs.Ytjfpcggpdbkjgaa
/- THE CELL 'sum', in the pinned program and in every row, IS THE sha256 OF THE DUMP (.gsa) THAT YtjfpcggpdbkjgaaProg.lean LOADS. Nothing in Lean hashes anything: it is a label: what it is worth is what the hold of that sum in a sandbox is worth. -/
noncomputable def Try.pinned : Pinned := { name := "ytjfpcggpdbkjgaa", sum := "477fc7e81e0fa9f3138be84e5eb84af878caba96aada4769ad975fa60cb9090f", checked := Try.checked }
namespace Rows
def none {H : Type} : Left H := { results := [], args := [] }

/-- 'beaglelaw01.ResidueAll': WHATEVER THE INPUT: true; the input reads as it did. -/
def residueAllSpec : ChangeSpec := { name := "residueAll", fn := fun _ => fun
  | [d1, d2, d3] => { results := [.lit (.bool true)], args := [d1, d2, d3] }
  | _ => none }
def residueAllRow : OpenClaim := { program := "ytjfpcggpdbkjgaa", sum := "477fc7e81e0fa9f3138be84e5eb84af878caba96aada4769ad975fa60cb9090f", func := "beagle/beaglelaw01.ResidueAll", spec := "residueAll", apart := false }
def ResidueAllSaid : Prop := residueAllRow.holds Try.pinned (OpenSpec.ofChange residueAllSpec)

/-- ITS FALSE NEIGHBOUR: 'it returns false'. Refute it at one input. -/
def residueAllWrong : ChangeSpec := { name := "residueAll", fn := fun _ => fun
  | [d1, d2, d3] => { results := [.lit (.bool false)], args := [d1, d2, d3] }
  | _ => none }
def ResidueAllWrongFalsely : Prop := residueAllRow.holds Try.pinned (OpenSpec.ofChange residueAllWrong)

/-- 'beaglelaw01.ResiduePowers': WHATEVER THE INPUT: true; the input reads as it did. -/
def residuePowersSpec : ChangeSpec := { name := "residuePowers", fn := fun _ => fun
  | [d1, d2, d3] => { results := [.lit (.bool true)], args := [d1, d2, d3] }
  | _ => none }
def residuePowersRow : OpenClaim := { program := "ytjfpcggpdbkjgaa", sum := "477fc7e81e0fa9f3138be84e5eb84af878caba96aada4769ad975fa60cb9090f", func := "beagle/beaglelaw01.ResiduePowers", spec := "residuePowers", recurses := true, apart := false }
def ResiduePowersSaid : Prop := residuePowersRow.holds Try.pinned (OpenSpec.ofChange residuePowersSpec)

/-- ITS FALSE NEIGHBOUR: 'it returns false'. Refute it at one input. -/
def residuePowersWrong : ChangeSpec := { name := "residuePowers", fn := fun _ => fun
  | [d1, d2, d3] => { results := [.lit (.bool false)], args := [d1, d2, d3] }
  | _ => none }
def ResiduePowersWrongFalsely : Prop := residuePowersRow.holds Try.pinned (OpenSpec.ofChange residuePowersWrong)

/-- 'beaglelaw01.ResidueInverses': WHATEVER THE INPUT: true; the input reads as it did. -/
def residueInversesSpec : ChangeSpec := { name := "residueInverses", fn := fun _ => fun
  | [d1, d2] => { results := [.lit (.bool true)], args := [d1, d2] }
  | _ => none }
def residueInversesRow : OpenClaim := { program := "ytjfpcggpdbkjgaa", sum := "477fc7e81e0fa9f3138be84e5eb84af878caba96aada4769ad975fa60cb9090f", func := "beagle/beaglelaw01.ResidueInverses", spec := "residueInverses", apart := false }
def ResidueInversesSaid : Prop := residueInversesRow.holds Try.pinned (OpenSpec.ofChange residueInversesSpec)

/-- ITS FALSE NEIGHBOUR: 'it returns false'. Refute it at one input. -/
def residueInversesWrong : ChangeSpec := { name := "residueInverses", fn := fun _ => fun
  | [d1, d2] => { results := [.lit (.bool false)], args := [d1, d2] }
  | _ => none }
def ResidueInversesWrongFalsely : Prop := residueInversesRow.holds Try.pinned (OpenSpec.ofChange residueInversesWrong)

/-- 'beaglelaw01.ResidueRoots': WHATEVER THE INPUT: true; the input reads as it did. -/
def residueRootsSpec : ChangeSpec := { name := "residueRoots", fn := fun _ => fun
  | [d1, d2] => { results := [.lit (.bool true)], args := [d1, d2] }
  | _ => none }
def residueRootsRow : OpenClaim := { program := "ytjfpcggpdbkjgaa", sum := "477fc7e81e0fa9f3138be84e5eb84af878caba96aada4769ad975fa60cb9090f", func := "beagle/beaglelaw01.ResidueRoots", spec := "residueRoots", recurses := true, apart := false }
def ResidueRootsSaid : Prop := residueRootsRow.holds Try.pinned (OpenSpec.ofChange residueRootsSpec)

/-- ITS FALSE NEIGHBOUR: 'it returns false'. Refute it at one input. -/
def residueRootsWrong : ChangeSpec := { name := "residueRoots", fn := fun _ => fun
  | [d1, d2] => { results := [.lit (.bool false)], args := [d1, d2] }
  | _ => none }
def ResidueRootsWrongFalsely : Prop := residueRootsRow.holds Try.pinned (OpenSpec.ofChange residueRootsWrong)

/-- 'beaglelaw01.ResidueOrders': WHATEVER THE INPUT: true; the input reads as it did. -/
def residueOrdersSpec : ChangeSpec := { name := "residueOrders", fn := fun _ => fun
  | [d1, d2] => { results := [.lit (.bool true)], args := [d1, d2] }
  | _ => none }
def residueOrdersRow : OpenClaim := { program := "ytjfpcggpdbkjgaa", sum := "477fc7e81e0fa9f3138be84e5eb84af878caba96aada4769ad975fa60cb9090f", func := "beagle/beaglelaw01.ResidueOrders", spec := "residueOrders", unfollowed := true, recurses := true, apart := false }
def ResidueOrdersSaid : Prop := residueOrdersRow.holds Try.pinned (OpenSpec.ofChange residueOrdersSpec)

/-- ITS FALSE NEIGHBOUR: 'it returns false'. Refute it at one input. -/
def residueOrdersWrong : ChangeSpec := { name := "residueOrders", fn := fun _ => fun
  | [d1, d2] => { results := [.lit (.bool false)], args := [d1, d2] }
  | _ => none }
def ResidueOrdersWrongFalsely : Prop := residueOrdersRow.holds Try.pinned (OpenSpec.ofChange residueOrdersWrong)

/-- 'beaglelaw01.ResidueFermat': WHATEVER THE INPUT: true; the input reads as it did. -/
def residueFermatSpec : ChangeSpec := { name := "residueFermat", fn := fun _ => fun
  | [d1, d2] => { results := [.lit (.bool true)], args := [d1, d2] }
  | _ => none }
def residueFermatRow : OpenClaim := { program := "ytjfpcggpdbkjgaa", sum := "477fc7e81e0fa9f3138be84e5eb84af878caba96aada4769ad975fa60cb9090f", func := "beagle/beaglelaw01.ResidueFermat", spec := "residueFermat", apart := false }
def ResidueFermatSaid : Prop := residueFermatRow.holds Try.pinned (OpenSpec.ofChange residueFermatSpec)

/-- ITS FALSE NEIGHBOUR: 'it returns false'. Refute it at one input. -/
def residueFermatWrong : ChangeSpec := { name := "residueFermat", fn := fun _ => fun
  | [d1, d2] => { results := [.lit (.bool false)], args := [d1, d2] }
  | _ => none }
def ResidueFermatWrongFalsely : Prop := residueFermatRow.holds Try.pinned (OpenSpec.ofChange residueFermatWrong)

/-- 'beaglelaw03.CrtJoins': WHATEVER THE INPUT: true; the input reads as it did. -/
def crtJoinsSpec : ChangeSpec := { name := "crtJoins", fn := fun _ => fun
  | [d] => { results := [.lit (.bool true)], args := [d] }
  | _ => none }
def crtJoinsRow : OpenClaim := { program := "ytjfpcggpdbkjgaa", sum := "477fc7e81e0fa9f3138be84e5eb84af878caba96aada4769ad975fa60cb9090f", func := "beagle/beaglelaw03.CrtJoins", spec := "crtJoins", apart := false }
def CrtJoinsSaid : Prop := crtJoinsRow.holds Try.pinned (OpenSpec.ofChange crtJoinsSpec)

/-- ITS FALSE NEIGHBOUR: 'it returns false'. Refute it at one input. -/
def crtJoinsWrong : ChangeSpec := { name := "crtJoins", fn := fun _ => fun
  | [d] => { results := [.lit (.bool false)], args := [d] }
  | _ => none }
def CrtJoinsWrongFalsely : Prop := crtJoinsRow.holds Try.pinned (OpenSpec.ofChange crtJoinsWrong)

/-- 'beaglelaw03.CrtBack': WHATEVER THE INPUT: true; the input reads as it did. -/
def crtBackSpec : ChangeSpec := { name := "crtBack", fn := fun _ => fun
  | [d1, d2] => { results := [.lit (.bool true)], args := [d1, d2] }
  | _ => none }
def crtBackRow : OpenClaim := { program := "ytjfpcggpdbkjgaa", sum := "477fc7e81e0fa9f3138be84e5eb84af878caba96aada4769ad975fa60cb9090f", func := "beagle/beaglelaw03.CrtBack", spec := "crtBack", apart := false }
def CrtBackSaid : Prop := crtBackRow.holds Try.pinned (OpenSpec.ofChange crtBackSpec)

/-- ITS FALSE NEIGHBOUR: 'it returns false'. Refute it at one input. -/
def crtBackWrong : ChangeSpec := { name := "crtBack", fn := fun _ => fun
  | [d1, d2] => { results := [.lit (.bool false)], args := [d1, d2] }
  | _ => none }
def CrtBackWrongFalsely : Prop := crtBackRow.holds Try.pinned (OpenSpec.ofChange crtBackWrong)

/-- 'beaglelaw03.CrtApart': WHATEVER THE INPUT: true; the input reads as it did. -/
def crtApartSpec : ChangeSpec := { name := "crtApart", fn := fun _ => fun
  | [d1, d2] => { results := [.lit (.bool true)], args := [d1, d2] }
  | _ => none }
def crtApartRow : OpenClaim := { program := "ytjfpcggpdbkjgaa", sum := "477fc7e81e0fa9f3138be84e5eb84af878caba96aada4769ad975fa60cb9090f", func := "beagle/beaglelaw03.CrtApart", spec := "crtApart", apart := false }
def CrtApartSaid : Prop := crtApartRow.holds Try.pinned (OpenSpec.ofChange crtApartSpec)

/-- ITS FALSE NEIGHBOUR: 'it returns false'. Refute it at one input. -/
def crtApartWrong : ChangeSpec := { name := "crtApart", fn := fun _ => fun
  | [d1, d2] => { results := [.lit (.bool false)], args := [d1, d2] }
  | _ => none }
def CrtApartWrongFalsely : Prop := crtApartRow.holds Try.pinned (OpenSpec.ofChange crtApartWrong)

/-- 'beaglelaw03.CrtSums': WHATEVER THE INPUT: true; the input reads as it did. -/
def crtSumsSpec : ChangeSpec := { name := "crtSums", fn := fun _ => fun
  | [d1, d2] => { results := [.lit (.bool true)], args := [d1, d2] }
  | _ => none }
def crtSumsRow : OpenClaim := { program := "ytjfpcggpdbkjgaa", sum := "477fc7e81e0fa9f3138be84e5eb84af878caba96aada4769ad975fa60cb9090f", func := "beagle/beaglelaw03.CrtSums", spec := "crtSums", apart := false }
def CrtSumsSaid : Prop := crtSumsRow.holds Try.pinned (OpenSpec.ofChange crtSumsSpec)

/-- ITS FALSE NEIGHBOUR: 'it returns false'. Refute it at one input. -/
def crtSumsWrong : ChangeSpec := { name := "crtSums", fn := fun _ => fun
  | [d1, d2] => { results := [.lit (.bool false)], args := [d1, d2] }
  | _ => none }
def CrtSumsWrongFalsely : Prop := crtSumsRow.holds Try.pinned (OpenSpec.ofChange crtSumsWrong)

/-- 'beaglelaw03.CrtRows': WHATEVER THE INPUT: true; the input reads as it did. -/
def crtRowsSpec : ChangeSpec := { name := "crtRows", fn := fun _ => fun
  | [d1, d2, d3] => { results := [.lit (.bool true)], args := [d1, d2, d3] }
  | _ => none }
def crtRowsRow : OpenClaim := { program := "ytjfpcggpdbkjgaa", sum := "477fc7e81e0fa9f3138be84e5eb84af878caba96aada4769ad975fa60cb9090f", func := "beagle/beaglelaw03.CrtRows", spec := "crtRows", apart := false }
def CrtRowsSaid : Prop := crtRowsRow.holds Try.pinned (OpenSpec.ofChange crtRowsSpec)

/-- ITS FALSE NEIGHBOUR: 'it returns false'. Refute it at one input. -/
def crtRowsWrong : ChangeSpec := { name := "crtRows", fn := fun _ => fun
  | [d1, d2, d3] => { results := [.lit (.bool false)], args := [d1, d2, d3] }
  | _ => none }
def CrtRowsWrongFalsely : Prop := crtRowsRow.holds Try.pinned (OpenSpec.ofChange crtRowsWrong)

/-- 'beaglelaw03.CrtMixed': WHATEVER THE INPUT: true; the input reads as it did. -/
def crtMixedSpec : ChangeSpec := { name := "crtMixed", fn := fun _ => fun
  | [d] => { results := [.lit (.bool true)], args := [d] }
  | _ => none }
def crtMixedRow : OpenClaim := { program := "ytjfpcggpdbkjgaa", sum := "477fc7e81e0fa9f3138be84e5eb84af878caba96aada4769ad975fa60cb9090f", func := "beagle/beaglelaw03.CrtMixed", spec := "crtMixed", apart := false }
def CrtMixedSaid : Prop := crtMixedRow.holds Try.pinned (OpenSpec.ofChange crtMixedSpec)

/-- ITS FALSE NEIGHBOUR: 'it returns false'. Refute it at one input. -/
def crtMixedWrong : ChangeSpec := { name := "crtMixed", fn := fun _ => fun
  | [d] => { results := [.lit (.bool false)], args := [d] }
  | _ => none }
def CrtMixedWrongFalsely : Prop := crtMixedRow.holds Try.pinned (OpenSpec.ofChange crtMixedWrong)

/- THE SECOND FORM. 'bulk': how many values and letters a reading holds, each counted each time it is reached (what is shared counts as often as it is met; a slice's spare places count too). A statement '..UptoSaid' is the law's where the arguments, and the package variables that the reading takes, are together of bulk at most 1048576: NARROWER than '..Said'. Prove '..Said' where nothing that the law and all that it calls make is longer than what came in: it says more and counts as full. Else prove '..UptoSaid'. A law counts once. -/
mutual
def uptoBulk {H : Type} : DataW H → Nat
  | .lit (.string bytes) => bytes.length + 1
  | .lit _ => 1
  | .nil => 1
  | .ptr d => uptoBulk d + 1
  | .slice elems spare => uptoBulkAll elems + uptoBulkAll spare + 1
  | .agg parts => uptoBulkAll parts + 1
  | .iface _ d => uptoBulk d + 1
  | .map entries => uptoBulkEntries entries + 1
  | .held _ => 1
def uptoBulkAll {H : Type} : List (DataW H) → Nat
  | [] => 0
  | d :: r => uptoBulk d + uptoBulkAll r
def uptoBulkEntries {H : Type} : List (Lit × DataW H) → Nat
  | [] => 0
  | x :: r => uptoBulkEntry x + uptoBulkEntries r
def uptoBulkEntry {H : Type} : Lit × DataW H → Nat
  | (.string bytes, d) => bytes.length + uptoBulk d + 1
  | (_, d) => uptoBulk d + 1
 end
def uptoSmall : (H : Type) → List (DataW H) → Bool := fun _ ds => decide (uptoBulkAll ds ≤ 1048576)
def OpenSpec.upto (s : _root_.Go.ChangeSpec) : _root_.Go.OpenSpec := { _root_.Go.OpenSpec.ofChange s with cond := some uptoSmall }

/-- 'beaglelaw01.ResidueAll', WHERE WHAT IT READS IS OF BULK AT MOST 1048576: true; the input reads as it did. -/
def residueAllUptoRow : OpenClaim := { program := "ytjfpcggpdbkjgaa", sum := "477fc7e81e0fa9f3138be84e5eb84af878caba96aada4769ad975fa60cb9090f", func := "beagle/beaglelaw01.ResidueAll", spec := "residueAll", apart := false, narrowed := true }
def ResidueAllUptoSaid : Prop := residueAllUptoRow.holds Try.pinned (OpenSpec.upto residueAllSpec)

/-- 'beaglelaw01.ResiduePowers', WHERE WHAT IT READS IS OF BULK AT MOST 1048576: true; the input reads as it did. -/
def residuePowersUptoRow : OpenClaim := { program := "ytjfpcggpdbkjgaa", sum := "477fc7e81e0fa9f3138be84e5eb84af878caba96aada4769ad975fa60cb9090f", func := "beagle/beaglelaw01.ResiduePowers", spec := "residuePowers", recurses := true, apart := false, narrowed := true }
def ResiduePowersUptoSaid : Prop := residuePowersUptoRow.holds Try.pinned (OpenSpec.upto residuePowersSpec)

/-- 'beaglelaw01.ResidueInverses', WHERE WHAT IT READS IS OF BULK AT MOST 1048576: true; the input reads as it did. -/
def residueInversesUptoRow : OpenClaim := { program := "ytjfpcggpdbkjgaa", sum := "477fc7e81e0fa9f3138be84e5eb84af878caba96aada4769ad975fa60cb9090f", func := "beagle/beaglelaw01.ResidueInverses", spec := "residueInverses", apart := false, narrowed := true }
def ResidueInversesUptoSaid : Prop := residueInversesUptoRow.holds Try.pinned (OpenSpec.upto residueInversesSpec)

/-- 'beaglelaw01.ResidueRoots', WHERE WHAT IT READS IS OF BULK AT MOST 1048576: true; the input reads as it did. -/
def residueRootsUptoRow : OpenClaim := { program := "ytjfpcggpdbkjgaa", sum := "477fc7e81e0fa9f3138be84e5eb84af878caba96aada4769ad975fa60cb9090f", func := "beagle/beaglelaw01.ResidueRoots", spec := "residueRoots", recurses := true, apart := false, narrowed := true }
def ResidueRootsUptoSaid : Prop := residueRootsUptoRow.holds Try.pinned (OpenSpec.upto residueRootsSpec)

/-- 'beaglelaw01.ResidueOrders', WHERE WHAT IT READS IS OF BULK AT MOST 1048576: true; the input reads as it did. -/
def residueOrdersUptoRow : OpenClaim := { program := "ytjfpcggpdbkjgaa", sum := "477fc7e81e0fa9f3138be84e5eb84af878caba96aada4769ad975fa60cb9090f", func := "beagle/beaglelaw01.ResidueOrders", spec := "residueOrders", unfollowed := true, recurses := true, apart := false, narrowed := true }
def ResidueOrdersUptoSaid : Prop := residueOrdersUptoRow.holds Try.pinned (OpenSpec.upto residueOrdersSpec)

/-- 'beaglelaw01.ResidueFermat', WHERE WHAT IT READS IS OF BULK AT MOST 1048576: true; the input reads as it did. -/
def residueFermatUptoRow : OpenClaim := { program := "ytjfpcggpdbkjgaa", sum := "477fc7e81e0fa9f3138be84e5eb84af878caba96aada4769ad975fa60cb9090f", func := "beagle/beaglelaw01.ResidueFermat", spec := "residueFermat", apart := false, narrowed := true }
def ResidueFermatUptoSaid : Prop := residueFermatUptoRow.holds Try.pinned (OpenSpec.upto residueFermatSpec)

/-- 'beaglelaw03.CrtJoins', WHERE WHAT IT READS IS OF BULK AT MOST 1048576: true; the input reads as it did. -/
def crtJoinsUptoRow : OpenClaim := { program := "ytjfpcggpdbkjgaa", sum := "477fc7e81e0fa9f3138be84e5eb84af878caba96aada4769ad975fa60cb9090f", func := "beagle/beaglelaw03.CrtJoins", spec := "crtJoins", apart := false, narrowed := true }
def CrtJoinsUptoSaid : Prop := crtJoinsUptoRow.holds Try.pinned (OpenSpec.upto crtJoinsSpec)

/-- 'beaglelaw03.CrtBack', WHERE WHAT IT READS IS OF BULK AT MOST 1048576: true; the input reads as it did. -/
def crtBackUptoRow : OpenClaim := { program := "ytjfpcggpdbkjgaa", sum := "477fc7e81e0fa9f3138be84e5eb84af878caba96aada4769ad975fa60cb9090f", func := "beagle/beaglelaw03.CrtBack", spec := "crtBack", apart := false, narrowed := true }
def CrtBackUptoSaid : Prop := crtBackUptoRow.holds Try.pinned (OpenSpec.upto crtBackSpec)

/-- 'beaglelaw03.CrtApart', WHERE WHAT IT READS IS OF BULK AT MOST 1048576: true; the input reads as it did. -/
def crtApartUptoRow : OpenClaim := { program := "ytjfpcggpdbkjgaa", sum := "477fc7e81e0fa9f3138be84e5eb84af878caba96aada4769ad975fa60cb9090f", func := "beagle/beaglelaw03.CrtApart", spec := "crtApart", apart := false, narrowed := true }
def CrtApartUptoSaid : Prop := crtApartUptoRow.holds Try.pinned (OpenSpec.upto crtApartSpec)

/-- 'beaglelaw03.CrtSums', WHERE WHAT IT READS IS OF BULK AT MOST 1048576: true; the input reads as it did. -/
def crtSumsUptoRow : OpenClaim := { program := "ytjfpcggpdbkjgaa", sum := "477fc7e81e0fa9f3138be84e5eb84af878caba96aada4769ad975fa60cb9090f", func := "beagle/beaglelaw03.CrtSums", spec := "crtSums", apart := false, narrowed := true }
def CrtSumsUptoSaid : Prop := crtSumsUptoRow.holds Try.pinned (OpenSpec.upto crtSumsSpec)

/-- 'beaglelaw03.CrtRows', WHERE WHAT IT READS IS OF BULK AT MOST 1048576: true; the input reads as it did. -/
def crtRowsUptoRow : OpenClaim := { program := "ytjfpcggpdbkjgaa", sum := "477fc7e81e0fa9f3138be84e5eb84af878caba96aada4769ad975fa60cb9090f", func := "beagle/beaglelaw03.CrtRows", spec := "crtRows", apart := false, narrowed := true }
def CrtRowsUptoSaid : Prop := crtRowsUptoRow.holds Try.pinned (OpenSpec.upto crtRowsSpec)

/-- 'beaglelaw03.CrtMixed', WHERE WHAT IT READS IS OF BULK AT MOST 1048576: true; the input reads as it did. -/
def crtMixedUptoRow : OpenClaim := { program := "ytjfpcggpdbkjgaa", sum := "477fc7e81e0fa9f3138be84e5eb84af878caba96aada4769ad975fa60cb9090f", func := "beagle/beaglelaw03.CrtMixed", spec := "crtMixed", apart := false, narrowed := true }
def CrtMixedUptoSaid : Prop := crtMixedUptoRow.holds Try.pinned (OpenSpec.upto crtMixedSpec)

end Rows
end Go.Proofs.Ytjfpcggpdbkjgaa
