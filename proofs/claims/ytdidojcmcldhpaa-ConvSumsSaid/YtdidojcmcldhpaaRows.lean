/-
  No cell of these rows narrows 'for every input' (looked for: loops, veiled, ifaces, maps, wideKeys, modest, calm, conditions, laid).
  DERIVED. THE GIVEN ROWS OF THIS SEAT. 7 by the template 'for every input the law returns true; each argument reads behind the call as it read before'; 0 by the template 'total and deterministic' (their statements: YtdidojcmcldhpaaTotals.lean).
  GIVEN WITH THE SEED: the statements are not yours to turn. If you find one false, say at which input.
  Laid BY PROGRAM, IN A SANDBOX (cutbox-rows.mjs): the forced cells as the released guide's own fill.sh prints them over the translation ba5e61d368f17ac7… (all of the seat's roots in one cut). By AI agents, Wed Nov 11 2026. No macro, syntax, notation, axiom, sorry.
-/
import Derived.Test.YtdidojcmcldhpaaChecked
import GoSem.Claim
import GoSem.ClaimJoined
import GoSem.ClaimMapViews
import Derived.JoinedTies
import Derived.KernelRfl
namespace Go.Proofs.Ytdidojcmcldhpaa
/- THE CELL 'sum', in the pinned program and in every row, IS THE sha256 OF THE DUMP (.gsa) THAT YtdidojcmcldhpaaProg.lean LOADS. Nothing in Lean hashes anything: it is a label: what it is worth is what the hold of that sum in a sandbox is worth. -/
noncomputable def Try.pinned : Pinned := { name := "ytdidojcmcldhpaa", sum := "ba5e61d368f17ac738241df169ed52097b1a0c4395291235707e1e9a37843a8b", checked := Try.checked }
namespace Rows
def none {H : Type} : Left H := { results := [], args := [] }

/-- 'beaglelaw04.ConvSizes': WHATEVER THE INPUT: true; the input reads as it did. -/
def convSizesSpec : ChangeSpec := { name := "convSizes", fn := fun _ => fun
  | [d1, d2] => { results := [.lit (.bool true)], args := [d1, d2] }
  | _ => none }
def convSizesRow : OpenClaim := { program := "ytdidojcmcldhpaa", sum := "ba5e61d368f17ac738241df169ed52097b1a0c4395291235707e1e9a37843a8b", func := "beagle/beaglelaw04.ConvSizes", spec := "convSizes", unfollowed := true, recurses := true, apart := false }
def ConvSizesSaid : Prop := convSizesRow.holds Try.pinned (OpenSpec.ofChange convSizesSpec)

/-- ITS FALSE NEIGHBOUR: 'it returns false'. Refute it at one input. -/
def convSizesWrong : ChangeSpec := { name := "convSizes", fn := fun _ => fun
  | [d1, d2] => { results := [.lit (.bool false)], args := [d1, d2] }
  | _ => none }
def ConvSizesWrongFalsely : Prop := convSizesRow.holds Try.pinned (OpenSpec.ofChange convSizesWrong)

/-- 'beaglelaw04.ConvSchool': WHATEVER THE INPUT: true; the input reads as it did. -/
def convSchoolSpec : ChangeSpec := { name := "convSchool", fn := fun _ => fun
  | [d1, d2] => { results := [.lit (.bool true)], args := [d1, d2] }
  | _ => none }
def convSchoolRow : OpenClaim := { program := "ytdidojcmcldhpaa", sum := "ba5e61d368f17ac738241df169ed52097b1a0c4395291235707e1e9a37843a8b", func := "beagle/beaglelaw04.ConvSchool", spec := "convSchool", unfollowed := true, recurses := true, apart := false }
def ConvSchoolSaid : Prop := convSchoolRow.holds Try.pinned (OpenSpec.ofChange convSchoolSpec)

/-- ITS FALSE NEIGHBOUR: 'it returns false'. Refute it at one input. -/
def convSchoolWrong : ChangeSpec := { name := "convSchool", fn := fun _ => fun
  | [d1, d2] => { results := [.lit (.bool false)], args := [d1, d2] }
  | _ => none }
def ConvSchoolWrongFalsely : Prop := convSchoolRow.holds Try.pinned (OpenSpec.ofChange convSchoolWrong)

/-- 'beaglelaw04.ConvFast': WHATEVER THE INPUT: true; the input reads as it did. -/
def convFastSpec : ChangeSpec := { name := "convFast", fn := fun _ => fun
  | [d1, d2] => { results := [.lit (.bool true)], args := [d1, d2] }
  | _ => none }
def convFastRow : OpenClaim := { program := "ytdidojcmcldhpaa", sum := "ba5e61d368f17ac738241df169ed52097b1a0c4395291235707e1e9a37843a8b", func := "beagle/beaglelaw04.ConvFast", spec := "convFast", unfollowed := true, recurses := true, apart := false }
def ConvFastSaid : Prop := convFastRow.holds Try.pinned (OpenSpec.ofChange convFastSpec)

/-- ITS FALSE NEIGHBOUR: 'it returns false'. Refute it at one input. -/
def convFastWrong : ChangeSpec := { name := "convFast", fn := fun _ => fun
  | [d1, d2] => { results := [.lit (.bool false)], args := [d1, d2] }
  | _ => none }
def ConvFastWrongFalsely : Prop := convFastRow.holds Try.pinned (OpenSpec.ofChange convFastWrong)

/-- 'beaglelaw04.ConvCorrelates': WHATEVER THE INPUT: true; the input reads as it did. -/
def convCorrelatesSpec : ChangeSpec := { name := "convCorrelates", fn := fun _ => fun
  | [d1, d2] => { results := [.lit (.bool true)], args := [d1, d2] }
  | _ => none }
def convCorrelatesRow : OpenClaim := { program := "ytdidojcmcldhpaa", sum := "ba5e61d368f17ac738241df169ed52097b1a0c4395291235707e1e9a37843a8b", func := "beagle/beaglelaw04.ConvCorrelates", spec := "convCorrelates", unfollowed := true, recurses := true, apart := false }
def ConvCorrelatesSaid : Prop := convCorrelatesRow.holds Try.pinned (OpenSpec.ofChange convCorrelatesSpec)

/-- ITS FALSE NEIGHBOUR: 'it returns false'. Refute it at one input. -/
def convCorrelatesWrong : ChangeSpec := { name := "convCorrelates", fn := fun _ => fun
  | [d1, d2] => { results := [.lit (.bool false)], args := [d1, d2] }
  | _ => none }
def ConvCorrelatesWrongFalsely : Prop := convCorrelatesRow.holds Try.pinned (OpenSpec.ofChange convCorrelatesWrong)

/-- 'beaglelaw04.ConvSwaps': WHATEVER THE INPUT: true; the input reads as it did. -/
def convSwapsSpec : ChangeSpec := { name := "convSwaps", fn := fun _ => fun
  | [d1, d2] => { results := [.lit (.bool true)], args := [d1, d2] }
  | _ => none }
def convSwapsRow : OpenClaim := { program := "ytdidojcmcldhpaa", sum := "ba5e61d368f17ac738241df169ed52097b1a0c4395291235707e1e9a37843a8b", func := "beagle/beaglelaw04.ConvSwaps", spec := "convSwaps", unfollowed := true, recurses := true, apart := false }
def ConvSwapsSaid : Prop := convSwapsRow.holds Try.pinned (OpenSpec.ofChange convSwapsSpec)

/-- ITS FALSE NEIGHBOUR: 'it returns false'. Refute it at one input. -/
def convSwapsWrong : ChangeSpec := { name := "convSwaps", fn := fun _ => fun
  | [d1, d2] => { results := [.lit (.bool false)], args := [d1, d2] }
  | _ => none }
def ConvSwapsWrongFalsely : Prop := convSwapsRow.holds Try.pinned (OpenSpec.ofChange convSwapsWrong)

/-- 'beaglelaw04.ConvSums': WHATEVER THE INPUT: true; the input reads as it did. -/
def convSumsSpec : ChangeSpec := { name := "convSums", fn := fun _ => fun
  | [d1, d2, d3] => { results := [.lit (.bool true)], args := [d1, d2, d3] }
  | _ => none }
def convSumsRow : OpenClaim := { program := "ytdidojcmcldhpaa", sum := "ba5e61d368f17ac738241df169ed52097b1a0c4395291235707e1e9a37843a8b", func := "beagle/beaglelaw04.ConvSums", spec := "convSums", unfollowed := true, recurses := true, apart := false }
def ConvSumsSaid : Prop := convSumsRow.holds Try.pinned (OpenSpec.ofChange convSumsSpec)

/-- ITS FALSE NEIGHBOUR: 'it returns false'. Refute it at one input. -/
def convSumsWrong : ChangeSpec := { name := "convSums", fn := fun _ => fun
  | [d1, d2, d3] => { results := [.lit (.bool false)], args := [d1, d2, d3] }
  | _ => none }
def ConvSumsWrongFalsely : Prop := convSumsRow.holds Try.pinned (OpenSpec.ofChange convSumsWrong)

/-- 'beaglelaw04.ConvParts': WHATEVER THE INPUT: true; the input reads as it did. -/
def convPartsSpec : ChangeSpec := { name := "convParts", fn := fun _ => fun
  | [d1, d2] => { results := [.lit (.bool true)], args := [d1, d2] }
  | _ => none }
def convPartsRow : OpenClaim := { program := "ytdidojcmcldhpaa", sum := "ba5e61d368f17ac738241df169ed52097b1a0c4395291235707e1e9a37843a8b", func := "beagle/beaglelaw04.ConvParts", spec := "convParts", unfollowed := true, recurses := true, apart := false }
def ConvPartsSaid : Prop := convPartsRow.holds Try.pinned (OpenSpec.ofChange convPartsSpec)

/-- ITS FALSE NEIGHBOUR: 'it returns false'. Refute it at one input. -/
def convPartsWrong : ChangeSpec := { name := "convParts", fn := fun _ => fun
  | [d1, d2] => { results := [.lit (.bool false)], args := [d1, d2] }
  | _ => none }
def ConvPartsWrongFalsely : Prop := convPartsRow.holds Try.pinned (OpenSpec.ofChange convPartsWrong)

/- THE SECOND FORM. 'bulk': how many values and letters a reading holds, each counted each time it is reached (what is shared counts as often as it is met; a slice's spare places count too). A statement '..UptoSaid' is the law's where the arguments, and the package variables that the reading takes, are together of bulk at most 1048576: NARROWER than '..Said'. Prove '..Said' where nothing that the law and all that it calls make is longer than what came in: it says more and counts as full. Else prove '..UptoSaid'. A law counts once. -/
mutual
def uptoBulk {H : Type} : DataW H → Nat
  | .lit (.string bytes) => bytes.length + 1
  | .lit _ => 1
  | .nil => 1
  | .ptr d => uptoBulk d + 1
  | .slice elems spare => uptoBulkAll elems + uptoBulkAll spare + 1
  | .agg parts => uptoBulkAll parts + 1
  | .iface _ d => uptoBulk d + 1
  | .map entries => uptoBulkEntries entries + 1
  | .held _ => 1
def uptoBulkAll {H : Type} : List (DataW H) → Nat
  | [] => 0
  | d :: r => uptoBulk d + uptoBulkAll r
def uptoBulkEntries {H : Type} : List (Lit × DataW H) → Nat
  | [] => 0
  | x :: r => uptoBulkEntry x + uptoBulkEntries r
def uptoBulkEntry {H : Type} : Lit × DataW H → Nat
  | (.string bytes, d) => bytes.length + uptoBulk d + 1
  | (_, d) => uptoBulk d + 1
 end
def uptoSmall : (H : Type) → List (DataW H) → Bool := fun _ ds => decide (uptoBulkAll ds ≤ 1048576)
def OpenSpec.upto (s : _root_.Go.ChangeSpec) : _root_.Go.OpenSpec := { _root_.Go.OpenSpec.ofChange s with cond := some uptoSmall }

/-- 'beaglelaw04.ConvSizes', WHERE WHAT IT READS IS OF BULK AT MOST 1048576: true; the input reads as it did. -/
def convSizesUptoRow : OpenClaim := { program := "ytdidojcmcldhpaa", sum := "ba5e61d368f17ac738241df169ed52097b1a0c4395291235707e1e9a37843a8b", func := "beagle/beaglelaw04.ConvSizes", spec := "convSizes", unfollowed := true, recurses := true, apart := false, narrowed := true }
def ConvSizesUptoSaid : Prop := convSizesUptoRow.holds Try.pinned (OpenSpec.upto convSizesSpec)

/-- 'beaglelaw04.ConvSchool', WHERE WHAT IT READS IS OF BULK AT MOST 1048576: true; the input reads as it did. -/
def convSchoolUptoRow : OpenClaim := { program := "ytdidojcmcldhpaa", sum := "ba5e61d368f17ac738241df169ed52097b1a0c4395291235707e1e9a37843a8b", func := "beagle/beaglelaw04.ConvSchool", spec := "convSchool", unfollowed := true, recurses := true, apart := false, narrowed := true }
def ConvSchoolUptoSaid : Prop := convSchoolUptoRow.holds Try.pinned (OpenSpec.upto convSchoolSpec)

/-- 'beaglelaw04.ConvFast', WHERE WHAT IT READS IS OF BULK AT MOST 1048576: true; the input reads as it did. -/
def convFastUptoRow : OpenClaim := { program := "ytdidojcmcldhpaa", sum := "ba5e61d368f17ac738241df169ed52097b1a0c4395291235707e1e9a37843a8b", func := "beagle/beaglelaw04.ConvFast", spec := "convFast", unfollowed := true, recurses := true, apart := false, narrowed := true }
def ConvFastUptoSaid : Prop := convFastUptoRow.holds Try.pinned (OpenSpec.upto convFastSpec)

/-- 'beaglelaw04.ConvCorrelates', WHERE WHAT IT READS IS OF BULK AT MOST 1048576: true; the input reads as it did. -/
def convCorrelatesUptoRow : OpenClaim := { program := "ytdidojcmcldhpaa", sum := "ba5e61d368f17ac738241df169ed52097b1a0c4395291235707e1e9a37843a8b", func := "beagle/beaglelaw04.ConvCorrelates", spec := "convCorrelates", unfollowed := true, recurses := true, apart := false, narrowed := true }
def ConvCorrelatesUptoSaid : Prop := convCorrelatesUptoRow.holds Try.pinned (OpenSpec.upto convCorrelatesSpec)

/-- 'beaglelaw04.ConvSwaps', WHERE WHAT IT READS IS OF BULK AT MOST 1048576: true; the input reads as it did. -/
def convSwapsUptoRow : OpenClaim := { program := "ytdidojcmcldhpaa", sum := "ba5e61d368f17ac738241df169ed52097b1a0c4395291235707e1e9a37843a8b", func := "beagle/beaglelaw04.ConvSwaps", spec := "convSwaps", unfollowed := true, recurses := true, apart := false, narrowed := true }
def ConvSwapsUptoSaid : Prop := convSwapsUptoRow.holds Try.pinned (OpenSpec.upto convSwapsSpec)

/-- 'beaglelaw04.ConvSums', WHERE WHAT IT READS IS OF BULK AT MOST 1048576: true; the input reads as it did. -/
def convSumsUptoRow : OpenClaim := { program := "ytdidojcmcldhpaa", sum := "ba5e61d368f17ac738241df169ed52097b1a0c4395291235707e1e9a37843a8b", func := "beagle/beaglelaw04.ConvSums", spec := "convSums", unfollowed := true, recurses := true, apart := false, narrowed := true }
def ConvSumsUptoSaid : Prop := convSumsUptoRow.holds Try.pinned (OpenSpec.upto convSumsSpec)

/-- 'beaglelaw04.ConvParts', WHERE WHAT IT READS IS OF BULK AT MOST 1048576: true; the input reads as it did. -/
def convPartsUptoRow : OpenClaim := { program := "ytdidojcmcldhpaa", sum := "ba5e61d368f17ac738241df169ed52097b1a0c4395291235707e1e9a37843a8b", func := "beagle/beaglelaw04.ConvParts", spec := "convParts", unfollowed := true, recurses := true, apart := false, narrowed := true }
def ConvPartsUptoSaid : Prop := convPartsUptoRow.holds Try.pinned (OpenSpec.upto convPartsSpec)

end Rows
end Go.Proofs.Ytdidojcmcldhpaa
