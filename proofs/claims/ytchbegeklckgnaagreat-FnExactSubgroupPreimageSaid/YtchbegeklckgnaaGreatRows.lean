/-
  No cell of these rows narrows 'for every input' (looked for: loops, veiled, ifaces, maps, wideKeys, modest, calm, conditions, laid).
  DERIVED. THE GIVEN ROWS OF THIS SEAT. 10 by the template 'for every input the law returns true; each argument reads behind the call as it read before'; 0 by the template 'total and deterministic' (their statements: YtchbegeklckgnaaGreatTotals.lean).
  GIVEN WITH THE SEED: the statements are not yours to turn. If you find one false, say at which input.
  Laid BY PROGRAM, IN A SANDBOX (cutbox-rows.mjs): the forced cells as the released guide's own fill.sh prints them over the translation e9bb3675191b1245… (all of the seat's roots in one cut). By AI agents, Wed Nov 11 2026. No macro, syntax, notation, axiom, sorry.
-/
import Derived.Test.YtchbegeklckgnaaGreatChecked
import GoSem.Claim
import GoSem.ClaimJoined
import GoSem.ClaimMapViews
import Derived.JoinedTies
import Derived.KernelRfl
namespace Go.Proofs.YtchbegeklckgnaaGreat
/- THE CELL 'sum', in the pinned program and in every row, IS THE sha256 OF THE DUMP (.gsa) THAT YtchbegeklckgnaaGreatProg.lean LOADS. Nothing in Lean hashes anything: it is a label: what it is worth is what the hold of that sum in a sandbox is worth. -/
noncomputable def Tryz.pinned : Pinned := { name := "ytchbegeklckgnaagreat", sum := "e9bb3675191b1245c9df98e18121b95a8b7ed2f1fbee9f8d233d968085845413", checked := Tryz.checked }
namespace Rows
def none {H : Type} : Left H := { results := [], args := [] }

/-- 'laws.FnExactHomKernel': WHATEVER THE INPUT: true; the input reads as it did. -/
def fnExactHomKernelSpec : ChangeSpec := { name := "fnExactHomKernel", fn := fun _ => fun
  | [d] => { results := [.lit (.bool true)], args := [d] }
  | _ => none }
def fnExactHomKernelRow : OpenClaim := { program := "ytchbegeklckgnaagreat", sum := "e9bb3675191b1245c9df98e18121b95a8b7ed2f1fbee9f8d233d968085845413", func := "loop.example/g01076/laws.FnExactHomKernel", spec := "fnExactHomKernel", unfollowed := true, recurses := true, apart := false }
def FnExactHomKernelSaid : Prop := fnExactHomKernelRow.holds Tryz.pinned (OpenSpec.ofChange fnExactHomKernelSpec)

/-- ITS FALSE NEIGHBOUR: 'it returns false'. Refute it at one input. -/
def fnExactHomKernelWrong : ChangeSpec := { name := "fnExactHomKernel", fn := fun _ => fun
  | [d] => { results := [.lit (.bool false)], args := [d] }
  | _ => none }
def FnExactHomKernelWrongFalsely : Prop := fnExactHomKernelRow.holds Tryz.pinned (OpenSpec.ofChange fnExactHomKernelWrong)

/-- 'laws.FnExactSubgroupPreimage': WHATEVER THE INPUT: true; the input reads as it did. -/
def fnExactSubgroupPreimageSpec : ChangeSpec := { name := "fnExactSubgroupPreimage", fn := fun _ => fun
  | [d1, d2] => { results := [.lit (.bool true)], args := [d1, d2] }
  | _ => none }
def fnExactSubgroupPreimageRow : OpenClaim := { program := "ytchbegeklckgnaagreat", sum := "e9bb3675191b1245c9df98e18121b95a8b7ed2f1fbee9f8d233d968085845413", func := "loop.example/g01076/laws.FnExactSubgroupPreimage", spec := "fnExactSubgroupPreimage", unfollowed := true, recurses := true, apart := false }
def FnExactSubgroupPreimageSaid : Prop := fnExactSubgroupPreimageRow.holds Tryz.pinned (OpenSpec.ofChange fnExactSubgroupPreimageSpec)

/-- ITS FALSE NEIGHBOUR: 'it returns false'. Refute it at one input. -/
def fnExactSubgroupPreimageWrong : ChangeSpec := { name := "fnExactSubgroupPreimage", fn := fun _ => fun
  | [d1, d2] => { results := [.lit (.bool false)], args := [d1, d2] }
  | _ => none }
def FnExactSubgroupPreimageWrongFalsely : Prop := fnExactSubgroupPreimageRow.holds Tryz.pinned (OpenSpec.ofChange fnExactSubgroupPreimageWrong)

/-- 'laws.FnExactSubgroupElements': WHATEVER THE INPUT: true; the input reads as it did. -/
def fnExactSubgroupElementsSpec : ChangeSpec := { name := "fnExactSubgroupElements", fn := fun _ => fun
  | [d1, d2] => { results := [.lit (.bool true)], args := [d1, d2] }
  | _ => none }
def fnExactSubgroupElementsRow : OpenClaim := { program := "ytchbegeklckgnaagreat", sum := "e9bb3675191b1245c9df98e18121b95a8b7ed2f1fbee9f8d233d968085845413", func := "loop.example/g01076/laws.FnExactSubgroupElements", spec := "fnExactSubgroupElements", unfollowed := true, recurses := true, apart := false }
def FnExactSubgroupElementsSaid : Prop := fnExactSubgroupElementsRow.holds Tryz.pinned (OpenSpec.ofChange fnExactSubgroupElementsSpec)

/-- ITS FALSE NEIGHBOUR: 'it returns false'. Refute it at one input. -/
def fnExactSubgroupElementsWrong : ChangeSpec := { name := "fnExactSubgroupElements", fn := fun _ => fun
  | [d1, d2] => { results := [.lit (.bool false)], args := [d1, d2] }
  | _ => none }
def FnExactSubgroupElementsWrongFalsely : Prop := fnExactSubgroupElementsRow.holds Tryz.pinned (OpenSpec.ofChange fnExactSubgroupElementsWrong)

/-- 'laws.FnExactProductSize': WHATEVER THE INPUT: true; the input reads as it did. -/
def fnExactProductSizeSpec : ChangeSpec := { name := "fnExactProductSize", fn := fun _ => fun
  | [d1, d2, d3] => { results := [.lit (.bool true)], args := [d1, d2, d3] }
  | _ => none }
def fnExactProductSizeRow : OpenClaim := { program := "ytchbegeklckgnaagreat", sum := "e9bb3675191b1245c9df98e18121b95a8b7ed2f1fbee9f8d233d968085845413", func := "loop.example/g01076/laws.FnExactProductSize", spec := "fnExactProductSize", unfollowed := true, recurses := true, apart := false }
def FnExactProductSizeSaid : Prop := fnExactProductSizeRow.holds Tryz.pinned (OpenSpec.ofChange fnExactProductSizeSpec)

/-- ITS FALSE NEIGHBOUR: 'it returns false'. Refute it at one input. -/
def fnExactProductSizeWrong : ChangeSpec := { name := "fnExactProductSize", fn := fun _ => fun
  | [d1, d2, d3] => { results := [.lit (.bool false)], args := [d1, d2, d3] }
  | _ => none }
def FnExactProductSizeWrongFalsely : Prop := fnExactProductSizeRow.holds Tryz.pinned (OpenSpec.ofChange fnExactProductSizeWrong)

/-- 'laws.FnExactDoubleCosetSize': WHATEVER THE INPUT: true; the input reads as it did. -/
def fnExactDoubleCosetSizeSpec : ChangeSpec := { name := "fnExactDoubleCosetSize", fn := fun _ => fun
  | [d1, d2, d3, d4] => { results := [.lit (.bool true)], args := [d1, d2, d3, d4] }
  | _ => none }
def fnExactDoubleCosetSizeRow : OpenClaim := { program := "ytchbegeklckgnaagreat", sum := "e9bb3675191b1245c9df98e18121b95a8b7ed2f1fbee9f8d233d968085845413", func := "loop.example/g01076/laws.FnExactDoubleCosetSize", spec := "fnExactDoubleCosetSize", unfollowed := true, recurses := true, apart := false }
def FnExactDoubleCosetSizeSaid : Prop := fnExactDoubleCosetSizeRow.holds Tryz.pinned (OpenSpec.ofChange fnExactDoubleCosetSizeSpec)

/-- ITS FALSE NEIGHBOUR: 'it returns false'. Refute it at one input. -/
def fnExactDoubleCosetSizeWrong : ChangeSpec := { name := "fnExactDoubleCosetSize", fn := fun _ => fun
  | [d1, d2, d3, d4] => { results := [.lit (.bool false)], args := [d1, d2, d3, d4] }
  | _ => none }
def FnExactDoubleCosetSizeWrongFalsely : Prop := fnExactDoubleCosetSizeRow.holds Tryz.pinned (OpenSpec.ofChange fnExactDoubleCosetSizeWrong)

/-- 'laws.FnExactIsProductSubgroup': WHATEVER THE INPUT: true; the input reads as it did. -/
def fnExactIsProductSubgroupSpec : ChangeSpec := { name := "fnExactIsProductSubgroup", fn := fun _ => fun
  | [d1, d2, d3] => { results := [.lit (.bool true)], args := [d1, d2, d3] }
  | _ => none }
def fnExactIsProductSubgroupRow : OpenClaim := { program := "ytchbegeklckgnaagreat", sum := "e9bb3675191b1245c9df98e18121b95a8b7ed2f1fbee9f8d233d968085845413", func := "loop.example/g01076/laws.FnExactIsProductSubgroup", spec := "fnExactIsProductSubgroup", unfollowed := true, recurses := true, apart := false }
def FnExactIsProductSubgroupSaid : Prop := fnExactIsProductSubgroupRow.holds Tryz.pinned (OpenSpec.ofChange fnExactIsProductSubgroupSpec)

/-- ITS FALSE NEIGHBOUR: 'it returns false'. Refute it at one input. -/
def fnExactIsProductSubgroupWrong : ChangeSpec := { name := "fnExactIsProductSubgroup", fn := fun _ => fun
  | [d1, d2, d3] => { results := [.lit (.bool false)], args := [d1, d2, d3] }
  | _ => none }
def FnExactIsProductSubgroupWrongFalsely : Prop := fnExactIsProductSubgroupRow.holds Tryz.pinned (OpenSpec.ofChange fnExactIsProductSubgroupWrong)

/-- 'laws.FnExactSubgroupMeet': WHATEVER THE INPUT: true; the input reads as it did. -/
def fnExactSubgroupMeetSpec : ChangeSpec := { name := "fnExactSubgroupMeet", fn := fun _ => fun
  | [d1, d2, d3] => { results := [.lit (.bool true)], args := [d1, d2, d3] }
  | _ => none }
def fnExactSubgroupMeetRow : OpenClaim := { program := "ytchbegeklckgnaagreat", sum := "e9bb3675191b1245c9df98e18121b95a8b7ed2f1fbee9f8d233d968085845413", func := "loop.example/g01076/laws.FnExactSubgroupMeet", spec := "fnExactSubgroupMeet", unfollowed := true, recurses := true, apart := false }
def FnExactSubgroupMeetSaid : Prop := fnExactSubgroupMeetRow.holds Tryz.pinned (OpenSpec.ofChange fnExactSubgroupMeetSpec)

/-- ITS FALSE NEIGHBOUR: 'it returns false'. Refute it at one input. -/
def fnExactSubgroupMeetWrong : ChangeSpec := { name := "fnExactSubgroupMeet", fn := fun _ => fun
  | [d1, d2, d3] => { results := [.lit (.bool false)], args := [d1, d2, d3] }
  | _ => none }
def FnExactSubgroupMeetWrongFalsely : Prop := fnExactSubgroupMeetRow.holds Tryz.pinned (OpenSpec.ofChange fnExactSubgroupMeetWrong)

/-- 'laws.FnExactDoubleCosets': WHATEVER THE INPUT: true; the input reads as it did. -/
def fnExactDoubleCosetsSpec : ChangeSpec := { name := "fnExactDoubleCosets", fn := fun _ => fun
  | [d1, d2, d3] => { results := [.lit (.bool true)], args := [d1, d2, d3] }
  | _ => none }
def fnExactDoubleCosetsRow : OpenClaim := { program := "ytchbegeklckgnaagreat", sum := "e9bb3675191b1245c9df98e18121b95a8b7ed2f1fbee9f8d233d968085845413", func := "loop.example/g01076/laws.FnExactDoubleCosets", spec := "fnExactDoubleCosets", unfollowed := true, recurses := true, apart := false }
def FnExactDoubleCosetsSaid : Prop := fnExactDoubleCosetsRow.holds Tryz.pinned (OpenSpec.ofChange fnExactDoubleCosetsSpec)

/-- ITS FALSE NEIGHBOUR: 'it returns false'. Refute it at one input. -/
def fnExactDoubleCosetsWrong : ChangeSpec := { name := "fnExactDoubleCosets", fn := fun _ => fun
  | [d1, d2, d3] => { results := [.lit (.bool false)], args := [d1, d2, d3] }
  | _ => none }
def FnExactDoubleCosetsWrongFalsely : Prop := fnExactDoubleCosetsRow.holds Tryz.pinned (OpenSpec.ofChange fnExactDoubleCosetsWrong)

/-- 'laws.FnExactIsComplement': WHATEVER THE INPUT: true; the input reads as it did. -/
def fnExactIsComplementSpec : ChangeSpec := { name := "fnExactIsComplement", fn := fun _ => fun
  | [d1, d2, d3] => { results := [.lit (.bool true)], args := [d1, d2, d3] }
  | _ => none }
def fnExactIsComplementRow : OpenClaim := { program := "ytchbegeklckgnaagreat", sum := "e9bb3675191b1245c9df98e18121b95a8b7ed2f1fbee9f8d233d968085845413", func := "loop.example/g01076/laws.FnExactIsComplement", spec := "fnExactIsComplement", unfollowed := true, recurses := true, apart := false }
def FnExactIsComplementSaid : Prop := fnExactIsComplementRow.holds Tryz.pinned (OpenSpec.ofChange fnExactIsComplementSpec)

/-- ITS FALSE NEIGHBOUR: 'it returns false'. Refute it at one input. -/
def fnExactIsComplementWrong : ChangeSpec := { name := "fnExactIsComplement", fn := fun _ => fun
  | [d1, d2, d3] => { results := [.lit (.bool false)], args := [d1, d2, d3] }
  | _ => none }
def FnExactIsComplementWrongFalsely : Prop := fnExactIsComplementRow.holds Tryz.pinned (OpenSpec.ofChange fnExactIsComplementWrong)

/-- 'laws.FnExactNormalCore': WHATEVER THE INPUT: true; the input reads as it did. -/
def fnExactNormalCoreSpec : ChangeSpec := { name := "fnExactNormalCore", fn := fun _ => fun
  | [d1, d2] => { results := [.lit (.bool true)], args := [d1, d2] }
  | _ => none }
def fnExactNormalCoreRow : OpenClaim := { program := "ytchbegeklckgnaagreat", sum := "e9bb3675191b1245c9df98e18121b95a8b7ed2f1fbee9f8d233d968085845413", func := "loop.example/g01076/laws.FnExactNormalCore", spec := "fnExactNormalCore", unfollowed := true, recurses := true, apart := false }
def FnExactNormalCoreSaid : Prop := fnExactNormalCoreRow.holds Tryz.pinned (OpenSpec.ofChange fnExactNormalCoreSpec)

/-- ITS FALSE NEIGHBOUR: 'it returns false'. Refute it at one input. -/
def fnExactNormalCoreWrong : ChangeSpec := { name := "fnExactNormalCore", fn := fun _ => fun
  | [d1, d2] => { results := [.lit (.bool false)], args := [d1, d2] }
  | _ => none }
def FnExactNormalCoreWrongFalsely : Prop := fnExactNormalCoreRow.holds Tryz.pinned (OpenSpec.ofChange fnExactNormalCoreWrong)

/- THE SECOND FORM. 'bulk': how many values and letters a reading holds, each counted each time it is reached (what is shared counts as often as it is met; a slice's spare places count too). A statement '..UptoSaid' is the law's where the arguments, and the package variables that the reading takes, are together of bulk at most 1048576: NARROWER than '..Said'. Prove '..Said' where nothing that the law and all that it calls make is longer than what came in: it says more and counts as full. Else prove '..UptoSaid'. A law counts once. -/
mutual
def uptoBulk {H : Type} : DataW H → Nat
  | .lit (.string bytes) => bytes.length + 1
  | .lit _ => 1
  | .nil => 1
  | .ptr d => uptoBulk d + 1
  | .slice elems spare => uptoBulkAll elems + uptoBulkAll spare + 1
  | .agg parts => uptoBulkAll parts + 1
  | .iface _ d => uptoBulk d + 1
  | .map entries => uptoBulkEntries entries + 1
  | .held _ => 1
def uptoBulkAll {H : Type} : List (DataW H) → Nat
  | [] => 0
  | d :: r => uptoBulk d + uptoBulkAll r
def uptoBulkEntries {H : Type} : List (Lit × DataW H) → Nat
  | [] => 0
  | x :: r => uptoBulkEntry x + uptoBulkEntries r
def uptoBulkEntry {H : Type} : Lit × DataW H → Nat
  | (.string bytes, d) => bytes.length + uptoBulk d + 1
  | (_, d) => uptoBulk d + 1
 end
def uptoSmall : (H : Type) → List (DataW H) → Bool := fun _ ds => decide (uptoBulkAll ds ≤ 1048576)
def OpenSpec.upto (s : _root_.Go.ChangeSpec) : _root_.Go.OpenSpec := { _root_.Go.OpenSpec.ofChange s with cond := some uptoSmall }

/-- 'laws.FnExactHomKernel', WHERE WHAT IT READS IS OF BULK AT MOST 1048576: true; the input reads as it did. -/
def fnExactHomKernelUptoRow : OpenClaim := { program := "ytchbegeklckgnaagreat", sum := "e9bb3675191b1245c9df98e18121b95a8b7ed2f1fbee9f8d233d968085845413", func := "loop.example/g01076/laws.FnExactHomKernel", spec := "fnExactHomKernel", unfollowed := true, recurses := true, apart := false, narrowed := true }
def FnExactHomKernelUptoSaid : Prop := fnExactHomKernelUptoRow.holds Tryz.pinned (OpenSpec.upto fnExactHomKernelSpec)

/-- 'laws.FnExactSubgroupPreimage', WHERE WHAT IT READS IS OF BULK AT MOST 1048576: true; the input reads as it did. -/
def fnExactSubgroupPreimageUptoRow : OpenClaim := { program := "ytchbegeklckgnaagreat", sum := "e9bb3675191b1245c9df98e18121b95a8b7ed2f1fbee9f8d233d968085845413", func := "loop.example/g01076/laws.FnExactSubgroupPreimage", spec := "fnExactSubgroupPreimage", unfollowed := true, recurses := true, apart := false, narrowed := true }
def FnExactSubgroupPreimageUptoSaid : Prop := fnExactSubgroupPreimageUptoRow.holds Tryz.pinned (OpenSpec.upto fnExactSubgroupPreimageSpec)

/-- 'laws.FnExactSubgroupElements', WHERE WHAT IT READS IS OF BULK AT MOST 1048576: true; the input reads as it did. -/
def fnExactSubgroupElementsUptoRow : OpenClaim := { program := "ytchbegeklckgnaagreat", sum := "e9bb3675191b1245c9df98e18121b95a8b7ed2f1fbee9f8d233d968085845413", func := "loop.example/g01076/laws.FnExactSubgroupElements", spec := "fnExactSubgroupElements", unfollowed := true, recurses := true, apart := false, narrowed := true }
def FnExactSubgroupElementsUptoSaid : Prop := fnExactSubgroupElementsUptoRow.holds Tryz.pinned (OpenSpec.upto fnExactSubgroupElementsSpec)

/-- 'laws.FnExactProductSize', WHERE WHAT IT READS IS OF BULK AT MOST 1048576: true; the input reads as it did. -/
def fnExactProductSizeUptoRow : OpenClaim := { program := "ytchbegeklckgnaagreat", sum := "e9bb3675191b1245c9df98e18121b95a8b7ed2f1fbee9f8d233d968085845413", func := "loop.example/g01076/laws.FnExactProductSize", spec := "fnExactProductSize", unfollowed := true, recurses := true, apart := false, narrowed := true }
def FnExactProductSizeUptoSaid : Prop := fnExactProductSizeUptoRow.holds Tryz.pinned (OpenSpec.upto fnExactProductSizeSpec)

/-- 'laws.FnExactDoubleCosetSize', WHERE WHAT IT READS IS OF BULK AT MOST 1048576: true; the input reads as it did. -/
def fnExactDoubleCosetSizeUptoRow : OpenClaim := { program := "ytchbegeklckgnaagreat", sum := "e9bb3675191b1245c9df98e18121b95a8b7ed2f1fbee9f8d233d968085845413", func := "loop.example/g01076/laws.FnExactDoubleCosetSize", spec := "fnExactDoubleCosetSize", unfollowed := true, recurses := true, apart := false, narrowed := true }
def FnExactDoubleCosetSizeUptoSaid : Prop := fnExactDoubleCosetSizeUptoRow.holds Tryz.pinned (OpenSpec.upto fnExactDoubleCosetSizeSpec)

/-- 'laws.FnExactIsProductSubgroup', WHERE WHAT IT READS IS OF BULK AT MOST 1048576: true; the input reads as it did. -/
def fnExactIsProductSubgroupUptoRow : OpenClaim := { program := "ytchbegeklckgnaagreat", sum := "e9bb3675191b1245c9df98e18121b95a8b7ed2f1fbee9f8d233d968085845413", func := "loop.example/g01076/laws.FnExactIsProductSubgroup", spec := "fnExactIsProductSubgroup", unfollowed := true, recurses := true, apart := false, narrowed := true }
def FnExactIsProductSubgroupUptoSaid : Prop := fnExactIsProductSubgroupUptoRow.holds Tryz.pinned (OpenSpec.upto fnExactIsProductSubgroupSpec)

/-- 'laws.FnExactSubgroupMeet', WHERE WHAT IT READS IS OF BULK AT MOST 1048576: true; the input reads as it did. -/
def fnExactSubgroupMeetUptoRow : OpenClaim := { program := "ytchbegeklckgnaagreat", sum := "e9bb3675191b1245c9df98e18121b95a8b7ed2f1fbee9f8d233d968085845413", func := "loop.example/g01076/laws.FnExactSubgroupMeet", spec := "fnExactSubgroupMeet", unfollowed := true, recurses := true, apart := false, narrowed := true }
def FnExactSubgroupMeetUptoSaid : Prop := fnExactSubgroupMeetUptoRow.holds Tryz.pinned (OpenSpec.upto fnExactSubgroupMeetSpec)

/-- 'laws.FnExactDoubleCosets', WHERE WHAT IT READS IS OF BULK AT MOST 1048576: true; the input reads as it did. -/
def fnExactDoubleCosetsUptoRow : OpenClaim := { program := "ytchbegeklckgnaagreat", sum := "e9bb3675191b1245c9df98e18121b95a8b7ed2f1fbee9f8d233d968085845413", func := "loop.example/g01076/laws.FnExactDoubleCosets", spec := "fnExactDoubleCosets", unfollowed := true, recurses := true, apart := false, narrowed := true }
def FnExactDoubleCosetsUptoSaid : Prop := fnExactDoubleCosetsUptoRow.holds Tryz.pinned (OpenSpec.upto fnExactDoubleCosetsSpec)

/-- 'laws.FnExactIsComplement', WHERE WHAT IT READS IS OF BULK AT MOST 1048576: true; the input reads as it did. -/
def fnExactIsComplementUptoRow : OpenClaim := { program := "ytchbegeklckgnaagreat", sum := "e9bb3675191b1245c9df98e18121b95a8b7ed2f1fbee9f8d233d968085845413", func := "loop.example/g01076/laws.FnExactIsComplement", spec := "fnExactIsComplement", unfollowed := true, recurses := true, apart := false, narrowed := true }
def FnExactIsComplementUptoSaid : Prop := fnExactIsComplementUptoRow.holds Tryz.pinned (OpenSpec.upto fnExactIsComplementSpec)

/-- 'laws.FnExactNormalCore', WHERE WHAT IT READS IS OF BULK AT MOST 1048576: true; the input reads as it did. -/
def fnExactNormalCoreUptoRow : OpenClaim := { program := "ytchbegeklckgnaagreat", sum := "e9bb3675191b1245c9df98e18121b95a8b7ed2f1fbee9f8d233d968085845413", func := "loop.example/g01076/laws.FnExactNormalCore", spec := "fnExactNormalCore", unfollowed := true, recurses := true, apart := false, narrowed := true }
def FnExactNormalCoreUptoSaid : Prop := fnExactNormalCoreUptoRow.holds Tryz.pinned (OpenSpec.upto fnExactNormalCoreSpec)

end Rows
end Go.Proofs.YtchbegeklckgnaaGreat
