/-
  No cell of these rows narrows 'for every input' (looked for: loops, veiled, ifaces, maps, wideKeys, modest, calm, conditions, laid).
  DERIVED. THE GIVEN ROWS OF THIS SEAT. 12 by the template 'for every input the law returns true; each argument reads behind the call as it read before'; 0 by the template 'total and deterministic' (their statements: YtdklekdpdbjfiaaGreatTotals.lean).
  GIVEN WITH THE SEED: the statements are not yours to turn. If you find one false, say at which input.
  Laid BY PROGRAM, IN A SANDBOX (cutbox-rows.mjs): the forced cells as the released guide's own fill.sh prints them over the translation f3d31ad86fc0a4b3… (all of the seat's roots in one cut). By AI agents, Wed Nov 11 2026. No macro, syntax, notation, axiom, sorry.
-/
import Derived.Test.YtdklekdpdbjfiaaGreatChecked
import GoSem.Claim
import GoSem.ClaimJoined
import GoSem.ClaimMapViews
import Derived.JoinedTies
import Derived.KernelRfl
namespace Go.Proofs.YtdklekdpdbjfiaaGreat
/- THE CELL 'sum', in the pinned program and in every row, IS THE sha256 OF THE DUMP (.gsa) THAT YtdklekdpdbjfiaaGreatProg.lean LOADS. Nothing in Lean hashes anything: it is a label: what it is worth is what the hold of that sum in a sandbox is worth. -/
noncomputable def Tryz.pinned : Pinned := { name := "ytdklekdpdbjfiaagreat", sum := "f3d31ad86fc0a4b3a2be42eb9cdcf17d8228a6dc0677b746e800ebb8ba0438f0", checked := Tryz.checked }
namespace Rows
def none {H : Type} : Left H := { results := [], args := [] }

/-- 'laws.FnExactIsSylowSystem': WHATEVER THE INPUT: true; the input reads as it did. -/
def fnExactIsSylowSystemSpec : ChangeSpec := { name := "fnExactIsSylowSystem", fn := fun _ => fun
  | [d1, d2] => { results := [.lit (.bool true)], args := [d1, d2] }
  | _ => none }
def fnExactIsSylowSystemRow : OpenClaim := { program := "ytdklekdpdbjfiaagreat", sum := "f3d31ad86fc0a4b3a2be42eb9cdcf17d8228a6dc0677b746e800ebb8ba0438f0", func := "loop.example/g01076/laws.FnExactIsSylowSystem", spec := "fnExactIsSylowSystem", unfollowed := true, recurses := true, apart := false }
def FnExactIsSylowSystemSaid : Prop := fnExactIsSylowSystemRow.holds Tryz.pinned (OpenSpec.ofChange fnExactIsSylowSystemSpec)

/-- ITS FALSE NEIGHBOUR: 'it returns false'. Refute it at one input. -/
def fnExactIsSylowSystemWrong : ChangeSpec := { name := "fnExactIsSylowSystem", fn := fun _ => fun
  | [d1, d2] => { results := [.lit (.bool false)], args := [d1, d2] }
  | _ => none }
def FnExactIsSylowSystemWrongFalsely : Prop := fnExactIsSylowSystemRow.holds Tryz.pinned (OpenSpec.ofChange fnExactIsSylowSystemWrong)

/-- 'laws.FnExactSylowCount': WHATEVER THE INPUT: true; the input reads as it did. -/
def fnExactSylowCountSpec : ChangeSpec := { name := "fnExactSylowCount", fn := fun _ => fun
  | [d1, d2] => { results := [.lit (.bool true)], args := [d1, d2] }
  | _ => none }
def fnExactSylowCountRow : OpenClaim := { program := "ytdklekdpdbjfiaagreat", sum := "f3d31ad86fc0a4b3a2be42eb9cdcf17d8228a6dc0677b746e800ebb8ba0438f0", func := "loop.example/g01076/laws.FnExactSylowCount", spec := "fnExactSylowCount", unfollowed := true, recurses := true, apart := false }
def FnExactSylowCountSaid : Prop := fnExactSylowCountRow.holds Tryz.pinned (OpenSpec.ofChange fnExactSylowCountSpec)

/-- ITS FALSE NEIGHBOUR: 'it returns false'. Refute it at one input. -/
def fnExactSylowCountWrong : ChangeSpec := { name := "fnExactSylowCount", fn := fun _ => fun
  | [d1, d2] => { results := [.lit (.bool false)], args := [d1, d2] }
  | _ => none }
def FnExactSylowCountWrongFalsely : Prop := fnExactSylowCountRow.holds Tryz.pinned (OpenSpec.ofChange fnExactSylowCountWrong)

/-- 'laws.FnExactHallSubgroup': WHATEVER THE INPUT: true; the input reads as it did. -/
def fnExactHallSubgroupSpec : ChangeSpec := { name := "fnExactHallSubgroup", fn := fun _ => fun
  | [d1, d2] => { results := [.lit (.bool true)], args := [d1, d2] }
  | _ => none }
def fnExactHallSubgroupRow : OpenClaim := { program := "ytdklekdpdbjfiaagreat", sum := "f3d31ad86fc0a4b3a2be42eb9cdcf17d8228a6dc0677b746e800ebb8ba0438f0", func := "loop.example/g01076/laws.FnExactHallSubgroup", spec := "fnExactHallSubgroup", unfollowed := true, recurses := true, apart := false }
def FnExactHallSubgroupSaid : Prop := fnExactHallSubgroupRow.holds Tryz.pinned (OpenSpec.ofChange fnExactHallSubgroupSpec)

/-- ITS FALSE NEIGHBOUR: 'it returns false'. Refute it at one input. -/
def fnExactHallSubgroupWrong : ChangeSpec := { name := "fnExactHallSubgroup", fn := fun _ => fun
  | [d1, d2] => { results := [.lit (.bool false)], args := [d1, d2] }
  | _ => none }
def FnExactHallSubgroupWrongFalsely : Prop := fnExactHallSubgroupRow.holds Tryz.pinned (OpenSpec.ofChange fnExactHallSubgroupWrong)

/-- 'laws.FnExactHallSubgroups': WHATEVER THE INPUT: true; the input reads as it did. -/
def fnExactHallSubgroupsSpec : ChangeSpec := { name := "fnExactHallSubgroups", fn := fun _ => fun
  | [d1, d2] => { results := [.lit (.bool true)], args := [d1, d2] }
  | _ => none }
def fnExactHallSubgroupsRow : OpenClaim := { program := "ytdklekdpdbjfiaagreat", sum := "f3d31ad86fc0a4b3a2be42eb9cdcf17d8228a6dc0677b746e800ebb8ba0438f0", func := "loop.example/g01076/laws.FnExactHallSubgroups", spec := "fnExactHallSubgroups", unfollowed := true, recurses := true, apart := false }
def FnExactHallSubgroupsSaid : Prop := fnExactHallSubgroupsRow.holds Tryz.pinned (OpenSpec.ofChange fnExactHallSubgroupsSpec)

/-- ITS FALSE NEIGHBOUR: 'it returns false'. Refute it at one input. -/
def fnExactHallSubgroupsWrong : ChangeSpec := { name := "fnExactHallSubgroups", fn := fun _ => fun
  | [d1, d2] => { results := [.lit (.bool false)], args := [d1, d2] }
  | _ => none }
def FnExactHallSubgroupsWrongFalsely : Prop := fnExactHallSubgroupsRow.holds Tryz.pinned (OpenSpec.ofChange fnExactHallSubgroupsWrong)

/-- 'laws.FnExactSubgroupClasses': WHATEVER THE INPUT: true; the input reads as it did. -/
def fnExactSubgroupClassesSpec : ChangeSpec := { name := "fnExactSubgroupClasses", fn := fun _ => fun
  | [d] => { results := [.lit (.bool true)], args := [d] }
  | _ => none }
def fnExactSubgroupClassesRow : OpenClaim := { program := "ytdklekdpdbjfiaagreat", sum := "f3d31ad86fc0a4b3a2be42eb9cdcf17d8228a6dc0677b746e800ebb8ba0438f0", func := "loop.example/g01076/laws.FnExactSubgroupClasses", spec := "fnExactSubgroupClasses", unfollowed := true, recurses := true, apart := false }
def FnExactSubgroupClassesSaid : Prop := fnExactSubgroupClassesRow.holds Tryz.pinned (OpenSpec.ofChange fnExactSubgroupClassesSpec)

/-- ITS FALSE NEIGHBOUR: 'it returns false'. Refute it at one input. -/
def fnExactSubgroupClassesWrong : ChangeSpec := { name := "fnExactSubgroupClasses", fn := fun _ => fun
  | [d] => { results := [.lit (.bool false)], args := [d] }
  | _ => none }
def FnExactSubgroupClassesWrongFalsely : Prop := fnExactSubgroupClassesRow.holds Tryz.pinned (OpenSpec.ofChange fnExactSubgroupClassesWrong)

/-- 'laws.FnExactNormalSubgroups': WHATEVER THE INPUT: true; the input reads as it did. -/
def fnExactNormalSubgroupsSpec : ChangeSpec := { name := "fnExactNormalSubgroups", fn := fun _ => fun
  | [d] => { results := [.lit (.bool true)], args := [d] }
  | _ => none }
def fnExactNormalSubgroupsRow : OpenClaim := { program := "ytdklekdpdbjfiaagreat", sum := "f3d31ad86fc0a4b3a2be42eb9cdcf17d8228a6dc0677b746e800ebb8ba0438f0", func := "loop.example/g01076/laws.FnExactNormalSubgroups", spec := "fnExactNormalSubgroups", unfollowed := true, recurses := true, apart := false }
def FnExactNormalSubgroupsSaid : Prop := fnExactNormalSubgroupsRow.holds Tryz.pinned (OpenSpec.ofChange fnExactNormalSubgroupsSpec)

/-- ITS FALSE NEIGHBOUR: 'it returns false'. Refute it at one input. -/
def fnExactNormalSubgroupsWrong : ChangeSpec := { name := "fnExactNormalSubgroups", fn := fun _ => fun
  | [d] => { results := [.lit (.bool false)], args := [d] }
  | _ => none }
def FnExactNormalSubgroupsWrongFalsely : Prop := fnExactNormalSubgroupsRow.holds Tryz.pinned (OpenSpec.ofChange fnExactNormalSubgroupsWrong)

/-- 'laws.FnExactPrimeCore': WHATEVER THE INPUT: true; the input reads as it did. -/
def fnExactPrimeCoreSpec : ChangeSpec := { name := "fnExactPrimeCore", fn := fun _ => fun
  | [d1, d2] => { results := [.lit (.bool true)], args := [d1, d2] }
  | _ => none }
def fnExactPrimeCoreRow : OpenClaim := { program := "ytdklekdpdbjfiaagreat", sum := "f3d31ad86fc0a4b3a2be42eb9cdcf17d8228a6dc0677b746e800ebb8ba0438f0", func := "loop.example/g01076/laws.FnExactPrimeCore", spec := "fnExactPrimeCore", unfollowed := true, recurses := true, apart := false }
def FnExactPrimeCoreSaid : Prop := fnExactPrimeCoreRow.holds Tryz.pinned (OpenSpec.ofChange fnExactPrimeCoreSpec)

/-- ITS FALSE NEIGHBOUR: 'it returns false'. Refute it at one input. -/
def fnExactPrimeCoreWrong : ChangeSpec := { name := "fnExactPrimeCore", fn := fun _ => fun
  | [d1, d2] => { results := [.lit (.bool false)], args := [d1, d2] }
  | _ => none }
def FnExactPrimeCoreWrongFalsely : Prop := fnExactPrimeCoreRow.holds Tryz.pinned (OpenSpec.ofChange fnExactPrimeCoreWrong)

/-- 'laws.FnExactMinimalNormalSubgroups': WHATEVER THE INPUT: true; the input reads as it did. -/
def fnExactMinimalNormalSubgroupsSpec : ChangeSpec := { name := "fnExactMinimalNormalSubgroups", fn := fun _ => fun
  | [d] => { results := [.lit (.bool true)], args := [d] }
  | _ => none }
def fnExactMinimalNormalSubgroupsRow : OpenClaim := { program := "ytdklekdpdbjfiaagreat", sum := "f3d31ad86fc0a4b3a2be42eb9cdcf17d8228a6dc0677b746e800ebb8ba0438f0", func := "loop.example/g01076/laws.FnExactMinimalNormalSubgroups", spec := "fnExactMinimalNormalSubgroups", unfollowed := true, recurses := true, apart := false }
def FnExactMinimalNormalSubgroupsSaid : Prop := fnExactMinimalNormalSubgroupsRow.holds Tryz.pinned (OpenSpec.ofChange fnExactMinimalNormalSubgroupsSpec)

/-- ITS FALSE NEIGHBOUR: 'it returns false'. Refute it at one input. -/
def fnExactMinimalNormalSubgroupsWrong : ChangeSpec := { name := "fnExactMinimalNormalSubgroups", fn := fun _ => fun
  | [d] => { results := [.lit (.bool false)], args := [d] }
  | _ => none }
def FnExactMinimalNormalSubgroupsWrongFalsely : Prop := fnExactMinimalNormalSubgroupsRow.holds Tryz.pinned (OpenSpec.ofChange fnExactMinimalNormalSubgroupsWrong)

/-- 'laws.FnExactFittingSubgroup': WHATEVER THE INPUT: true; the input reads as it did. -/
def fnExactFittingSubgroupSpec : ChangeSpec := { name := "fnExactFittingSubgroup", fn := fun _ => fun
  | [d] => { results := [.lit (.bool true)], args := [d] }
  | _ => none }
def fnExactFittingSubgroupRow : OpenClaim := { program := "ytdklekdpdbjfiaagreat", sum := "f3d31ad86fc0a4b3a2be42eb9cdcf17d8228a6dc0677b746e800ebb8ba0438f0", func := "loop.example/g01076/laws.FnExactFittingSubgroup", spec := "fnExactFittingSubgroup", unfollowed := true, recurses := true, apart := false }
def FnExactFittingSubgroupSaid : Prop := fnExactFittingSubgroupRow.holds Tryz.pinned (OpenSpec.ofChange fnExactFittingSubgroupSpec)

/-- ITS FALSE NEIGHBOUR: 'it returns false'. Refute it at one input. -/
def fnExactFittingSubgroupWrong : ChangeSpec := { name := "fnExactFittingSubgroup", fn := fun _ => fun
  | [d] => { results := [.lit (.bool false)], args := [d] }
  | _ => none }
def FnExactFittingSubgroupWrongFalsely : Prop := fnExactFittingSubgroupRow.holds Tryz.pinned (OpenSpec.ofChange fnExactFittingSubgroupWrong)

/-- 'laws.FnExactSylowSystem': WHATEVER THE INPUT: true; the input reads as it did. -/
def fnExactSylowSystemSpec : ChangeSpec := { name := "fnExactSylowSystem", fn := fun _ => fun
  | [d] => { results := [.lit (.bool true)], args := [d] }
  | _ => none }
def fnExactSylowSystemRow : OpenClaim := { program := "ytdklekdpdbjfiaagreat", sum := "f3d31ad86fc0a4b3a2be42eb9cdcf17d8228a6dc0677b746e800ebb8ba0438f0", func := "loop.example/g01076/laws.FnExactSylowSystem", spec := "fnExactSylowSystem", unfollowed := true, recurses := true, apart := false }
def FnExactSylowSystemSaid : Prop := fnExactSylowSystemRow.holds Tryz.pinned (OpenSpec.ofChange fnExactSylowSystemSpec)

/-- ITS FALSE NEIGHBOUR: 'it returns false'. Refute it at one input. -/
def fnExactSylowSystemWrong : ChangeSpec := { name := "fnExactSylowSystem", fn := fun _ => fun
  | [d] => { results := [.lit (.bool false)], args := [d] }
  | _ => none }
def FnExactSylowSystemWrongFalsely : Prop := fnExactSylowSystemRow.holds Tryz.pinned (OpenSpec.ofChange fnExactSylowSystemWrong)

/-- 'laws.FnExactComplements': WHATEVER THE INPUT: true; the input reads as it did. -/
def fnExactComplementsSpec : ChangeSpec := { name := "fnExactComplements", fn := fun _ => fun
  | [d1, d2] => { results := [.lit (.bool true)], args := [d1, d2] }
  | _ => none }
def fnExactComplementsRow : OpenClaim := { program := "ytdklekdpdbjfiaagreat", sum := "f3d31ad86fc0a4b3a2be42eb9cdcf17d8228a6dc0677b746e800ebb8ba0438f0", func := "loop.example/g01076/laws.FnExactComplements", spec := "fnExactComplements", unfollowed := true, recurses := true, apart := false }
def FnExactComplementsSaid : Prop := fnExactComplementsRow.holds Tryz.pinned (OpenSpec.ofChange fnExactComplementsSpec)

/-- ITS FALSE NEIGHBOUR: 'it returns false'. Refute it at one input. -/
def fnExactComplementsWrong : ChangeSpec := { name := "fnExactComplements", fn := fun _ => fun
  | [d1, d2] => { results := [.lit (.bool false)], args := [d1, d2] }
  | _ => none }
def FnExactComplementsWrongFalsely : Prop := fnExactComplementsRow.holds Tryz.pinned (OpenSpec.ofChange fnExactComplementsWrong)

/-- 'laws.FnExactTableOfMarks': WHATEVER THE INPUT: true; the input reads as it did. -/
def fnExactTableOfMarksSpec : ChangeSpec := { name := "fnExactTableOfMarks", fn := fun _ => fun
  | [d] => { results := [.lit (.bool true)], args := [d] }
  | _ => none }
def fnExactTableOfMarksRow : OpenClaim := { program := "ytdklekdpdbjfiaagreat", sum := "f3d31ad86fc0a4b3a2be42eb9cdcf17d8228a6dc0677b746e800ebb8ba0438f0", func := "loop.example/g01076/laws.FnExactTableOfMarks", spec := "fnExactTableOfMarks", unfollowed := true, recurses := true, apart := false }
def FnExactTableOfMarksSaid : Prop := fnExactTableOfMarksRow.holds Tryz.pinned (OpenSpec.ofChange fnExactTableOfMarksSpec)

/-- ITS FALSE NEIGHBOUR: 'it returns false'. Refute it at one input. -/
def fnExactTableOfMarksWrong : ChangeSpec := { name := "fnExactTableOfMarks", fn := fun _ => fun
  | [d] => { results := [.lit (.bool false)], args := [d] }
  | _ => none }
def FnExactTableOfMarksWrongFalsely : Prop := fnExactTableOfMarksRow.holds Tryz.pinned (OpenSpec.ofChange fnExactTableOfMarksWrong)

/- THE SECOND FORM. 'bulk': how many values and letters a reading holds, each counted each time it is reached (what is shared counts as often as it is met; a slice's spare places count too). A statement '..UptoSaid' is the law's where the arguments, and the package variables that the reading takes, are together of bulk at most 1048576: NARROWER than '..Said'. Prove '..Said' where nothing that the law and all that it calls make is longer than what came in: it says more and counts as full. Else prove '..UptoSaid'. A law counts once. -/
mutual
def uptoBulk {H : Type} : DataW H → Nat
  | .lit (.string bytes) => bytes.length + 1
  | .lit _ => 1
  | .nil => 1
  | .ptr d => uptoBulk d + 1
  | .slice elems spare => uptoBulkAll elems + uptoBulkAll spare + 1
  | .agg parts => uptoBulkAll parts + 1
  | .iface _ d => uptoBulk d + 1
  | .map entries => uptoBulkEntries entries + 1
  | .held _ => 1
def uptoBulkAll {H : Type} : List (DataW H) → Nat
  | [] => 0
  | d :: r => uptoBulk d + uptoBulkAll r
def uptoBulkEntries {H : Type} : List (Lit × DataW H) → Nat
  | [] => 0
  | x :: r => uptoBulkEntry x + uptoBulkEntries r
def uptoBulkEntry {H : Type} : Lit × DataW H → Nat
  | (.string bytes, d) => bytes.length + uptoBulk d + 1
  | (_, d) => uptoBulk d + 1
 end
def uptoSmall : (H : Type) → List (DataW H) → Bool := fun _ ds => decide (uptoBulkAll ds ≤ 1048576)
def OpenSpec.upto (s : _root_.Go.ChangeSpec) : _root_.Go.OpenSpec := { _root_.Go.OpenSpec.ofChange s with cond := some uptoSmall }

/-- 'laws.FnExactIsSylowSystem', WHERE WHAT IT READS IS OF BULK AT MOST 1048576: true; the input reads as it did. -/
def fnExactIsSylowSystemUptoRow : OpenClaim := { program := "ytdklekdpdbjfiaagreat", sum := "f3d31ad86fc0a4b3a2be42eb9cdcf17d8228a6dc0677b746e800ebb8ba0438f0", func := "loop.example/g01076/laws.FnExactIsSylowSystem", spec := "fnExactIsSylowSystem", unfollowed := true, recurses := true, apart := false, narrowed := true }
def FnExactIsSylowSystemUptoSaid : Prop := fnExactIsSylowSystemUptoRow.holds Tryz.pinned (OpenSpec.upto fnExactIsSylowSystemSpec)

/-- 'laws.FnExactSylowCount', WHERE WHAT IT READS IS OF BULK AT MOST 1048576: true; the input reads as it did. -/
def fnExactSylowCountUptoRow : OpenClaim := { program := "ytdklekdpdbjfiaagreat", sum := "f3d31ad86fc0a4b3a2be42eb9cdcf17d8228a6dc0677b746e800ebb8ba0438f0", func := "loop.example/g01076/laws.FnExactSylowCount", spec := "fnExactSylowCount", unfollowed := true, recurses := true, apart := false, narrowed := true }
def FnExactSylowCountUptoSaid : Prop := fnExactSylowCountUptoRow.holds Tryz.pinned (OpenSpec.upto fnExactSylowCountSpec)

/-- 'laws.FnExactHallSubgroup', WHERE WHAT IT READS IS OF BULK AT MOST 1048576: true; the input reads as it did. -/
def fnExactHallSubgroupUptoRow : OpenClaim := { program := "ytdklekdpdbjfiaagreat", sum := "f3d31ad86fc0a4b3a2be42eb9cdcf17d8228a6dc0677b746e800ebb8ba0438f0", func := "loop.example/g01076/laws.FnExactHallSubgroup", spec := "fnExactHallSubgroup", unfollowed := true, recurses := true, apart := false, narrowed := true }
def FnExactHallSubgroupUptoSaid : Prop := fnExactHallSubgroupUptoRow.holds Tryz.pinned (OpenSpec.upto fnExactHallSubgroupSpec)

/-- 'laws.FnExactHallSubgroups', WHERE WHAT IT READS IS OF BULK AT MOST 1048576: true; the input reads as it did. -/
def fnExactHallSubgroupsUptoRow : OpenClaim := { program := "ytdklekdpdbjfiaagreat", sum := "f3d31ad86fc0a4b3a2be42eb9cdcf17d8228a6dc0677b746e800ebb8ba0438f0", func := "loop.example/g01076/laws.FnExactHallSubgroups", spec := "fnExactHallSubgroups", unfollowed := true, recurses := true, apart := false, narrowed := true }
def FnExactHallSubgroupsUptoSaid : Prop := fnExactHallSubgroupsUptoRow.holds Tryz.pinned (OpenSpec.upto fnExactHallSubgroupsSpec)

/-- 'laws.FnExactSubgroupClasses', WHERE WHAT IT READS IS OF BULK AT MOST 1048576: true; the input reads as it did. -/
def fnExactSubgroupClassesUptoRow : OpenClaim := { program := "ytdklekdpdbjfiaagreat", sum := "f3d31ad86fc0a4b3a2be42eb9cdcf17d8228a6dc0677b746e800ebb8ba0438f0", func := "loop.example/g01076/laws.FnExactSubgroupClasses", spec := "fnExactSubgroupClasses", unfollowed := true, recurses := true, apart := false, narrowed := true }
def FnExactSubgroupClassesUptoSaid : Prop := fnExactSubgroupClassesUptoRow.holds Tryz.pinned (OpenSpec.upto fnExactSubgroupClassesSpec)

/-- 'laws.FnExactNormalSubgroups', WHERE WHAT IT READS IS OF BULK AT MOST 1048576: true; the input reads as it did. -/
def fnExactNormalSubgroupsUptoRow : OpenClaim := { program := "ytdklekdpdbjfiaagreat", sum := "f3d31ad86fc0a4b3a2be42eb9cdcf17d8228a6dc0677b746e800ebb8ba0438f0", func := "loop.example/g01076/laws.FnExactNormalSubgroups", spec := "fnExactNormalSubgroups", unfollowed := true, recurses := true, apart := false, narrowed := true }
def FnExactNormalSubgroupsUptoSaid : Prop := fnExactNormalSubgroupsUptoRow.holds Tryz.pinned (OpenSpec.upto fnExactNormalSubgroupsSpec)

/-- 'laws.FnExactPrimeCore', WHERE WHAT IT READS IS OF BULK AT MOST 1048576: true; the input reads as it did. -/
def fnExactPrimeCoreUptoRow : OpenClaim := { program := "ytdklekdpdbjfiaagreat", sum := "f3d31ad86fc0a4b3a2be42eb9cdcf17d8228a6dc0677b746e800ebb8ba0438f0", func := "loop.example/g01076/laws.FnExactPrimeCore", spec := "fnExactPrimeCore", unfollowed := true, recurses := true, apart := false, narrowed := true }
def FnExactPrimeCoreUptoSaid : Prop := fnExactPrimeCoreUptoRow.holds Tryz.pinned (OpenSpec.upto fnExactPrimeCoreSpec)

/-- 'laws.FnExactMinimalNormalSubgroups', WHERE WHAT IT READS IS OF BULK AT MOST 1048576: true; the input reads as it did. -/
def fnExactMinimalNormalSubgroupsUptoRow : OpenClaim := { program := "ytdklekdpdbjfiaagreat", sum := "f3d31ad86fc0a4b3a2be42eb9cdcf17d8228a6dc0677b746e800ebb8ba0438f0", func := "loop.example/g01076/laws.FnExactMinimalNormalSubgroups", spec := "fnExactMinimalNormalSubgroups", unfollowed := true, recurses := true, apart := false, narrowed := true }
def FnExactMinimalNormalSubgroupsUptoSaid : Prop := fnExactMinimalNormalSubgroupsUptoRow.holds Tryz.pinned (OpenSpec.upto fnExactMinimalNormalSubgroupsSpec)

/-- 'laws.FnExactFittingSubgroup', WHERE WHAT IT READS IS OF BULK AT MOST 1048576: true; the input reads as it did. -/
def fnExactFittingSubgroupUptoRow : OpenClaim := { program := "ytdklekdpdbjfiaagreat", sum := "f3d31ad86fc0a4b3a2be42eb9cdcf17d8228a6dc0677b746e800ebb8ba0438f0", func := "loop.example/g01076/laws.FnExactFittingSubgroup", spec := "fnExactFittingSubgroup", unfollowed := true, recurses := true, apart := false, narrowed := true }
def FnExactFittingSubgroupUptoSaid : Prop := fnExactFittingSubgroupUptoRow.holds Tryz.pinned (OpenSpec.upto fnExactFittingSubgroupSpec)

/-- 'laws.FnExactSylowSystem', WHERE WHAT IT READS IS OF BULK AT MOST 1048576: true; the input reads as it did. -/
def fnExactSylowSystemUptoRow : OpenClaim := { program := "ytdklekdpdbjfiaagreat", sum := "f3d31ad86fc0a4b3a2be42eb9cdcf17d8228a6dc0677b746e800ebb8ba0438f0", func := "loop.example/g01076/laws.FnExactSylowSystem", spec := "fnExactSylowSystem", unfollowed := true, recurses := true, apart := false, narrowed := true }
def FnExactSylowSystemUptoSaid : Prop := fnExactSylowSystemUptoRow.holds Tryz.pinned (OpenSpec.upto fnExactSylowSystemSpec)

/-- 'laws.FnExactComplements', WHERE WHAT IT READS IS OF BULK AT MOST 1048576: true; the input reads as it did. -/
def fnExactComplementsUptoRow : OpenClaim := { program := "ytdklekdpdbjfiaagreat", sum := "f3d31ad86fc0a4b3a2be42eb9cdcf17d8228a6dc0677b746e800ebb8ba0438f0", func := "loop.example/g01076/laws.FnExactComplements", spec := "fnExactComplements", unfollowed := true, recurses := true, apart := false, narrowed := true }
def FnExactComplementsUptoSaid : Prop := fnExactComplementsUptoRow.holds Tryz.pinned (OpenSpec.upto fnExactComplementsSpec)

/-- 'laws.FnExactTableOfMarks', WHERE WHAT IT READS IS OF BULK AT MOST 1048576: true; the input reads as it did. -/
def fnExactTableOfMarksUptoRow : OpenClaim := { program := "ytdklekdpdbjfiaagreat", sum := "f3d31ad86fc0a4b3a2be42eb9cdcf17d8228a6dc0677b746e800ebb8ba0438f0", func := "loop.example/g01076/laws.FnExactTableOfMarks", spec := "fnExactTableOfMarks", unfollowed := true, recurses := true, apart := false, narrowed := true }
def FnExactTableOfMarksUptoSaid : Prop := fnExactTableOfMarksUptoRow.holds Tryz.pinned (OpenSpec.upto fnExactTableOfMarksSpec)

end Rows
end Go.Proofs.YtdklekdpdbjfiaaGreat
