/-
  No cell of these rows narrows 'for every input' (looked for: loops, veiled, ifaces, maps, wideKeys, modest, calm, conditions, laid).
  DERIVED. THE GIVEN ROWS OF THIS SEAT. 12 by the template 'for every input the law returns true; each argument reads behind the call as it read before'; 0 by the template 'total and deterministic' (their statements: YtigbpdaomgagiaaGreatTotals.lean).
  GIVEN WITH THE SEED: the statements are not yours to turn. If you find one false, say at which input.
  Laid BY PROGRAM, IN A SANDBOX (cutbox-rows.mjs): the forced cells as the released guide's own fill.sh prints them over the translation 9fe4c65dd97621be… (all of the seat's roots in one cut). By AI agents, Wed Nov 11 2026. No macro, syntax, notation, axiom, sorry.
-/
import Derived.Test.YtigbpdaomgagiaaGreatChecked
import GoSem.Claim
import GoSem.ClaimJoined
import GoSem.ClaimMapViews
import Derived.JoinedTies
import Derived.KernelRfl
namespace Go.Proofs.YtigbpdaomgagiaaGreat
/- THE CELL 'sum', in the pinned program and in every row, IS THE sha256 OF THE DUMP (.gsa) THAT YtigbpdaomgagiaaGreatProg.lean LOADS. Nothing in Lean hashes anything: it is a label: what it is worth is what the hold of that sum in a sandbox is worth. -/
noncomputable def Tryz.pinned : Pinned := { name := "ytigbpdaomgagiaagreat", sum := "9fe4c65dd97621be2f1dbe0b4760933bbb29899c021396e17b52365b4b8aa878", checked := Tryz.checked }
namespace Rows
def none {H : Type} : Left H := { results := [], args := [] }

/-- 'laws.FnExactIsSylowSystem': WHATEVER THE INPUT: true; the input reads as it did. -/
def fnExactIsSylowSystemSpec : ChangeSpec := { name := "fnExactIsSylowSystem", fn := fun _ => fun
  | [d1, d2] => { results := [.lit (.bool true)], args := [d1, d2] }
  | _ => none }
def fnExactIsSylowSystemRow : OpenClaim := { program := "ytigbpdaomgagiaagreat", sum := "9fe4c65dd97621be2f1dbe0b4760933bbb29899c021396e17b52365b4b8aa878", func := "loop.example/g01076/laws.FnExactIsSylowSystem", spec := "fnExactIsSylowSystem", unfollowed := true, recurses := true, apart := false }
def FnExactIsSylowSystemSaid : Prop := fnExactIsSylowSystemRow.holds Tryz.pinned (OpenSpec.ofChange fnExactIsSylowSystemSpec)

/-- ITS FALSE NEIGHBOUR: 'it returns false'. Refute it at one input. -/
def fnExactIsSylowSystemWrong : ChangeSpec := { name := "fnExactIsSylowSystem", fn := fun _ => fun
  | [d1, d2] => { results := [.lit (.bool false)], args := [d1, d2] }
  | _ => none }
def FnExactIsSylowSystemWrongFalsely : Prop := fnExactIsSylowSystemRow.holds Tryz.pinned (OpenSpec.ofChange fnExactIsSylowSystemWrong)

/-- 'laws.FnExactGeneratingTuples': WHATEVER THE INPUT: true; the input reads as it did. -/
def fnExactGeneratingTuplesSpec : ChangeSpec := { name := "fnExactGeneratingTuples", fn := fun _ => fun
  | [d1, d2] => { results := [.lit (.bool true)], args := [d1, d2] }
  | _ => none }
def fnExactGeneratingTuplesRow : OpenClaim := { program := "ytigbpdaomgagiaagreat", sum := "9fe4c65dd97621be2f1dbe0b4760933bbb29899c021396e17b52365b4b8aa878", func := "loop.example/g01076/laws.FnExactGeneratingTuples", spec := "fnExactGeneratingTuples", unfollowed := true, recurses := true, apart := false }
def FnExactGeneratingTuplesSaid : Prop := fnExactGeneratingTuplesRow.holds Tryz.pinned (OpenSpec.ofChange fnExactGeneratingTuplesSpec)

/-- ITS FALSE NEIGHBOUR: 'it returns false'. Refute it at one input. -/
def fnExactGeneratingTuplesWrong : ChangeSpec := { name := "fnExactGeneratingTuples", fn := fun _ => fun
  | [d1, d2] => { results := [.lit (.bool false)], args := [d1, d2] }
  | _ => none }
def FnExactGeneratingTuplesWrongFalsely : Prop := fnExactGeneratingTuplesRow.holds Tryz.pinned (OpenSpec.ofChange fnExactGeneratingTuplesWrong)

/-- 'laws.FnExactAllSubgroups': WHATEVER THE INPUT: true; the input reads as it did. -/
def fnExactAllSubgroupsSpec : ChangeSpec := { name := "fnExactAllSubgroups", fn := fun _ => fun
  | [d] => { results := [.lit (.bool true)], args := [d] }
  | _ => none }
def fnExactAllSubgroupsRow : OpenClaim := { program := "ytigbpdaomgagiaagreat", sum := "9fe4c65dd97621be2f1dbe0b4760933bbb29899c021396e17b52365b4b8aa878", func := "loop.example/g01076/laws.FnExactAllSubgroups", spec := "fnExactAllSubgroups", unfollowed := true, recurses := true, apart := false }
def FnExactAllSubgroupsSaid : Prop := fnExactAllSubgroupsRow.holds Tryz.pinned (OpenSpec.ofChange fnExactAllSubgroupsSpec)

/-- ITS FALSE NEIGHBOUR: 'it returns false'. Refute it at one input. -/
def fnExactAllSubgroupsWrong : ChangeSpec := { name := "fnExactAllSubgroups", fn := fun _ => fun
  | [d] => { results := [.lit (.bool false)], args := [d] }
  | _ => none }
def FnExactAllSubgroupsWrongFalsely : Prop := fnExactAllSubgroupsRow.holds Tryz.pinned (OpenSpec.ofChange fnExactAllSubgroupsWrong)

/-- 'laws.FnExactGeneratorRank': WHATEVER THE INPUT: true; the input reads as it did. -/
def fnExactGeneratorRankSpec : ChangeSpec := { name := "fnExactGeneratorRank", fn := fun _ => fun
  | [d] => { results := [.lit (.bool true)], args := [d] }
  | _ => none }
def fnExactGeneratorRankRow : OpenClaim := { program := "ytigbpdaomgagiaagreat", sum := "9fe4c65dd97621be2f1dbe0b4760933bbb29899c021396e17b52365b4b8aa878", func := "loop.example/g01076/laws.FnExactGeneratorRank", spec := "fnExactGeneratorRank", unfollowed := true, recurses := true, apart := false }
def FnExactGeneratorRankSaid : Prop := fnExactGeneratorRankRow.holds Tryz.pinned (OpenSpec.ofChange fnExactGeneratorRankSpec)

/-- ITS FALSE NEIGHBOUR: 'it returns false'. Refute it at one input. -/
def fnExactGeneratorRankWrong : ChangeSpec := { name := "fnExactGeneratorRank", fn := fun _ => fun
  | [d] => { results := [.lit (.bool false)], args := [d] }
  | _ => none }
def FnExactGeneratorRankWrongFalsely : Prop := fnExactGeneratorRankRow.holds Tryz.pinned (OpenSpec.ofChange fnExactGeneratorRankWrong)

/-- 'laws.FnExactMaximalSubgroups': WHATEVER THE INPUT: true; the input reads as it did. -/
def fnExactMaximalSubgroupsSpec : ChangeSpec := { name := "fnExactMaximalSubgroups", fn := fun _ => fun
  | [d] => { results := [.lit (.bool true)], args := [d] }
  | _ => none }
def fnExactMaximalSubgroupsRow : OpenClaim := { program := "ytigbpdaomgagiaagreat", sum := "9fe4c65dd97621be2f1dbe0b4760933bbb29899c021396e17b52365b4b8aa878", func := "loop.example/g01076/laws.FnExactMaximalSubgroups", spec := "fnExactMaximalSubgroups", unfollowed := true, recurses := true, apart := false }
def FnExactMaximalSubgroupsSaid : Prop := fnExactMaximalSubgroupsRow.holds Tryz.pinned (OpenSpec.ofChange fnExactMaximalSubgroupsSpec)

/-- ITS FALSE NEIGHBOUR: 'it returns false'. Refute it at one input. -/
def fnExactMaximalSubgroupsWrong : ChangeSpec := { name := "fnExactMaximalSubgroups", fn := fun _ => fun
  | [d] => { results := [.lit (.bool false)], args := [d] }
  | _ => none }
def FnExactMaximalSubgroupsWrongFalsely : Prop := fnExactMaximalSubgroupsRow.holds Tryz.pinned (OpenSpec.ofChange fnExactMaximalSubgroupsWrong)

/-- 'laws.FnExactSubgroupClasses': WHATEVER THE INPUT: true; the input reads as it did. -/
def fnExactSubgroupClassesSpec : ChangeSpec := { name := "fnExactSubgroupClasses", fn := fun _ => fun
  | [d] => { results := [.lit (.bool true)], args := [d] }
  | _ => none }
def fnExactSubgroupClassesRow : OpenClaim := { program := "ytigbpdaomgagiaagreat", sum := "9fe4c65dd97621be2f1dbe0b4760933bbb29899c021396e17b52365b4b8aa878", func := "loop.example/g01076/laws.FnExactSubgroupClasses", spec := "fnExactSubgroupClasses", unfollowed := true, recurses := true, apart := false }
def FnExactSubgroupClassesSaid : Prop := fnExactSubgroupClassesRow.holds Tryz.pinned (OpenSpec.ofChange fnExactSubgroupClassesSpec)

/-- ITS FALSE NEIGHBOUR: 'it returns false'. Refute it at one input. -/
def fnExactSubgroupClassesWrong : ChangeSpec := { name := "fnExactSubgroupClasses", fn := fun _ => fun
  | [d] => { results := [.lit (.bool false)], args := [d] }
  | _ => none }
def FnExactSubgroupClassesWrongFalsely : Prop := fnExactSubgroupClassesRow.holds Tryz.pinned (OpenSpec.ofChange fnExactSubgroupClassesWrong)

/-- 'laws.FnExactNormalSubgroups': WHATEVER THE INPUT: true; the input reads as it did. -/
def fnExactNormalSubgroupsSpec : ChangeSpec := { name := "fnExactNormalSubgroups", fn := fun _ => fun
  | [d] => { results := [.lit (.bool true)], args := [d] }
  | _ => none }
def fnExactNormalSubgroupsRow : OpenClaim := { program := "ytigbpdaomgagiaagreat", sum := "9fe4c65dd97621be2f1dbe0b4760933bbb29899c021396e17b52365b4b8aa878", func := "loop.example/g01076/laws.FnExactNormalSubgroups", spec := "fnExactNormalSubgroups", unfollowed := true, recurses := true, apart := false }
def FnExactNormalSubgroupsSaid : Prop := fnExactNormalSubgroupsRow.holds Tryz.pinned (OpenSpec.ofChange fnExactNormalSubgroupsSpec)

/-- ITS FALSE NEIGHBOUR: 'it returns false'. Refute it at one input. -/
def fnExactNormalSubgroupsWrong : ChangeSpec := { name := "fnExactNormalSubgroups", fn := fun _ => fun
  | [d] => { results := [.lit (.bool false)], args := [d] }
  | _ => none }
def FnExactNormalSubgroupsWrongFalsely : Prop := fnExactNormalSubgroupsRow.holds Tryz.pinned (OpenSpec.ofChange fnExactNormalSubgroupsWrong)

/-- 'laws.FnExactMobiusValue': WHATEVER THE INPUT: true; the input reads as it did. -/
def fnExactMobiusValueSpec : ChangeSpec := { name := "fnExactMobiusValue", fn := fun _ => fun
  | [d1, d2] => { results := [.lit (.bool true)], args := [d1, d2] }
  | _ => none }
def fnExactMobiusValueRow : OpenClaim := { program := "ytigbpdaomgagiaagreat", sum := "9fe4c65dd97621be2f1dbe0b4760933bbb29899c021396e17b52365b4b8aa878", func := "loop.example/g01076/laws.FnExactMobiusValue", spec := "fnExactMobiusValue", unfollowed := true, recurses := true, apart := false }
def FnExactMobiusValueSaid : Prop := fnExactMobiusValueRow.holds Tryz.pinned (OpenSpec.ofChange fnExactMobiusValueSpec)

/-- ITS FALSE NEIGHBOUR: 'it returns false'. Refute it at one input. -/
def fnExactMobiusValueWrong : ChangeSpec := { name := "fnExactMobiusValue", fn := fun _ => fun
  | [d1, d2] => { results := [.lit (.bool false)], args := [d1, d2] }
  | _ => none }
def FnExactMobiusValueWrongFalsely : Prop := fnExactMobiusValueRow.holds Tryz.pinned (OpenSpec.ofChange fnExactMobiusValueWrong)

/-- 'laws.FnExactMinimalNormalSubgroups': WHATEVER THE INPUT: true; the input reads as it did. -/
def fnExactMinimalNormalSubgroupsSpec : ChangeSpec := { name := "fnExactMinimalNormalSubgroups", fn := fun _ => fun
  | [d] => { results := [.lit (.bool true)], args := [d] }
  | _ => none }
def fnExactMinimalNormalSubgroupsRow : OpenClaim := { program := "ytigbpdaomgagiaagreat", sum := "9fe4c65dd97621be2f1dbe0b4760933bbb29899c021396e17b52365b4b8aa878", func := "loop.example/g01076/laws.FnExactMinimalNormalSubgroups", spec := "fnExactMinimalNormalSubgroups", unfollowed := true, recurses := true, apart := false }
def FnExactMinimalNormalSubgroupsSaid : Prop := fnExactMinimalNormalSubgroupsRow.holds Tryz.pinned (OpenSpec.ofChange fnExactMinimalNormalSubgroupsSpec)

/-- ITS FALSE NEIGHBOUR: 'it returns false'. Refute it at one input. -/
def fnExactMinimalNormalSubgroupsWrong : ChangeSpec := { name := "fnExactMinimalNormalSubgroups", fn := fun _ => fun
  | [d] => { results := [.lit (.bool false)], args := [d] }
  | _ => none }
def FnExactMinimalNormalSubgroupsWrongFalsely : Prop := fnExactMinimalNormalSubgroupsRow.holds Tryz.pinned (OpenSpec.ofChange fnExactMinimalNormalSubgroupsWrong)

/-- 'laws.FnExactFrattiniSubgroup': WHATEVER THE INPUT: true; the input reads as it did. -/
def fnExactFrattiniSubgroupSpec : ChangeSpec := { name := "fnExactFrattiniSubgroup", fn := fun _ => fun
  | [d] => { results := [.lit (.bool true)], args := [d] }
  | _ => none }
def fnExactFrattiniSubgroupRow : OpenClaim := { program := "ytigbpdaomgagiaagreat", sum := "9fe4c65dd97621be2f1dbe0b4760933bbb29899c021396e17b52365b4b8aa878", func := "loop.example/g01076/laws.FnExactFrattiniSubgroup", spec := "fnExactFrattiniSubgroup", unfollowed := true, recurses := true, apart := false }
def FnExactFrattiniSubgroupSaid : Prop := fnExactFrattiniSubgroupRow.holds Tryz.pinned (OpenSpec.ofChange fnExactFrattiniSubgroupSpec)

/-- ITS FALSE NEIGHBOUR: 'it returns false'. Refute it at one input. -/
def fnExactFrattiniSubgroupWrong : ChangeSpec := { name := "fnExactFrattiniSubgroup", fn := fun _ => fun
  | [d] => { results := [.lit (.bool false)], args := [d] }
  | _ => none }
def FnExactFrattiniSubgroupWrongFalsely : Prop := fnExactFrattiniSubgroupRow.holds Tryz.pinned (OpenSpec.ofChange fnExactFrattiniSubgroupWrong)

/-- 'laws.FnExactComplements': WHATEVER THE INPUT: true; the input reads as it did. -/
def fnExactComplementsSpec : ChangeSpec := { name := "fnExactComplements", fn := fun _ => fun
  | [d1, d2] => { results := [.lit (.bool true)], args := [d1, d2] }
  | _ => none }
def fnExactComplementsRow : OpenClaim := { program := "ytigbpdaomgagiaagreat", sum := "9fe4c65dd97621be2f1dbe0b4760933bbb29899c021396e17b52365b4b8aa878", func := "loop.example/g01076/laws.FnExactComplements", spec := "fnExactComplements", unfollowed := true, recurses := true, apart := false }
def FnExactComplementsSaid : Prop := fnExactComplementsRow.holds Tryz.pinned (OpenSpec.ofChange fnExactComplementsSpec)

/-- ITS FALSE NEIGHBOUR: 'it returns false'. Refute it at one input. -/
def fnExactComplementsWrong : ChangeSpec := { name := "fnExactComplements", fn := fun _ => fun
  | [d1, d2] => { results := [.lit (.bool false)], args := [d1, d2] }
  | _ => none }
def FnExactComplementsWrongFalsely : Prop := fnExactComplementsRow.holds Tryz.pinned (OpenSpec.ofChange fnExactComplementsWrong)

/-- 'laws.FnExactTableOfMarks': WHATEVER THE INPUT: true; the input reads as it did. -/
def fnExactTableOfMarksSpec : ChangeSpec := { name := "fnExactTableOfMarks", fn := fun _ => fun
  | [d] => { results := [.lit (.bool true)], args := [d] }
  | _ => none }
def fnExactTableOfMarksRow : OpenClaim := { program := "ytigbpdaomgagiaagreat", sum := "9fe4c65dd97621be2f1dbe0b4760933bbb29899c021396e17b52365b4b8aa878", func := "loop.example/g01076/laws.FnExactTableOfMarks", spec := "fnExactTableOfMarks", unfollowed := true, recurses := true, apart := false }
def FnExactTableOfMarksSaid : Prop := fnExactTableOfMarksRow.holds Tryz.pinned (OpenSpec.ofChange fnExactTableOfMarksSpec)

/-- ITS FALSE NEIGHBOUR: 'it returns false'. Refute it at one input. -/
def fnExactTableOfMarksWrong : ChangeSpec := { name := "fnExactTableOfMarks", fn := fun _ => fun
  | [d] => { results := [.lit (.bool false)], args := [d] }
  | _ => none }
def FnExactTableOfMarksWrongFalsely : Prop := fnExactTableOfMarksRow.holds Tryz.pinned (OpenSpec.ofChange fnExactTableOfMarksWrong)

/- THE SECOND FORM. 'bulk': how many values and letters a reading holds, each counted each time it is reached (what is shared counts as often as it is met; a slice's spare places count too). A statement '..UptoSaid' is the law's where the arguments, and the package variables that the reading takes, are together of bulk at most 1048576: NARROWER than '..Said'. Prove '..Said' where nothing that the law and all that it calls make is longer than what came in: it says more and counts as full. Else prove '..UptoSaid'. A law counts once. -/
mutual
def uptoBulk {H : Type} : DataW H → Nat
  | .lit (.string bytes) => bytes.length + 1
  | .lit _ => 1
  | .nil => 1
  | .ptr d => uptoBulk d + 1
  | .slice elems spare => uptoBulkAll elems + uptoBulkAll spare + 1
  | .agg parts => uptoBulkAll parts + 1
  | .iface _ d => uptoBulk d + 1
  | .map entries => uptoBulkEntries entries + 1
  | .held _ => 1
def uptoBulkAll {H : Type} : List (DataW H) → Nat
  | [] => 0
  | d :: r => uptoBulk d + uptoBulkAll r
def uptoBulkEntries {H : Type} : List (Lit × DataW H) → Nat
  | [] => 0
  | x :: r => uptoBulkEntry x + uptoBulkEntries r
def uptoBulkEntry {H : Type} : Lit × DataW H → Nat
  | (.string bytes, d) => bytes.length + uptoBulk d + 1
  | (_, d) => uptoBulk d + 1
 end
def uptoSmall : (H : Type) → List (DataW H) → Bool := fun _ ds => decide (uptoBulkAll ds ≤ 1048576)
def OpenSpec.upto (s : _root_.Go.ChangeSpec) : _root_.Go.OpenSpec := { _root_.Go.OpenSpec.ofChange s with cond := some uptoSmall }

/-- 'laws.FnExactIsSylowSystem', WHERE WHAT IT READS IS OF BULK AT MOST 1048576: true; the input reads as it did. -/
def fnExactIsSylowSystemUptoRow : OpenClaim := { program := "ytigbpdaomgagiaagreat", sum := "9fe4c65dd97621be2f1dbe0b4760933bbb29899c021396e17b52365b4b8aa878", func := "loop.example/g01076/laws.FnExactIsSylowSystem", spec := "fnExactIsSylowSystem", unfollowed := true, recurses := true, apart := false, narrowed := true }
def FnExactIsSylowSystemUptoSaid : Prop := fnExactIsSylowSystemUptoRow.holds Tryz.pinned (OpenSpec.upto fnExactIsSylowSystemSpec)

/-- 'laws.FnExactGeneratingTuples', WHERE WHAT IT READS IS OF BULK AT MOST 1048576: true; the input reads as it did. -/
def fnExactGeneratingTuplesUptoRow : OpenClaim := { program := "ytigbpdaomgagiaagreat", sum := "9fe4c65dd97621be2f1dbe0b4760933bbb29899c021396e17b52365b4b8aa878", func := "loop.example/g01076/laws.FnExactGeneratingTuples", spec := "fnExactGeneratingTuples", unfollowed := true, recurses := true, apart := false, narrowed := true }
def FnExactGeneratingTuplesUptoSaid : Prop := fnExactGeneratingTuplesUptoRow.holds Tryz.pinned (OpenSpec.upto fnExactGeneratingTuplesSpec)

/-- 'laws.FnExactAllSubgroups', WHERE WHAT IT READS IS OF BULK AT MOST 1048576: true; the input reads as it did. -/
def fnExactAllSubgroupsUptoRow : OpenClaim := { program := "ytigbpdaomgagiaagreat", sum := "9fe4c65dd97621be2f1dbe0b4760933bbb29899c021396e17b52365b4b8aa878", func := "loop.example/g01076/laws.FnExactAllSubgroups", spec := "fnExactAllSubgroups", unfollowed := true, recurses := true, apart := false, narrowed := true }
def FnExactAllSubgroupsUptoSaid : Prop := fnExactAllSubgroupsUptoRow.holds Tryz.pinned (OpenSpec.upto fnExactAllSubgroupsSpec)

/-- 'laws.FnExactGeneratorRank', WHERE WHAT IT READS IS OF BULK AT MOST 1048576: true; the input reads as it did. -/
def fnExactGeneratorRankUptoRow : OpenClaim := { program := "ytigbpdaomgagiaagreat", sum := "9fe4c65dd97621be2f1dbe0b4760933bbb29899c021396e17b52365b4b8aa878", func := "loop.example/g01076/laws.FnExactGeneratorRank", spec := "fnExactGeneratorRank", unfollowed := true, recurses := true, apart := false, narrowed := true }
def FnExactGeneratorRankUptoSaid : Prop := fnExactGeneratorRankUptoRow.holds Tryz.pinned (OpenSpec.upto fnExactGeneratorRankSpec)

/-- 'laws.FnExactMaximalSubgroups', WHERE WHAT IT READS IS OF BULK AT MOST 1048576: true; the input reads as it did. -/
def fnExactMaximalSubgroupsUptoRow : OpenClaim := { program := "ytigbpdaomgagiaagreat", sum := "9fe4c65dd97621be2f1dbe0b4760933bbb29899c021396e17b52365b4b8aa878", func := "loop.example/g01076/laws.FnExactMaximalSubgroups", spec := "fnExactMaximalSubgroups", unfollowed := true, recurses := true, apart := false, narrowed := true }
def FnExactMaximalSubgroupsUptoSaid : Prop := fnExactMaximalSubgroupsUptoRow.holds Tryz.pinned (OpenSpec.upto fnExactMaximalSubgroupsSpec)

/-- 'laws.FnExactSubgroupClasses', WHERE WHAT IT READS IS OF BULK AT MOST 1048576: true; the input reads as it did. -/
def fnExactSubgroupClassesUptoRow : OpenClaim := { program := "ytigbpdaomgagiaagreat", sum := "9fe4c65dd97621be2f1dbe0b4760933bbb29899c021396e17b52365b4b8aa878", func := "loop.example/g01076/laws.FnExactSubgroupClasses", spec := "fnExactSubgroupClasses", unfollowed := true, recurses := true, apart := false, narrowed := true }
def FnExactSubgroupClassesUptoSaid : Prop := fnExactSubgroupClassesUptoRow.holds Tryz.pinned (OpenSpec.upto fnExactSubgroupClassesSpec)

/-- 'laws.FnExactNormalSubgroups', WHERE WHAT IT READS IS OF BULK AT MOST 1048576: true; the input reads as it did. -/
def fnExactNormalSubgroupsUptoRow : OpenClaim := { program := "ytigbpdaomgagiaagreat", sum := "9fe4c65dd97621be2f1dbe0b4760933bbb29899c021396e17b52365b4b8aa878", func := "loop.example/g01076/laws.FnExactNormalSubgroups", spec := "fnExactNormalSubgroups", unfollowed := true, recurses := true, apart := false, narrowed := true }
def FnExactNormalSubgroupsUptoSaid : Prop := fnExactNormalSubgroupsUptoRow.holds Tryz.pinned (OpenSpec.upto fnExactNormalSubgroupsSpec)

/-- 'laws.FnExactMobiusValue', WHERE WHAT IT READS IS OF BULK AT MOST 1048576: true; the input reads as it did. -/
def fnExactMobiusValueUptoRow : OpenClaim := { program := "ytigbpdaomgagiaagreat", sum := "9fe4c65dd97621be2f1dbe0b4760933bbb29899c021396e17b52365b4b8aa878", func := "loop.example/g01076/laws.FnExactMobiusValue", spec := "fnExactMobiusValue", unfollowed := true, recurses := true, apart := false, narrowed := true }
def FnExactMobiusValueUptoSaid : Prop := fnExactMobiusValueUptoRow.holds Tryz.pinned (OpenSpec.upto fnExactMobiusValueSpec)

/-- 'laws.FnExactMinimalNormalSubgroups', WHERE WHAT IT READS IS OF BULK AT MOST 1048576: true; the input reads as it did. -/
def fnExactMinimalNormalSubgroupsUptoRow : OpenClaim := { program := "ytigbpdaomgagiaagreat", sum := "9fe4c65dd97621be2f1dbe0b4760933bbb29899c021396e17b52365b4b8aa878", func := "loop.example/g01076/laws.FnExactMinimalNormalSubgroups", spec := "fnExactMinimalNormalSubgroups", unfollowed := true, recurses := true, apart := false, narrowed := true }
def FnExactMinimalNormalSubgroupsUptoSaid : Prop := fnExactMinimalNormalSubgroupsUptoRow.holds Tryz.pinned (OpenSpec.upto fnExactMinimalNormalSubgroupsSpec)

/-- 'laws.FnExactFrattiniSubgroup', WHERE WHAT IT READS IS OF BULK AT MOST 1048576: true; the input reads as it did. -/
def fnExactFrattiniSubgroupUptoRow : OpenClaim := { program := "ytigbpdaomgagiaagreat", sum := "9fe4c65dd97621be2f1dbe0b4760933bbb29899c021396e17b52365b4b8aa878", func := "loop.example/g01076/laws.FnExactFrattiniSubgroup", spec := "fnExactFrattiniSubgroup", unfollowed := true, recurses := true, apart := false, narrowed := true }
def FnExactFrattiniSubgroupUptoSaid : Prop := fnExactFrattiniSubgroupUptoRow.holds Tryz.pinned (OpenSpec.upto fnExactFrattiniSubgroupSpec)

/-- 'laws.FnExactComplements', WHERE WHAT IT READS IS OF BULK AT MOST 1048576: true; the input reads as it did. -/
def fnExactComplementsUptoRow : OpenClaim := { program := "ytigbpdaomgagiaagreat", sum := "9fe4c65dd97621be2f1dbe0b4760933bbb29899c021396e17b52365b4b8aa878", func := "loop.example/g01076/laws.FnExactComplements", spec := "fnExactComplements", unfollowed := true, recurses := true, apart := false, narrowed := true }
def FnExactComplementsUptoSaid : Prop := fnExactComplementsUptoRow.holds Tryz.pinned (OpenSpec.upto fnExactComplementsSpec)

/-- 'laws.FnExactTableOfMarks', WHERE WHAT IT READS IS OF BULK AT MOST 1048576: true; the input reads as it did. -/
def fnExactTableOfMarksUptoRow : OpenClaim := { program := "ytigbpdaomgagiaagreat", sum := "9fe4c65dd97621be2f1dbe0b4760933bbb29899c021396e17b52365b4b8aa878", func := "loop.example/g01076/laws.FnExactTableOfMarks", spec := "fnExactTableOfMarks", unfollowed := true, recurses := true, apart := false, narrowed := true }
def FnExactTableOfMarksUptoSaid : Prop := fnExactTableOfMarksUptoRow.holds Tryz.pinned (OpenSpec.upto fnExactTableOfMarksSpec)

end Rows
end Go.Proofs.YtigbpdaomgagiaaGreat
