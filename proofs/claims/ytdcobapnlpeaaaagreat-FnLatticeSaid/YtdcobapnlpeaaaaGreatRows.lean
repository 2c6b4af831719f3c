/-
  No cell of these rows narrows 'for every input' (looked for: loops, veiled, ifaces, maps, wideKeys, modest, calm, conditions, laid).
  DERIVED. THE GIVEN ROWS OF THIS SEAT. 12 by the template 'for every input the law returns true; each argument reads behind the call as it read before'; 0 by the template 'total and deterministic' (their statements: YtdcobapnlpeaaaaGreatTotals.lean).
  GIVEN WITH THE SEED: the statements are not yours to turn. If you find one false, say at which input.
  Laid BY PROGRAM, IN A SANDBOX (cutbox-rows.mjs): the forced cells as the released guide's own fill.sh prints them over the translation 02e9f8efd6251944… (all of the seat's roots in one cut). By AI agents, Wed Nov 11 2026. No macro, syntax, notation, axiom, sorry.
-/
import Derived.Test.YtdcobapnlpeaaaaGreatChecked
import GoSem.Claim
import GoSem.ClaimJoined
import GoSem.ClaimMapViews
import Derived.JoinedTies
import Derived.KernelRfl
namespace Go.Proofs.YtdcobapnlpeaaaaGreat
/- THE CELL 'sum', in the pinned program and in every row, IS THE sha256 OF THE DUMP (.gsa) THAT YtdcobapnlpeaaaaGreatProg.lean LOADS. Nothing in Lean hashes anything: it is a label: what it is worth is what the hold of that sum in a sandbox is worth. -/
noncomputable def Tryz.pinned : Pinned := { name := "ytdcobapnlpeaaaagreat", sum := "02e9f8efd62519445827735e0f089153ed478a177c7aea7fb6c93396a352cbdf", checked := Tryz.checked }
namespace Rows
def none {H : Type} : Left H := { results := [], args := [] }

/-- 'laws.FnExponents': WHATEVER THE INPUT: true; the input reads as it did. -/
def fnExponentsSpec : ChangeSpec := { name := "fnExponents", fn := fun _ => fun
  | [d] => { results := [.lit (.bool true)], args := [d] }
  | _ => none }
def fnExponentsRow : OpenClaim := { program := "ytdcobapnlpeaaaagreat", sum := "02e9f8efd62519445827735e0f089153ed478a177c7aea7fb6c93396a352cbdf", func := "loop.example/g01076/laws.FnExponents", spec := "fnExponents", unfollowed := true, recurses := true, apart := false }
def FnExponentsSaid : Prop := fnExponentsRow.holds Tryz.pinned (OpenSpec.ofChange fnExponentsSpec)

/-- ITS FALSE NEIGHBOUR: 'it returns false'. Refute it at one input. -/
def fnExponentsWrong : ChangeSpec := { name := "fnExponents", fn := fun _ => fun
  | [d] => { results := [.lit (.bool false)], args := [d] }
  | _ => none }
def FnExponentsWrongFalsely : Prop := fnExponentsRow.holds Tryz.pinned (OpenSpec.ofChange fnExponentsWrong)

/-- 'laws.FnCosetForms': WHATEVER THE INPUT: true; the input reads as it did. -/
def fnCosetFormsSpec : ChangeSpec := { name := "fnCosetForms", fn := fun _ => fun
  | [d] => { results := [.lit (.bool true)], args := [d] }
  | _ => none }
def fnCosetFormsRow : OpenClaim := { program := "ytdcobapnlpeaaaagreat", sum := "02e9f8efd62519445827735e0f089153ed478a177c7aea7fb6c93396a352cbdf", func := "loop.example/g01076/laws.FnCosetForms", spec := "fnCosetForms", unfollowed := true, recurses := true, apart := false }
def FnCosetFormsSaid : Prop := fnCosetFormsRow.holds Tryz.pinned (OpenSpec.ofChange fnCosetFormsSpec)

/-- ITS FALSE NEIGHBOUR: 'it returns false'. Refute it at one input. -/
def fnCosetFormsWrong : ChangeSpec := { name := "fnCosetForms", fn := fun _ => fun
  | [d] => { results := [.lit (.bool false)], args := [d] }
  | _ => none }
def FnCosetFormsWrongFalsely : Prop := fnCosetFormsRow.holds Tryz.pinned (OpenSpec.ofChange fnCosetFormsWrong)

/-- 'laws.FnCommutatorSubgroups': WHATEVER THE INPUT: true; the input reads as it did. -/
def fnCommutatorSubgroupsSpec : ChangeSpec := { name := "fnCommutatorSubgroups", fn := fun _ => fun
  | [d] => { results := [.lit (.bool true)], args := [d] }
  | _ => none }
def fnCommutatorSubgroupsRow : OpenClaim := { program := "ytdcobapnlpeaaaagreat", sum := "02e9f8efd62519445827735e0f089153ed478a177c7aea7fb6c93396a352cbdf", func := "loop.example/g01076/laws.FnCommutatorSubgroups", spec := "fnCommutatorSubgroups", unfollowed := true, recurses := true, apart := false }
def FnCommutatorSubgroupsSaid : Prop := fnCommutatorSubgroupsRow.holds Tryz.pinned (OpenSpec.ofChange fnCommutatorSubgroupsSpec)

/-- ITS FALSE NEIGHBOUR: 'it returns false'. Refute it at one input. -/
def fnCommutatorSubgroupsWrong : ChangeSpec := { name := "fnCommutatorSubgroups", fn := fun _ => fun
  | [d] => { results := [.lit (.bool false)], args := [d] }
  | _ => none }
def FnCommutatorSubgroupsWrongFalsely : Prop := fnCommutatorSubgroupsRow.holds Tryz.pinned (OpenSpec.ofChange fnCommutatorSubgroupsWrong)

/-- 'laws.FnNormalizers': WHATEVER THE INPUT: true; the input reads as it did. -/
def fnNormalizersSpec : ChangeSpec := { name := "fnNormalizers", fn := fun _ => fun
  | [d] => { results := [.lit (.bool true)], args := [d] }
  | _ => none }
def fnNormalizersRow : OpenClaim := { program := "ytdcobapnlpeaaaagreat", sum := "02e9f8efd62519445827735e0f089153ed478a177c7aea7fb6c93396a352cbdf", func := "loop.example/g01076/laws.FnNormalizers", spec := "fnNormalizers", unfollowed := true, recurses := true, apart := false }
def FnNormalizersSaid : Prop := fnNormalizersRow.holds Tryz.pinned (OpenSpec.ofChange fnNormalizersSpec)

/-- ITS FALSE NEIGHBOUR: 'it returns false'. Refute it at one input. -/
def fnNormalizersWrong : ChangeSpec := { name := "fnNormalizers", fn := fun _ => fun
  | [d] => { results := [.lit (.bool false)], args := [d] }
  | _ => none }
def FnNormalizersWrongFalsely : Prop := fnNormalizersRow.holds Tryz.pinned (OpenSpec.ofChange fnNormalizersWrong)

/-- 'laws.FnConjugators': WHATEVER THE INPUT: true; the input reads as it did. -/
def fnConjugatorsSpec : ChangeSpec := { name := "fnConjugators", fn := fun _ => fun
  | [d] => { results := [.lit (.bool true)], args := [d] }
  | _ => none }
def fnConjugatorsRow : OpenClaim := { program := "ytdcobapnlpeaaaagreat", sum := "02e9f8efd62519445827735e0f089153ed478a177c7aea7fb6c93396a352cbdf", func := "loop.example/g01076/laws.FnConjugators", spec := "fnConjugators", unfollowed := true, recurses := true, apart := false }
def FnConjugatorsSaid : Prop := fnConjugatorsRow.holds Tryz.pinned (OpenSpec.ofChange fnConjugatorsSpec)

/-- ITS FALSE NEIGHBOUR: 'it returns false'. Refute it at one input. -/
def fnConjugatorsWrong : ChangeSpec := { name := "fnConjugators", fn := fun _ => fun
  | [d] => { results := [.lit (.bool false)], args := [d] }
  | _ => none }
def FnConjugatorsWrongFalsely : Prop := fnConjugatorsRow.holds Tryz.pinned (OpenSpec.ofChange fnConjugatorsWrong)

/-- 'laws.FnSequences': WHATEVER THE INPUT: true; the input reads as it did. -/
def fnSequencesSpec : ChangeSpec := { name := "fnSequences", fn := fun _ => fun
  | [d] => { results := [.lit (.bool true)], args := [d] }
  | _ => none }
def fnSequencesRow : OpenClaim := { program := "ytdcobapnlpeaaaagreat", sum := "02e9f8efd62519445827735e0f089153ed478a177c7aea7fb6c93396a352cbdf", func := "loop.example/g01076/laws.FnSequences", spec := "fnSequences", unfollowed := true, recurses := true, apart := false }
def FnSequencesSaid : Prop := fnSequencesRow.holds Tryz.pinned (OpenSpec.ofChange fnSequencesSpec)

/-- ITS FALSE NEIGHBOUR: 'it returns false'. Refute it at one input. -/
def fnSequencesWrong : ChangeSpec := { name := "fnSequences", fn := fun _ => fun
  | [d] => { results := [.lit (.bool false)], args := [d] }
  | _ => none }
def FnSequencesWrongFalsely : Prop := fnSequencesRow.holds Tryz.pinned (OpenSpec.ofChange fnSequencesWrong)

/-- 'laws.FnClassEquation': WHATEVER THE INPUT: true; the input reads as it did. -/
def fnClassEquationSpec : ChangeSpec := { name := "fnClassEquation", fn := fun _ => fun
  | [d] => { results := [.lit (.bool true)], args := [d] }
  | _ => none }
def fnClassEquationRow : OpenClaim := { program := "ytdcobapnlpeaaaagreat", sum := "02e9f8efd62519445827735e0f089153ed478a177c7aea7fb6c93396a352cbdf", func := "loop.example/g01076/laws.FnClassEquation", spec := "fnClassEquation", unfollowed := true, recurses := true, apart := false }
def FnClassEquationSaid : Prop := fnClassEquationRow.holds Tryz.pinned (OpenSpec.ofChange fnClassEquationSpec)

/-- ITS FALSE NEIGHBOUR: 'it returns false'. Refute it at one input. -/
def fnClassEquationWrong : ChangeSpec := { name := "fnClassEquation", fn := fun _ => fun
  | [d] => { results := [.lit (.bool false)], args := [d] }
  | _ => none }
def FnClassEquationWrongFalsely : Prop := fnClassEquationRow.holds Tryz.pinned (OpenSpec.ofChange fnClassEquationWrong)

/-- 'laws.FnClosures': WHATEVER THE INPUT: true; the input reads as it did. -/
def fnClosuresSpec : ChangeSpec := { name := "fnClosures", fn := fun _ => fun
  | [d] => { results := [.lit (.bool true)], args := [d] }
  | _ => none }
def fnClosuresRow : OpenClaim := { program := "ytdcobapnlpeaaaagreat", sum := "02e9f8efd62519445827735e0f089153ed478a177c7aea7fb6c93396a352cbdf", func := "loop.example/g01076/laws.FnClosures", spec := "fnClosures", unfollowed := true, recurses := true, apart := false }
def FnClosuresSaid : Prop := fnClosuresRow.holds Tryz.pinned (OpenSpec.ofChange fnClosuresSpec)

/-- ITS FALSE NEIGHBOUR: 'it returns false'. Refute it at one input. -/
def fnClosuresWrong : ChangeSpec := { name := "fnClosures", fn := fun _ => fun
  | [d] => { results := [.lit (.bool false)], args := [d] }
  | _ => none }
def FnClosuresWrongFalsely : Prop := fnClosuresRow.holds Tryz.pinned (OpenSpec.ofChange fnClosuresWrong)

/-- 'laws.FnProductSets': WHATEVER THE INPUT: true; the input reads as it did. -/
def fnProductSetsSpec : ChangeSpec := { name := "fnProductSets", fn := fun _ => fun
  | [d] => { results := [.lit (.bool true)], args := [d] }
  | _ => none }
def fnProductSetsRow : OpenClaim := { program := "ytdcobapnlpeaaaagreat", sum := "02e9f8efd62519445827735e0f089153ed478a177c7aea7fb6c93396a352cbdf", func := "loop.example/g01076/laws.FnProductSets", spec := "fnProductSets", unfollowed := true, recurses := true, apart := false }
def FnProductSetsSaid : Prop := fnProductSetsRow.holds Tryz.pinned (OpenSpec.ofChange fnProductSetsSpec)

/-- ITS FALSE NEIGHBOUR: 'it returns false'. Refute it at one input. -/
def fnProductSetsWrong : ChangeSpec := { name := "fnProductSets", fn := fun _ => fun
  | [d] => { results := [.lit (.bool false)], args := [d] }
  | _ => none }
def FnProductSetsWrongFalsely : Prop := fnProductSetsRow.holds Tryz.pinned (OpenSpec.ofChange fnProductSetsWrong)

/-- 'laws.FnDoubleCosets': WHATEVER THE INPUT: true; the input reads as it did. -/
def fnDoubleCosetsSpec : ChangeSpec := { name := "fnDoubleCosets", fn := fun _ => fun
  | [d] => { results := [.lit (.bool true)], args := [d] }
  | _ => none }
def fnDoubleCosetsRow : OpenClaim := { program := "ytdcobapnlpeaaaagreat", sum := "02e9f8efd62519445827735e0f089153ed478a177c7aea7fb6c93396a352cbdf", func := "loop.example/g01076/laws.FnDoubleCosets", spec := "fnDoubleCosets", unfollowed := true, recurses := true, apart := false }
def FnDoubleCosetsSaid : Prop := fnDoubleCosetsRow.holds Tryz.pinned (OpenSpec.ofChange fnDoubleCosetsSpec)

/-- ITS FALSE NEIGHBOUR: 'it returns false'. Refute it at one input. -/
def fnDoubleCosetsWrong : ChangeSpec := { name := "fnDoubleCosets", fn := fun _ => fun
  | [d] => { results := [.lit (.bool false)], args := [d] }
  | _ => none }
def FnDoubleCosetsWrongFalsely : Prop := fnDoubleCosetsRow.holds Tryz.pinned (OpenSpec.ofChange fnDoubleCosetsWrong)

/-- 'laws.FnLattice': WHATEVER THE INPUT: true; the input reads as it did. -/
def fnLatticeSpec : ChangeSpec := { name := "fnLattice", fn := fun _ => fun
  | [d] => { results := [.lit (.bool true)], args := [d] }
  | _ => none }
def fnLatticeRow : OpenClaim := { program := "ytdcobapnlpeaaaagreat", sum := "02e9f8efd62519445827735e0f089153ed478a177c7aea7fb6c93396a352cbdf", func := "loop.example/g01076/laws.FnLattice", spec := "fnLattice", unfollowed := true, recurses := true, apart := false }
def FnLatticeSaid : Prop := fnLatticeRow.holds Tryz.pinned (OpenSpec.ofChange fnLatticeSpec)

/-- ITS FALSE NEIGHBOUR: 'it returns false'. Refute it at one input. -/
def fnLatticeWrong : ChangeSpec := { name := "fnLattice", fn := fun _ => fun
  | [d] => { results := [.lit (.bool false)], args := [d] }
  | _ => none }
def FnLatticeWrongFalsely : Prop := fnLatticeRow.holds Tryz.pinned (OpenSpec.ofChange fnLatticeWrong)

/-- 'laws.FnSylowSystems': WHATEVER THE INPUT: true; the input reads as it did. -/
def fnSylowSystemsSpec : ChangeSpec := { name := "fnSylowSystems", fn := fun _ => fun
  | [d] => { results := [.lit (.bool true)], args := [d] }
  | _ => none }
def fnSylowSystemsRow : OpenClaim := { program := "ytdcobapnlpeaaaagreat", sum := "02e9f8efd62519445827735e0f089153ed478a177c7aea7fb6c93396a352cbdf", func := "loop.example/g01076/laws.FnSylowSystems", spec := "fnSylowSystems", unfollowed := true, recurses := true, apart := false }
def FnSylowSystemsSaid : Prop := fnSylowSystemsRow.holds Tryz.pinned (OpenSpec.ofChange fnSylowSystemsSpec)

/-- ITS FALSE NEIGHBOUR: 'it returns false'. Refute it at one input. -/
def fnSylowSystemsWrong : ChangeSpec := { name := "fnSylowSystems", fn := fun _ => fun
  | [d] => { results := [.lit (.bool false)], args := [d] }
  | _ => none }
def FnSylowSystemsWrongFalsely : Prop := fnSylowSystemsRow.holds Tryz.pinned (OpenSpec.ofChange fnSylowSystemsWrong)

/- THE SECOND FORM. 'bulk': how many values and letters a reading holds, each counted each time it is reached (what is shared counts as often as it is met; a slice's spare places count too). A statement '..UptoSaid' is the law's where the arguments, and the package variables that the reading takes, are together of bulk at most 1048576: NARROWER than '..Said'. Prove '..Said' where nothing that the law and all that it calls make is longer than what came in: it says more and counts as full. Else prove '..UptoSaid'. A law counts once. -/
mutual
def uptoBulk {H : Type} : DataW H → Nat
  | .lit (.string bytes) => bytes.length + 1
  | .lit _ => 1
  | .nil => 1
  | .ptr d => uptoBulk d + 1
  | .slice elems spare => uptoBulkAll elems + uptoBulkAll spare + 1
  | .agg parts => uptoBulkAll parts + 1
  | .iface _ d => uptoBulk d + 1
  | .map entries => uptoBulkEntries entries + 1
  | .held _ => 1
def uptoBulkAll {H : Type} : List (DataW H) → Nat
  | [] => 0
  | d :: r => uptoBulk d + uptoBulkAll r
def uptoBulkEntries {H : Type} : List (Lit × DataW H) → Nat
  | [] => 0
  | x :: r => uptoBulkEntry x + uptoBulkEntries r
def uptoBulkEntry {H : Type} : Lit × DataW H → Nat
  | (.string bytes, d) => bytes.length + uptoBulk d + 1
  | (_, d) => uptoBulk d + 1
 end
def uptoSmall : (H : Type) → List (DataW H) → Bool := fun _ ds => decide (uptoBulkAll ds ≤ 1048576)
def OpenSpec.upto (s : _root_.Go.ChangeSpec) : _root_.Go.OpenSpec := { _root_.Go.OpenSpec.ofChange s with cond := some uptoSmall }

/-- 'laws.FnExponents', WHERE WHAT IT READS IS OF BULK AT MOST 1048576: true; the input reads as it did. -/
def fnExponentsUptoRow : OpenClaim := { program := "ytdcobapnlpeaaaagreat", sum := "02e9f8efd62519445827735e0f089153ed478a177c7aea7fb6c93396a352cbdf", func := "loop.example/g01076/laws.FnExponents", spec := "fnExponents", unfollowed := true, recurses := true, apart := false, narrowed := true }
def FnExponentsUptoSaid : Prop := fnExponentsUptoRow.holds Tryz.pinned (OpenSpec.upto fnExponentsSpec)

/-- 'laws.FnCosetForms', WHERE WHAT IT READS IS OF BULK AT MOST 1048576: true; the input reads as it did. -/
def fnCosetFormsUptoRow : OpenClaim := { program := "ytdcobapnlpeaaaagreat", sum := "02e9f8efd62519445827735e0f089153ed478a177c7aea7fb6c93396a352cbdf", func := "loop.example/g01076/laws.FnCosetForms", spec := "fnCosetForms", unfollowed := true, recurses := true, apart := false, narrowed := true }
def FnCosetFormsUptoSaid : Prop := fnCosetFormsUptoRow.holds Tryz.pinned (OpenSpec.upto fnCosetFormsSpec)

/-- 'laws.FnCommutatorSubgroups', WHERE WHAT IT READS IS OF BULK AT MOST 1048576: true; the input reads as it did. -/
def fnCommutatorSubgroupsUptoRow : OpenClaim := { program := "ytdcobapnlpeaaaagreat", sum := "02e9f8efd62519445827735e0f089153ed478a177c7aea7fb6c93396a352cbdf", func := "loop.example/g01076/laws.FnCommutatorSubgroups", spec := "fnCommutatorSubgroups", unfollowed := true, recurses := true, apart := false, narrowed := true }
def FnCommutatorSubgroupsUptoSaid : Prop := fnCommutatorSubgroupsUptoRow.holds Tryz.pinned (OpenSpec.upto fnCommutatorSubgroupsSpec)

/-- 'laws.FnNormalizers', WHERE WHAT IT READS IS OF BULK AT MOST 1048576: true; the input reads as it did. -/
def fnNormalizersUptoRow : OpenClaim := { program := "ytdcobapnlpeaaaagreat", sum := "02e9f8efd62519445827735e0f089153ed478a177c7aea7fb6c93396a352cbdf", func := "loop.example/g01076/laws.FnNormalizers", spec := "fnNormalizers", unfollowed := true, recurses := true, apart := false, narrowed := true }
def FnNormalizersUptoSaid : Prop := fnNormalizersUptoRow.holds Tryz.pinned (OpenSpec.upto fnNormalizersSpec)

/-- 'laws.FnConjugators', WHERE WHAT IT READS IS OF BULK AT MOST 1048576: true; the input reads as it did. -/
def fnConjugatorsUptoRow : OpenClaim := { program := "ytdcobapnlpeaaaagreat", sum := "02e9f8efd62519445827735e0f089153ed478a177c7aea7fb6c93396a352cbdf", func := "loop.example/g01076/laws.FnConjugators", spec := "fnConjugators", unfollowed := true, recurses := true, apart := false, narrowed := true }
def FnConjugatorsUptoSaid : Prop := fnConjugatorsUptoRow.holds Tryz.pinned (OpenSpec.upto fnConjugatorsSpec)

/-- 'laws.FnSequences', WHERE WHAT IT READS IS OF BULK AT MOST 1048576: true; the input reads as it did. -/
def fnSequencesUptoRow : OpenClaim := { program := "ytdcobapnlpeaaaagreat", sum := "02e9f8efd62519445827735e0f089153ed478a177c7aea7fb6c93396a352cbdf", func := "loop.example/g01076/laws.FnSequences", spec := "fnSequences", unfollowed := true, recurses := true, apart := false, narrowed := true }
def FnSequencesUptoSaid : Prop := fnSequencesUptoRow.holds Tryz.pinned (OpenSpec.upto fnSequencesSpec)

/-- 'laws.FnClassEquation', WHERE WHAT IT READS IS OF BULK AT MOST 1048576: true; the input reads as it did. -/
def fnClassEquationUptoRow : OpenClaim := { program := "ytdcobapnlpeaaaagreat", sum := "02e9f8efd62519445827735e0f089153ed478a177c7aea7fb6c93396a352cbdf", func := "loop.example/g01076/laws.FnClassEquation", spec := "fnClassEquation", unfollowed := true, recurses := true, apart := false, narrowed := true }
def FnClassEquationUptoSaid : Prop := fnClassEquationUptoRow.holds Tryz.pinned (OpenSpec.upto fnClassEquationSpec)

/-- 'laws.FnClosures', WHERE WHAT IT READS IS OF BULK AT MOST 1048576: true; the input reads as it did. -/
def fnClosuresUptoRow : OpenClaim := { program := "ytdcobapnlpeaaaagreat", sum := "02e9f8efd62519445827735e0f089153ed478a177c7aea7fb6c93396a352cbdf", func := "loop.example/g01076/laws.FnClosures", spec := "fnClosures", unfollowed := true, recurses := true, apart := false, narrowed := true }
def FnClosuresUptoSaid : Prop := fnClosuresUptoRow.holds Tryz.pinned (OpenSpec.upto fnClosuresSpec)

/-- 'laws.FnProductSets', WHERE WHAT IT READS IS OF BULK AT MOST 1048576: true; the input reads as it did. -/
def fnProductSetsUptoRow : OpenClaim := { program := "ytdcobapnlpeaaaagreat", sum := "02e9f8efd62519445827735e0f089153ed478a177c7aea7fb6c93396a352cbdf", func := "loop.example/g01076/laws.FnProductSets", spec := "fnProductSets", unfollowed := true, recurses := true, apart := false, narrowed := true }
def FnProductSetsUptoSaid : Prop := fnProductSetsUptoRow.holds Tryz.pinned (OpenSpec.upto fnProductSetsSpec)

/-- 'laws.FnDoubleCosets', WHERE WHAT IT READS IS OF BULK AT MOST 1048576: true; the input reads as it did. -/
def fnDoubleCosetsUptoRow : OpenClaim := { program := "ytdcobapnlpeaaaagreat", sum := "02e9f8efd62519445827735e0f089153ed478a177c7aea7fb6c93396a352cbdf", func := "loop.example/g01076/laws.FnDoubleCosets", spec := "fnDoubleCosets", unfollowed := true, recurses := true, apart := false, narrowed := true }
def FnDoubleCosetsUptoSaid : Prop := fnDoubleCosetsUptoRow.holds Tryz.pinned (OpenSpec.upto fnDoubleCosetsSpec)

/-- 'laws.FnLattice', WHERE WHAT IT READS IS OF BULK AT MOST 1048576: true; the input reads as it did. -/
def fnLatticeUptoRow : OpenClaim := { program := "ytdcobapnlpeaaaagreat", sum := "02e9f8efd62519445827735e0f089153ed478a177c7aea7fb6c93396a352cbdf", func := "loop.example/g01076/laws.FnLattice", spec := "fnLattice", unfollowed := true, recurses := true, apart := false, narrowed := true }
def FnLatticeUptoSaid : Prop := fnLatticeUptoRow.holds Tryz.pinned (OpenSpec.upto fnLatticeSpec)

/-- 'laws.FnSylowSystems', WHERE WHAT IT READS IS OF BULK AT MOST 1048576: true; the input reads as it did. -/
def fnSylowSystemsUptoRow : OpenClaim := { program := "ytdcobapnlpeaaaagreat", sum := "02e9f8efd62519445827735e0f089153ed478a177c7aea7fb6c93396a352cbdf", func := "loop.example/g01076/laws.FnSylowSystems", spec := "fnSylowSystems", unfollowed := true, recurses := true, apart := false, narrowed := true }
def FnSylowSystemsUptoSaid : Prop := fnSylowSystemsUptoRow.holds Tryz.pinned (OpenSpec.upto fnSylowSystemsSpec)

end Rows
end Go.Proofs.YtdcobapnlpeaaaaGreat
