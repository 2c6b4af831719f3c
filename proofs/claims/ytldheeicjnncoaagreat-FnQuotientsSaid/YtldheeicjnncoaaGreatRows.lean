/-
  No cell of these rows narrows 'for every input' (looked for: loops, veiled, ifaces, maps, wideKeys, modest, calm, conditions, laid).
  DERIVED. THE GIVEN ROWS OF THIS SEAT. 8 by the template 'for every input the law returns true; each argument reads behind the call as it read before'; 0 by the template 'total and deterministic' (their statements: YtldheeicjnncoaaGreatTotals.lean).
  GIVEN WITH THE SEED: the statements are not yours to turn. If you find one false, say at which input.
  Laid BY PROGRAM, IN A SANDBOX (cutbox-rows.mjs): the forced cells as the released guide's own fill.sh prints them over the translation 64bbfb42fd9c1cc4… (all of the seat's roots in one cut). By AI agents, Wed Nov 11 2026. No macro, syntax, notation, axiom, sorry.
-/
import Derived.Test.YtldheeicjnncoaaGreatChecked
import GoSem.Claim
import GoSem.ClaimJoined
import GoSem.ClaimMapViews
import Derived.JoinedTies
import Derived.KernelRfl
namespace Go.Proofs.YtldheeicjnncoaaGreat
/- THE CELL 'sum', in the pinned program and in every row, IS THE sha256 OF THE DUMP (.gsa) THAT YtldheeicjnncoaaGreatProg.lean LOADS. Nothing in Lean hashes anything: it is a label: what it is worth is what the hold of that sum in a sandbox is worth. -/
noncomputable def Tryz.pinned : Pinned := { name := "ytldheeicjnncoaagreat", sum := "64bbfb42fd9c1cc48b27bb32e1898d01419477fbd838b1ae458ea61838f6795d", checked := Tryz.checked }
namespace Rows
def none {H : Type} : Left H := { results := [], args := [] }

/-- 'laws.FnHeads': WHATEVER THE INPUT: true; the input reads as it did. -/
def fnHeadsSpec : ChangeSpec := { name := "fnHeads", fn := fun _ => fun
  | [d] => { results := [.lit (.bool true)], args := [d] }
  | _ => none }
def fnHeadsRow : OpenClaim := { program := "ytldheeicjnncoaagreat", sum := "64bbfb42fd9c1cc48b27bb32e1898d01419477fbd838b1ae458ea61838f6795d", func := "loop.example/g01076/laws.FnHeads", spec := "fnHeads", unfollowed := true, recurses := true, apart := false }
def FnHeadsSaid : Prop := fnHeadsRow.holds Tryz.pinned (OpenSpec.ofChange fnHeadsSpec)

/-- ITS FALSE NEIGHBOUR: 'it returns false'. Refute it at one input. -/
def fnHeadsWrong : ChangeSpec := { name := "fnHeads", fn := fun _ => fun
  | [d] => { results := [.lit (.bool false)], args := [d] }
  | _ => none }
def FnHeadsWrongFalsely : Prop := fnHeadsRow.holds Tryz.pinned (OpenSpec.ofChange fnHeadsWrong)

/-- 'laws.FnFrattini': WHATEVER THE INPUT: true; the input reads as it did. -/
def fnFrattiniSpec : ChangeSpec := { name := "fnFrattini", fn := fun _ => fun
  | [d] => { results := [.lit (.bool true)], args := [d] }
  | _ => none }
def fnFrattiniRow : OpenClaim := { program := "ytldheeicjnncoaagreat", sum := "64bbfb42fd9c1cc48b27bb32e1898d01419477fbd838b1ae458ea61838f6795d", func := "loop.example/g01076/laws.FnFrattini", spec := "fnFrattini", unfollowed := true, recurses := true, apart := false }
def FnFrattiniSaid : Prop := fnFrattiniRow.holds Tryz.pinned (OpenSpec.ofChange fnFrattiniSpec)

/-- ITS FALSE NEIGHBOUR: 'it returns false'. Refute it at one input. -/
def fnFrattiniWrong : ChangeSpec := { name := "fnFrattini", fn := fun _ => fun
  | [d] => { results := [.lit (.bool false)], args := [d] }
  | _ => none }
def FnFrattiniWrongFalsely : Prop := fnFrattiniRow.holds Tryz.pinned (OpenSpec.ofChange fnFrattiniWrong)

/-- 'laws.FnHallComplements': WHATEVER THE INPUT: true; the input reads as it did. -/
def fnHallComplementsSpec : ChangeSpec := { name := "fnHallComplements", fn := fun _ => fun
  | [d] => { results := [.lit (.bool true)], args := [d] }
  | _ => none }
def fnHallComplementsRow : OpenClaim := { program := "ytldheeicjnncoaagreat", sum := "64bbfb42fd9c1cc48b27bb32e1898d01419477fbd838b1ae458ea61838f6795d", func := "loop.example/g01076/laws.FnHallComplements", spec := "fnHallComplements", unfollowed := true, recurses := true, apart := false }
def FnHallComplementsSaid : Prop := fnHallComplementsRow.holds Tryz.pinned (OpenSpec.ofChange fnHallComplementsSpec)

/-- ITS FALSE NEIGHBOUR: 'it returns false'. Refute it at one input. -/
def fnHallComplementsWrong : ChangeSpec := { name := "fnHallComplements", fn := fun _ => fun
  | [d] => { results := [.lit (.bool false)], args := [d] }
  | _ => none }
def FnHallComplementsWrongFalsely : Prop := fnHallComplementsRow.holds Tryz.pinned (OpenSpec.ofChange fnHallComplementsWrong)

/-- 'laws.FnSeries': WHATEVER THE INPUT: true; the input reads as it did. -/
def fnSeriesSpec : ChangeSpec := { name := "fnSeries", fn := fun _ => fun
  | [d] => { results := [.lit (.bool true)], args := [d] }
  | _ => none }
def fnSeriesRow : OpenClaim := { program := "ytldheeicjnncoaagreat", sum := "64bbfb42fd9c1cc48b27bb32e1898d01419477fbd838b1ae458ea61838f6795d", func := "loop.example/g01076/laws.FnSeries", spec := "fnSeries", unfollowed := true, recurses := true, apart := false }
def FnSeriesSaid : Prop := fnSeriesRow.holds Tryz.pinned (OpenSpec.ofChange fnSeriesSpec)

/-- ITS FALSE NEIGHBOUR: 'it returns false'. Refute it at one input. -/
def fnSeriesWrong : ChangeSpec := { name := "fnSeries", fn := fun _ => fun
  | [d] => { results := [.lit (.bool false)], args := [d] }
  | _ => none }
def FnSeriesWrongFalsely : Prop := fnSeriesRow.holds Tryz.pinned (OpenSpec.ofChange fnSeriesWrong)

/-- 'laws.FnQuotients': WHATEVER THE INPUT: true; the input reads as it did. -/
def fnQuotientsSpec : ChangeSpec := { name := "fnQuotients", fn := fun _ => fun
  | [d] => { results := [.lit (.bool true)], args := [d] }
  | _ => none }
def fnQuotientsRow : OpenClaim := { program := "ytldheeicjnncoaagreat", sum := "64bbfb42fd9c1cc48b27bb32e1898d01419477fbd838b1ae458ea61838f6795d", func := "loop.example/g01076/laws.FnQuotients", spec := "fnQuotients", unfollowed := true, recurses := true, apart := false }
def FnQuotientsSaid : Prop := fnQuotientsRow.holds Tryz.pinned (OpenSpec.ofChange fnQuotientsSpec)

/-- ITS FALSE NEIGHBOUR: 'it returns false'. Refute it at one input. -/
def fnQuotientsWrong : ChangeSpec := { name := "fnQuotients", fn := fun _ => fun
  | [d] => { results := [.lit (.bool false)], args := [d] }
  | _ => none }
def FnQuotientsWrongFalsely : Prop := fnQuotientsRow.holds Tryz.pinned (OpenSpec.ofChange fnQuotientsWrong)

/-- 'laws.FnHoms': WHATEVER THE INPUT: true; the input reads as it did. -/
def fnHomsSpec : ChangeSpec := { name := "fnHoms", fn := fun _ => fun
  | [d] => { results := [.lit (.bool true)], args := [d] }
  | _ => none }
def fnHomsRow : OpenClaim := { program := "ytldheeicjnncoaagreat", sum := "64bbfb42fd9c1cc48b27bb32e1898d01419477fbd838b1ae458ea61838f6795d", func := "loop.example/g01076/laws.FnHoms", spec := "fnHoms", unfollowed := true, recurses := true, apart := false }
def FnHomsSaid : Prop := fnHomsRow.holds Tryz.pinned (OpenSpec.ofChange fnHomsSpec)

/-- ITS FALSE NEIGHBOUR: 'it returns false'. Refute it at one input. -/
def fnHomsWrong : ChangeSpec := { name := "fnHoms", fn := fun _ => fun
  | [d] => { results := [.lit (.bool false)], args := [d] }
  | _ => none }
def FnHomsWrongFalsely : Prop := fnHomsRow.holds Tryz.pinned (OpenSpec.ofChange fnHomsWrong)

/-- 'laws.FnIsomorphismTheorem': WHATEVER THE INPUT: true; the input reads as it did. -/
def fnIsomorphismTheoremSpec : ChangeSpec := { name := "fnIsomorphismTheorem", fn := fun _ => fun
  | [d] => { results := [.lit (.bool true)], args := [d] }
  | _ => none }
def fnIsomorphismTheoremRow : OpenClaim := { program := "ytldheeicjnncoaagreat", sum := "64bbfb42fd9c1cc48b27bb32e1898d01419477fbd838b1ae458ea61838f6795d", func := "loop.example/g01076/laws.FnIsomorphismTheorem", spec := "fnIsomorphismTheorem", unfollowed := true, recurses := true, apart := false }
def FnIsomorphismTheoremSaid : Prop := fnIsomorphismTheoremRow.holds Tryz.pinned (OpenSpec.ofChange fnIsomorphismTheoremSpec)

/-- ITS FALSE NEIGHBOUR: 'it returns false'. Refute it at one input. -/
def fnIsomorphismTheoremWrong : ChangeSpec := { name := "fnIsomorphismTheorem", fn := fun _ => fun
  | [d] => { results := [.lit (.bool false)], args := [d] }
  | _ => none }
def FnIsomorphismTheoremWrongFalsely : Prop := fnIsomorphismTheoremRow.holds Tryz.pinned (OpenSpec.ofChange fnIsomorphismTheoremWrong)

/-- 'laws.FnFitting': WHATEVER THE INPUT: true; the input reads as it did. -/
def fnFittingSpec : ChangeSpec := { name := "fnFitting", fn := fun _ => fun
  | [d] => { results := [.lit (.bool true)], args := [d] }
  | _ => none }
def fnFittingRow : OpenClaim := { program := "ytldheeicjnncoaagreat", sum := "64bbfb42fd9c1cc48b27bb32e1898d01419477fbd838b1ae458ea61838f6795d", func := "loop.example/g01076/laws.FnFitting", spec := "fnFitting", unfollowed := true, recurses := true, apart := false }
def FnFittingSaid : Prop := fnFittingRow.holds Tryz.pinned (OpenSpec.ofChange fnFittingSpec)

/-- ITS FALSE NEIGHBOUR: 'it returns false'. Refute it at one input. -/
def fnFittingWrong : ChangeSpec := { name := "fnFitting", fn := fun _ => fun
  | [d] => { results := [.lit (.bool false)], args := [d] }
  | _ => none }
def FnFittingWrongFalsely : Prop := fnFittingRow.holds Tryz.pinned (OpenSpec.ofChange fnFittingWrong)

/- THE SECOND FORM. 'bulk': how many values and letters a reading holds, each counted each time it is reached (what is shared counts as often as it is met; a slice's spare places count too). A statement '..UptoSaid' is the law's where the arguments, and the package variables that the reading takes, are together of bulk at most 1048576: NARROWER than '..Said'. Prove '..Said' where nothing that the law and all that it calls make is longer than what came in: it says more and counts as full. Else prove '..UptoSaid'. A law counts once. -/
mutual
def uptoBulk {H : Type} : DataW H → Nat
  | .lit (.string bytes) => bytes.length + 1
  | .lit _ => 1
  | .nil => 1
  | .ptr d => uptoBulk d + 1
  | .slice elems spare => uptoBulkAll elems + uptoBulkAll spare + 1
  | .agg parts => uptoBulkAll parts + 1
  | .iface _ d => uptoBulk d + 1
  | .map entries => uptoBulkEntries entries + 1
  | .held _ => 1
def uptoBulkAll {H : Type} : List (DataW H) → Nat
  | [] => 0
  | d :: r => uptoBulk d + uptoBulkAll r
def uptoBulkEntries {H : Type} : List (Lit × DataW H) → Nat
  | [] => 0
  | x :: r => uptoBulkEntry x + uptoBulkEntries r
def uptoBulkEntry {H : Type} : Lit × DataW H → Nat
  | (.string bytes, d) => bytes.length + uptoBulk d + 1
  | (_, d) => uptoBulk d + 1
 end
def uptoSmall : (H : Type) → List (DataW H) → Bool := fun _ ds => decide (uptoBulkAll ds ≤ 1048576)
def OpenSpec.upto (s : _root_.Go.ChangeSpec) : _root_.Go.OpenSpec := { _root_.Go.OpenSpec.ofChange s with cond := some uptoSmall }

/-- 'laws.FnHeads', WHERE WHAT IT READS IS OF BULK AT MOST 1048576: true; the input reads as it did. -/
def fnHeadsUptoRow : OpenClaim := { program := "ytldheeicjnncoaagreat", sum := "64bbfb42fd9c1cc48b27bb32e1898d01419477fbd838b1ae458ea61838f6795d", func := "loop.example/g01076/laws.FnHeads", spec := "fnHeads", unfollowed := true, recurses := true, apart := false, narrowed := true }
def FnHeadsUptoSaid : Prop := fnHeadsUptoRow.holds Tryz.pinned (OpenSpec.upto fnHeadsSpec)

/-- 'laws.FnFrattini', WHERE WHAT IT READS IS OF BULK AT MOST 1048576: true; the input reads as it did. -/
def fnFrattiniUptoRow : OpenClaim := { program := "ytldheeicjnncoaagreat", sum := "64bbfb42fd9c1cc48b27bb32e1898d01419477fbd838b1ae458ea61838f6795d", func := "loop.example/g01076/laws.FnFrattini", spec := "fnFrattini", unfollowed := true, recurses := true, apart := false, narrowed := true }
def FnFrattiniUptoSaid : Prop := fnFrattiniUptoRow.holds Tryz.pinned (OpenSpec.upto fnFrattiniSpec)

/-- 'laws.FnHallComplements', WHERE WHAT IT READS IS OF BULK AT MOST 1048576: true; the input reads as it did. -/
def fnHallComplementsUptoRow : OpenClaim := { program := "ytldheeicjnncoaagreat", sum := "64bbfb42fd9c1cc48b27bb32e1898d01419477fbd838b1ae458ea61838f6795d", func := "loop.example/g01076/laws.FnHallComplements", spec := "fnHallComplements", unfollowed := true, recurses := true, apart := false, narrowed := true }
def FnHallComplementsUptoSaid : Prop := fnHallComplementsUptoRow.holds Tryz.pinned (OpenSpec.upto fnHallComplementsSpec)

/-- 'laws.FnSeries', WHERE WHAT IT READS IS OF BULK AT MOST 1048576: true; the input reads as it did. -/
def fnSeriesUptoRow : OpenClaim := { program := "ytldheeicjnncoaagreat", sum := "64bbfb42fd9c1cc48b27bb32e1898d01419477fbd838b1ae458ea61838f6795d", func := "loop.example/g01076/laws.FnSeries", spec := "fnSeries", unfollowed := true, recurses := true, apart := false, narrowed := true }
def FnSeriesUptoSaid : Prop := fnSeriesUptoRow.holds Tryz.pinned (OpenSpec.upto fnSeriesSpec)

/-- 'laws.FnQuotients', WHERE WHAT IT READS IS OF BULK AT MOST 1048576: true; the input reads as it did. -/
def fnQuotientsUptoRow : OpenClaim := { program := "ytldheeicjnncoaagreat", sum := "64bbfb42fd9c1cc48b27bb32e1898d01419477fbd838b1ae458ea61838f6795d", func := "loop.example/g01076/laws.FnQuotients", spec := "fnQuotients", unfollowed := true, recurses := true, apart := false, narrowed := true }
def FnQuotientsUptoSaid : Prop := fnQuotientsUptoRow.holds Tryz.pinned (OpenSpec.upto fnQuotientsSpec)

/-- 'laws.FnHoms', WHERE WHAT IT READS IS OF BULK AT MOST 1048576: true; the input reads as it did. -/
def fnHomsUptoRow : OpenClaim := { program := "ytldheeicjnncoaagreat", sum := "64bbfb42fd9c1cc48b27bb32e1898d01419477fbd838b1ae458ea61838f6795d", func := "loop.example/g01076/laws.FnHoms", spec := "fnHoms", unfollowed := true, recurses := true, apart := false, narrowed := true }
def FnHomsUptoSaid : Prop := fnHomsUptoRow.holds Tryz.pinned (OpenSpec.upto fnHomsSpec)

/-- 'laws.FnIsomorphismTheorem', WHERE WHAT IT READS IS OF BULK AT MOST 1048576: true; the input reads as it did. -/
def fnIsomorphismTheoremUptoRow : OpenClaim := { program := "ytldheeicjnncoaagreat", sum := "64bbfb42fd9c1cc48b27bb32e1898d01419477fbd838b1ae458ea61838f6795d", func := "loop.example/g01076/laws.FnIsomorphismTheorem", spec := "fnIsomorphismTheorem", unfollowed := true, recurses := true, apart := false, narrowed := true }
def FnIsomorphismTheoremUptoSaid : Prop := fnIsomorphismTheoremUptoRow.holds Tryz.pinned (OpenSpec.upto fnIsomorphismTheoremSpec)

/-- 'laws.FnFitting', WHERE WHAT IT READS IS OF BULK AT MOST 1048576: true; the input reads as it did. -/
def fnFittingUptoRow : OpenClaim := { program := "ytldheeicjnncoaagreat", sum := "64bbfb42fd9c1cc48b27bb32e1898d01419477fbd838b1ae458ea61838f6795d", func := "loop.example/g01076/laws.FnFitting", spec := "fnFitting", unfollowed := true, recurses := true, apart := false, narrowed := true }
def FnFittingUptoSaid : Prop := fnFittingUptoRow.holds Tryz.pinned (OpenSpec.upto fnFittingSpec)

end Rows
end Go.Proofs.YtldheeicjnncoaaGreat
