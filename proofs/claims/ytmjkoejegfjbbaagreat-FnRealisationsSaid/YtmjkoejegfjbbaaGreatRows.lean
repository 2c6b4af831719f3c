/-
  No cell of these rows narrows 'for every input' (looked for: loops, veiled, ifaces, maps, wideKeys, modest, calm, conditions, laid).
  DERIVED. THE GIVEN ROWS OF THIS SEAT. 11 by the template 'for every input the law returns true; each argument reads behind the call as it read before'; 0 by the template 'total and deterministic' (their statements: YtmjkoejegfjbbaaGreatTotals.lean).
  GIVEN WITH THE SEED: the statements are not yours to turn. If you find one false, say at which input.
  Laid BY PROGRAM, IN A SANDBOX (cutbox-rows.mjs): the forced cells as the released guide's own fill.sh prints them over the translation 3318d74364e7995e… (all of the seat's roots in one cut). By AI agents, Wed Nov 11 2026. No macro, syntax, notation, axiom, sorry.
-/
import Derived.Test.YtmjkoejegfjbbaaGreatChecked
import GoSem.Claim
import GoSem.ClaimJoined
import GoSem.ClaimMapViews
import Derived.JoinedTies
import Derived.KernelRfl
namespace Go.Proofs.YtmjkoejegfjbbaaGreat
/- THE CELL 'sum', in the pinned program and in every row, IS THE sha256 OF THE DUMP (.gsa) THAT YtmjkoejegfjbbaaGreatProg.lean LOADS. Nothing in Lean hashes anything: it is a label: what it is worth is what the hold of that sum in a sandbox is worth. -/
noncomputable def Tryz.pinned : Pinned := { name := "ytmjkoejegfjbbaagreat", sum := "3318d74364e7995ef7cbf1b5456fbb27e601ae4fcfbcffc02a62ddc090759b4c", checked := Tryz.checked }
namespace Rows
def none {H : Type} : Left H := { results := [], args := [] }

/-- 'laws.FnSubspaceLattice': WHATEVER THE INPUT: true; the input reads as it did. -/
def fnSubspaceLatticeSpec : ChangeSpec := { name := "fnSubspaceLattice", fn := fun _ => fun
  | [d] => { results := [.lit (.bool true)], args := [d] }
  | _ => none }
def fnSubspaceLatticeRow : OpenClaim := { program := "ytmjkoejegfjbbaagreat", sum := "3318d74364e7995ef7cbf1b5456fbb27e601ae4fcfbcffc02a62ddc090759b4c", func := "loop.example/g01076/laws.FnSubspaceLattice", spec := "fnSubspaceLattice", unfollowed := true, recurses := true, apart := false }
def FnSubspaceLatticeSaid : Prop := fnSubspaceLatticeRow.holds Tryz.pinned (OpenSpec.ofChange fnSubspaceLatticeSpec)

/-- ITS FALSE NEIGHBOUR: 'it returns false'. Refute it at one input. -/
def fnSubspaceLatticeWrong : ChangeSpec := { name := "fnSubspaceLattice", fn := fun _ => fun
  | [d] => { results := [.lit (.bool false)], args := [d] }
  | _ => none }
def FnSubspaceLatticeWrongFalsely : Prop := fnSubspaceLatticeRow.holds Tryz.pinned (OpenSpec.ofChange fnSubspaceLatticeWrong)

/-- 'laws.FnCollected': WHATEVER THE INPUT: true; the input reads as it did. -/
def fnCollectedSpec : ChangeSpec := { name := "fnCollected", fn := fun _ => fun
  | [d] => { results := [.lit (.bool true)], args := [d] }
  | _ => none }
def fnCollectedRow : OpenClaim := { program := "ytmjkoejegfjbbaagreat", sum := "3318d74364e7995ef7cbf1b5456fbb27e601ae4fcfbcffc02a62ddc090759b4c", func := "loop.example/g01076/laws.FnCollected", spec := "fnCollected", recurses := true, apart := false }
def FnCollectedSaid : Prop := fnCollectedRow.holds Tryz.pinned (OpenSpec.ofChange fnCollectedSpec)

/-- ITS FALSE NEIGHBOUR: 'it returns false'. Refute it at one input. -/
def fnCollectedWrong : ChangeSpec := { name := "fnCollected", fn := fun _ => fun
  | [d] => { results := [.lit (.bool false)], args := [d] }
  | _ => none }
def FnCollectedWrongFalsely : Prop := fnCollectedRow.holds Tryz.pinned (OpenSpec.ofChange fnCollectedWrong)

/-- 'laws.FnRealisations': WHATEVER THE INPUT: true; the input reads as it did. -/
def fnRealisationsSpec : ChangeSpec := { name := "fnRealisations", fn := fun _ => fun
  | [d] => { results := [.lit (.bool true)], args := [d] }
  | _ => none }
def fnRealisationsRow : OpenClaim := { program := "ytmjkoejegfjbbaagreat", sum := "3318d74364e7995ef7cbf1b5456fbb27e601ae4fcfbcffc02a62ddc090759b4c", func := "loop.example/g01076/laws.FnRealisations", spec := "fnRealisations", recurses := true, apart := false }
def FnRealisationsSaid : Prop := fnRealisationsRow.holds Tryz.pinned (OpenSpec.ofChange fnRealisationsSpec)

/-- ITS FALSE NEIGHBOUR: 'it returns false'. Refute it at one input. -/
def fnRealisationsWrong : ChangeSpec := { name := "fnRealisations", fn := fun _ => fun
  | [d] => { results := [.lit (.bool false)], args := [d] }
  | _ => none }
def FnRealisationsWrongFalsely : Prop := fnRealisationsRow.holds Tryz.pinned (OpenSpec.ofChange fnRealisationsWrong)

/-- 'laws.FnRealised': WHATEVER THE INPUT: true; the input reads as it did. -/
def fnRealisedSpec : ChangeSpec := { name := "fnRealised", fn := fun _ => fun
  | [d] => { results := [.lit (.bool true)], args := [d] }
  | _ => none }
def fnRealisedRow : OpenClaim := { program := "ytmjkoejegfjbbaagreat", sum := "3318d74364e7995ef7cbf1b5456fbb27e601ae4fcfbcffc02a62ddc090759b4c", func := "loop.example/g01076/laws.FnRealised", spec := "fnRealised", recurses := true, apart := false }
def FnRealisedSaid : Prop := fnRealisedRow.holds Tryz.pinned (OpenSpec.ofChange fnRealisedSpec)

/-- ITS FALSE NEIGHBOUR: 'it returns false'. Refute it at one input. -/
def fnRealisedWrong : ChangeSpec := { name := "fnRealised", fn := fun _ => fun
  | [d] => { results := [.lit (.bool false)], args := [d] }
  | _ => none }
def FnRealisedWrongFalsely : Prop := fnRealisedRow.holds Tryz.pinned (OpenSpec.ofChange fnRealisedWrong)

/-- 'laws.FnHeads': WHATEVER THE INPUT: true; the input reads as it did. -/
def fnHeadsSpec : ChangeSpec := { name := "fnHeads", fn := fun _ => fun
  | [d] => { results := [.lit (.bool true)], args := [d] }
  | _ => none }
def fnHeadsRow : OpenClaim := { program := "ytmjkoejegfjbbaagreat", sum := "3318d74364e7995ef7cbf1b5456fbb27e601ae4fcfbcffc02a62ddc090759b4c", func := "loop.example/g01076/laws.FnHeads", spec := "fnHeads", unfollowed := true, recurses := true, apart := false }
def FnHeadsSaid : Prop := fnHeadsRow.holds Tryz.pinned (OpenSpec.ofChange fnHeadsSpec)

/-- ITS FALSE NEIGHBOUR: 'it returns false'. Refute it at one input. -/
def fnHeadsWrong : ChangeSpec := { name := "fnHeads", fn := fun _ => fun
  | [d] => { results := [.lit (.bool false)], args := [d] }
  | _ => none }
def FnHeadsWrongFalsely : Prop := fnHeadsRow.holds Tryz.pinned (OpenSpec.ofChange fnHeadsWrong)

/-- 'laws.FnSeries': WHATEVER THE INPUT: true; the input reads as it did. -/
def fnSeriesSpec : ChangeSpec := { name := "fnSeries", fn := fun _ => fun
  | [d] => { results := [.lit (.bool true)], args := [d] }
  | _ => none }
def fnSeriesRow : OpenClaim := { program := "ytmjkoejegfjbbaagreat", sum := "3318d74364e7995ef7cbf1b5456fbb27e601ae4fcfbcffc02a62ddc090759b4c", func := "loop.example/g01076/laws.FnSeries", spec := "fnSeries", unfollowed := true, recurses := true, apart := false }
def FnSeriesSaid : Prop := fnSeriesRow.holds Tryz.pinned (OpenSpec.ofChange fnSeriesSpec)

/-- ITS FALSE NEIGHBOUR: 'it returns false'. Refute it at one input. -/
def fnSeriesWrong : ChangeSpec := { name := "fnSeries", fn := fun _ => fun
  | [d] => { results := [.lit (.bool false)], args := [d] }
  | _ => none }
def FnSeriesWrongFalsely : Prop := fnSeriesRow.holds Tryz.pinned (OpenSpec.ofChange fnSeriesWrong)

/-- 'laws.FnExactPrimaryInvariants': WHATEVER THE INPUT: true; the input reads as it did. -/
def fnExactPrimaryInvariantsSpec : ChangeSpec := { name := "fnExactPrimaryInvariants", fn := fun _ => fun
  | [d] => { results := [.lit (.bool true)], args := [d] }
  | _ => none }
def fnExactPrimaryInvariantsRow : OpenClaim := { program := "ytmjkoejegfjbbaagreat", sum := "3318d74364e7995ef7cbf1b5456fbb27e601ae4fcfbcffc02a62ddc090759b4c", func := "loop.example/g01076/laws.FnExactPrimaryInvariants", spec := "fnExactPrimaryInvariants", unfollowed := true, recurses := true, apart := false }
def FnExactPrimaryInvariantsSaid : Prop := fnExactPrimaryInvariantsRow.holds Tryz.pinned (OpenSpec.ofChange fnExactPrimaryInvariantsSpec)

/-- ITS FALSE NEIGHBOUR: 'it returns false'. Refute it at one input. -/
def fnExactPrimaryInvariantsWrong : ChangeSpec := { name := "fnExactPrimaryInvariants", fn := fun _ => fun
  | [d] => { results := [.lit (.bool false)], args := [d] }
  | _ => none }
def FnExactPrimaryInvariantsWrongFalsely : Prop := fnExactPrimaryInvariantsRow.holds Tryz.pinned (OpenSpec.ofChange fnExactPrimaryInvariantsWrong)

/-- 'laws.FnCosetActions': WHATEVER THE INPUT: true; the input reads as it did. -/
def fnCosetActionsSpec : ChangeSpec := { name := "fnCosetActions", fn := fun _ => fun
  | [d] => { results := [.lit (.bool true)], args := [d] }
  | _ => none }
def fnCosetActionsRow : OpenClaim := { program := "ytmjkoejegfjbbaagreat", sum := "3318d74364e7995ef7cbf1b5456fbb27e601ae4fcfbcffc02a62ddc090759b4c", func := "loop.example/g01076/laws.FnCosetActions", spec := "fnCosetActions", unfollowed := true, recurses := true, apart := false }
def FnCosetActionsSaid : Prop := fnCosetActionsRow.holds Tryz.pinned (OpenSpec.ofChange fnCosetActionsSpec)

/-- ITS FALSE NEIGHBOUR: 'it returns false'. Refute it at one input. -/
def fnCosetActionsWrong : ChangeSpec := { name := "fnCosetActions", fn := fun _ => fun
  | [d] => { results := [.lit (.bool false)], args := [d] }
  | _ => none }
def FnCosetActionsWrongFalsely : Prop := fnCosetActionsRow.holds Tryz.pinned (OpenSpec.ofChange fnCosetActionsWrong)

/-- 'laws.FnDirectProducts': WHATEVER THE INPUT: true; the input reads as it did. -/
def fnDirectProductsSpec : ChangeSpec := { name := "fnDirectProducts", fn := fun _ => fun
  | [d] => { results := [.lit (.bool true)], args := [d] }
  | _ => none }
def fnDirectProductsRow : OpenClaim := { program := "ytmjkoejegfjbbaagreat", sum := "3318d74364e7995ef7cbf1b5456fbb27e601ae4fcfbcffc02a62ddc090759b4c", func := "loop.example/g01076/laws.FnDirectProducts", spec := "fnDirectProducts", unfollowed := true, recurses := true, apart := false }
def FnDirectProductsSaid : Prop := fnDirectProductsRow.holds Tryz.pinned (OpenSpec.ofChange fnDirectProductsSpec)

/-- ITS FALSE NEIGHBOUR: 'it returns false'. Refute it at one input. -/
def fnDirectProductsWrong : ChangeSpec := { name := "fnDirectProducts", fn := fun _ => fun
  | [d] => { results := [.lit (.bool false)], args := [d] }
  | _ => none }
def FnDirectProductsWrongFalsely : Prop := fnDirectProductsRow.holds Tryz.pinned (OpenSpec.ofChange fnDirectProductsWrong)

/-- 'laws.FnQuotients': WHATEVER THE INPUT: true; the input reads as it did. -/
def fnQuotientsSpec : ChangeSpec := { name := "fnQuotients", fn := fun _ => fun
  | [d] => { results := [.lit (.bool true)], args := [d] }
  | _ => none }
def fnQuotientsRow : OpenClaim := { program := "ytmjkoejegfjbbaagreat", sum := "3318d74364e7995ef7cbf1b5456fbb27e601ae4fcfbcffc02a62ddc090759b4c", func := "loop.example/g01076/laws.FnQuotients", spec := "fnQuotients", unfollowed := true, recurses := true, apart := false }
def FnQuotientsSaid : Prop := fnQuotientsRow.holds Tryz.pinned (OpenSpec.ofChange fnQuotientsSpec)

/-- ITS FALSE NEIGHBOUR: 'it returns false'. Refute it at one input. -/
def fnQuotientsWrong : ChangeSpec := { name := "fnQuotients", fn := fun _ => fun
  | [d] => { results := [.lit (.bool false)], args := [d] }
  | _ => none }
def FnQuotientsWrongFalsely : Prop := fnQuotientsRow.holds Tryz.pinned (OpenSpec.ofChange fnQuotientsWrong)

/-- 'laws.FnHoms': WHATEVER THE INPUT: true; the input reads as it did. -/
def fnHomsSpec : ChangeSpec := { name := "fnHoms", fn := fun _ => fun
  | [d] => { results := [.lit (.bool true)], args := [d] }
  | _ => none }
def fnHomsRow : OpenClaim := { program := "ytmjkoejegfjbbaagreat", sum := "3318d74364e7995ef7cbf1b5456fbb27e601ae4fcfbcffc02a62ddc090759b4c", func := "loop.example/g01076/laws.FnHoms", spec := "fnHoms", unfollowed := true, recurses := true, apart := false }
def FnHomsSaid : Prop := fnHomsRow.holds Tryz.pinned (OpenSpec.ofChange fnHomsSpec)

/-- ITS FALSE NEIGHBOUR: 'it returns false'. Refute it at one input. -/
def fnHomsWrong : ChangeSpec := { name := "fnHoms", fn := fun _ => fun
  | [d] => { results := [.lit (.bool false)], args := [d] }
  | _ => none }
def FnHomsWrongFalsely : Prop := fnHomsRow.holds Tryz.pinned (OpenSpec.ofChange fnHomsWrong)

/- THE SECOND FORM. 'bulk': how many values and letters a reading holds, each counted each time it is reached (what is shared counts as often as it is met; a slice's spare places count too). A statement '..UptoSaid' is the law's where the arguments, and the package variables that the reading takes, are together of bulk at most 1048576: NARROWER than '..Said'. Prove '..Said' where nothing that the law and all that it calls make is longer than what came in: it says more and counts as full. Else prove '..UptoSaid'. A law counts once. -/
mutual
def uptoBulk {H : Type} : DataW H → Nat
  | .lit (.string bytes) => bytes.length + 1
  | .lit _ => 1
  | .nil => 1
  | .ptr d => uptoBulk d + 1
  | .slice elems spare => uptoBulkAll elems + uptoBulkAll spare + 1
  | .agg parts => uptoBulkAll parts + 1
  | .iface _ d => uptoBulk d + 1
  | .map entries => uptoBulkEntries entries + 1
  | .held _ => 1
def uptoBulkAll {H : Type} : List (DataW H) → Nat
  | [] => 0
  | d :: r => uptoBulk d + uptoBulkAll r
def uptoBulkEntries {H : Type} : List (Lit × DataW H) → Nat
  | [] => 0
  | x :: r => uptoBulkEntry x + uptoBulkEntries r
def uptoBulkEntry {H : Type} : Lit × DataW H → Nat
  | (.string bytes, d) => bytes.length + uptoBulk d + 1
  | (_, d) => uptoBulk d + 1
 end
def uptoSmall : (H : Type) → List (DataW H) → Bool := fun _ ds => decide (uptoBulkAll ds ≤ 1048576)
def OpenSpec.upto (s : _root_.Go.ChangeSpec) : _root_.Go.OpenSpec := { _root_.Go.OpenSpec.ofChange s with cond := some uptoSmall }

/-- 'laws.FnSubspaceLattice', WHERE WHAT IT READS IS OF BULK AT MOST 1048576: true; the input reads as it did. -/
def fnSubspaceLatticeUptoRow : OpenClaim := { program := "ytmjkoejegfjbbaagreat", sum := "3318d74364e7995ef7cbf1b5456fbb27e601ae4fcfbcffc02a62ddc090759b4c", func := "loop.example/g01076/laws.FnSubspaceLattice", spec := "fnSubspaceLattice", unfollowed := true, recurses := true, apart := false, narrowed := true }
def FnSubspaceLatticeUptoSaid : Prop := fnSubspaceLatticeUptoRow.holds Tryz.pinned (OpenSpec.upto fnSubspaceLatticeSpec)

/-- 'laws.FnCollected', WHERE WHAT IT READS IS OF BULK AT MOST 1048576: true; the input reads as it did. -/
def fnCollectedUptoRow : OpenClaim := { program := "ytmjkoejegfjbbaagreat", sum := "3318d74364e7995ef7cbf1b5456fbb27e601ae4fcfbcffc02a62ddc090759b4c", func := "loop.example/g01076/laws.FnCollected", spec := "fnCollected", recurses := true, apart := false, narrowed := true }
def FnCollectedUptoSaid : Prop := fnCollectedUptoRow.holds Tryz.pinned (OpenSpec.upto fnCollectedSpec)

/-- 'laws.FnRealisations', WHERE WHAT IT READS IS OF BULK AT MOST 1048576: true; the input reads as it did. -/
def fnRealisationsUptoRow : OpenClaim := { program := "ytmjkoejegfjbbaagreat", sum := "3318d74364e7995ef7cbf1b5456fbb27e601ae4fcfbcffc02a62ddc090759b4c", func := "loop.example/g01076/laws.FnRealisations", spec := "fnRealisations", recurses := true, apart := false, narrowed := true }
def FnRealisationsUptoSaid : Prop := fnRealisationsUptoRow.holds Tryz.pinned (OpenSpec.upto fnRealisationsSpec)

/-- 'laws.FnRealised', WHERE WHAT IT READS IS OF BULK AT MOST 1048576: true; the input reads as it did. -/
def fnRealisedUptoRow : OpenClaim := { program := "ytmjkoejegfjbbaagreat", sum := "3318d74364e7995ef7cbf1b5456fbb27e601ae4fcfbcffc02a62ddc090759b4c", func := "loop.example/g01076/laws.FnRealised", spec := "fnRealised", recurses := true, apart := false, narrowed := true }
def FnRealisedUptoSaid : Prop := fnRealisedUptoRow.holds Tryz.pinned (OpenSpec.upto fnRealisedSpec)

/-- 'laws.FnHeads', WHERE WHAT IT READS IS OF BULK AT MOST 1048576: true; the input reads as it did. -/
def fnHeadsUptoRow : OpenClaim := { program := "ytmjkoejegfjbbaagreat", sum := "3318d74364e7995ef7cbf1b5456fbb27e601ae4fcfbcffc02a62ddc090759b4c", func := "loop.example/g01076/laws.FnHeads", spec := "fnHeads", unfollowed := true, recurses := true, apart := false, narrowed := true }
def FnHeadsUptoSaid : Prop := fnHeadsUptoRow.holds Tryz.pinned (OpenSpec.upto fnHeadsSpec)

/-- 'laws.FnSeries', WHERE WHAT IT READS IS OF BULK AT MOST 1048576: true; the input reads as it did. -/
def fnSeriesUptoRow : OpenClaim := { program := "ytmjkoejegfjbbaagreat", sum := "3318d74364e7995ef7cbf1b5456fbb27e601ae4fcfbcffc02a62ddc090759b4c", func := "loop.example/g01076/laws.FnSeries", spec := "fnSeries", unfollowed := true, recurses := true, apart := false, narrowed := true }
def FnSeriesUptoSaid : Prop := fnSeriesUptoRow.holds Tryz.pinned (OpenSpec.upto fnSeriesSpec)

/-- 'laws.FnExactPrimaryInvariants', WHERE WHAT IT READS IS OF BULK AT MOST 1048576: true; the input reads as it did. -/
def fnExactPrimaryInvariantsUptoRow : OpenClaim := { program := "ytmjkoejegfjbbaagreat", sum := "3318d74364e7995ef7cbf1b5456fbb27e601ae4fcfbcffc02a62ddc090759b4c", func := "loop.example/g01076/laws.FnExactPrimaryInvariants", spec := "fnExactPrimaryInvariants", unfollowed := true, recurses := true, apart := false, narrowed := true }
def FnExactPrimaryInvariantsUptoSaid : Prop := fnExactPrimaryInvariantsUptoRow.holds Tryz.pinned (OpenSpec.upto fnExactPrimaryInvariantsSpec)

/-- 'laws.FnCosetActions', WHERE WHAT IT READS IS OF BULK AT MOST 1048576: true; the input reads as it did. -/
def fnCosetActionsUptoRow : OpenClaim := { program := "ytmjkoejegfjbbaagreat", sum := "3318d74364e7995ef7cbf1b5456fbb27e601ae4fcfbcffc02a62ddc090759b4c", func := "loop.example/g01076/laws.FnCosetActions", spec := "fnCosetActions", unfollowed := true, recurses := true, apart := false, narrowed := true }
def FnCosetActionsUptoSaid : Prop := fnCosetActionsUptoRow.holds Tryz.pinned (OpenSpec.upto fnCosetActionsSpec)

/-- 'laws.FnDirectProducts', WHERE WHAT IT READS IS OF BULK AT MOST 1048576: true; the input reads as it did. -/
def fnDirectProductsUptoRow : OpenClaim := { program := "ytmjkoejegfjbbaagreat", sum := "3318d74364e7995ef7cbf1b5456fbb27e601ae4fcfbcffc02a62ddc090759b4c", func := "loop.example/g01076/laws.FnDirectProducts", spec := "fnDirectProducts", unfollowed := true, recurses := true, apart := false, narrowed := true }
def FnDirectProductsUptoSaid : Prop := fnDirectProductsUptoRow.holds Tryz.pinned (OpenSpec.upto fnDirectProductsSpec)

/-- 'laws.FnQuotients', WHERE WHAT IT READS IS OF BULK AT MOST 1048576: true; the input reads as it did. -/
def fnQuotientsUptoRow : OpenClaim := { program := "ytmjkoejegfjbbaagreat", sum := "3318d74364e7995ef7cbf1b5456fbb27e601ae4fcfbcffc02a62ddc090759b4c", func := "loop.example/g01076/laws.FnQuotients", spec := "fnQuotients", unfollowed := true, recurses := true, apart := false, narrowed := true }
def FnQuotientsUptoSaid : Prop := fnQuotientsUptoRow.holds Tryz.pinned (OpenSpec.upto fnQuotientsSpec)

/-- 'laws.FnHoms', WHERE WHAT IT READS IS OF BULK AT MOST 1048576: true; the input reads as it did. -/
def fnHomsUptoRow : OpenClaim := { program := "ytmjkoejegfjbbaagreat", sum := "3318d74364e7995ef7cbf1b5456fbb27e601ae4fcfbcffc02a62ddc090759b4c", func := "loop.example/g01076/laws.FnHoms", spec := "fnHoms", unfollowed := true, recurses := true, apart := false, narrowed := true }
def FnHomsUptoSaid : Prop := fnHomsUptoRow.holds Tryz.pinned (OpenSpec.upto fnHomsSpec)

end Rows
end Go.Proofs.YtmjkoejegfjbbaaGreat
