/-
  laws.FnSequences holds: whatever the bytes, the law answers true and the bytes read as they did. No condition. (Printed by gen_rowb.py.)
-/
import Derived.Test.YtdcobapnlpeaaaaGreatTSq1
import Derived.Laws.BitsAllLaws
import Derived.Maps.OwnSet
import Derived.Maps.StringElems
import Derived.StringKeys
namespace Go.Proofs.YtdcobapnlpeaaaaGreat.RowSqOf
open Go.RowKit Go.ChangeShapes Go.WideShapes Go.ChangeAt
set_option maxRecDepth 100000 in
set_option maxHeartbeats 1000000 in
theorem lifted (os : Os) (started : os.Started) (H : Type) (enc : TypeId × Value → H) :
  ReturnsInHanded {} Tryz.checked os 8 .any (Rows.fnSequencesSpec.pre6 enc Tryz.prog Tryz.f8 Rows.fnSequencesRow.domain false) (Rows.fnSequencesSpec.post enc Tryz.prog Tryz.f8 false true false false) := by
 refine returnsInHanded_of_change (C := Tryz.checked) (s := Rows.fnSequencesSpec) ownB started (by kernel_rfl) Tryz.func8
  (ChangeSpec.witness6 (enc := enc) (C := Tryz.checked) (s := Rows.fnSequencesSpec) false ⟨#[], #[.slice none 0 0], []⟩ 8 (by kernel_rfl) (by kernel_rfl) (by kernel_rfl) (by kernel_rfl) (by kernel_rfl)) ?_
 intro W base args ds gs before hval0 hW _ _
 have hW' := hW
 obtain ⟨p, q, hA0, hV, rfl, _, _⟩ := hW
 have hA : DataW.TrodAll enc Tryz.prog W 0 (fun _ => true) true Tryz.f8.params.toList args.toList ds p := hA0
 rw [Tryz.params8] at hA
 obtain ⟨v0, vs0, d0, ds0, p0, q0, hargs, rfl, rfl, h0, r0⟩ := trodAll_cons hA
 obtain ⟨rfl, rfl, rfl⟩ := trodAll_nil r0
 obtain rfl : args = #[v0] := by cases args; simp_all
 obtain ⟨rfl, rfl⟩ := trodVars_none hV
 have hval : Value.okWide Tryz.prog W .any base 22 v0 := hval0 0 _ _ (by rw [Tryz.params8]; rfl) rfl
 obtain ⟨b0, n0, c0, rfl⟩ := okWide_slice und_bytesB hval
 obtain ⟨f0, hf0⟩ := h0
 obtain ⟨l, hP⟩ := open_bytes (c := .slice b0 n0 c0) hf0
 have hlt : ∀ x ∈ p0, x.block < W.heap.size := fun x hx => by simpa using hW'.lt x (by simpa using hx)
 clear hA0
 simp only [List.append_nil] at hW'
 refine (lawSq_ok W (.slice b0 n0 c0) l Any hP).mono fun e W' ⟨v, he, hg, hv⟩ => ?_
 subst he; subst hv
 have hb : Below W.heap.size W W' := hg.below
 have hargs2 := Below.trod laidOutP (by kernel_rfl) (of_decide_eq_true (by kernel_rfl)) ⟨f0, hf0⟩ hb hlt
 exact ⟨_, rfl, [d0], [], p0, [], p0, [], hW', trodAll_mk1 (shut_bool Tryz.underlying4 _), trodAll_mk1 hargs2, rfl, hb.frame _, fun h => by cases h⟩
theorem c0 : Rows.fnSequencesRow.wf (OpenSpec.ofChange Rows.fnSequencesSpec) = true := by kernel_rfl
theorem c1 : laidOutB Tryz.pinned.checked.prog = true := by kernel_rfl
theorem c2 : mapsRowed Tryz.pinned.checked.prog = true := by kernel_rfl
theorem c3 : Tryz.f8.params.all (Tryz.pinned.checked.prog.readableRec ·) = true := by kernel_rfl
theorem c4 : namedTie Tryz.pinned.checked.prog Rows.fnSequencesRow.named Rows.fnSequencesSpec.vars = true := by kernel_rfl
theorem c5 : (Rows.fnSequencesRow.stops == []) = true := by kernel_rfl
theorem c6 : (Tryz.pinned.checked.prog.stops == []) = true := by kernel_rfl
theorem c7 : (Rows.fnSequencesRow.knobs == []) = true := by kernel_rfl
theorem c8 : (Tryz.pinned.checked.prog.stopKnobs == []) = true := by kernel_rfl
theorem c9 : (Rows.fnSequencesRow.inPlace == Tryz.pinned.checked.prog.inPlace 8) = true := by kernel_rfl
theorem c10 : (Rows.fnSequencesRow.unfollowed == Tryz.pinned.checked.prog.unfollowed 8) = true := by kernel_rfl
theorem c11 : (Rows.fnSequencesRow.recurses == Tryz.pinned.checked.prog.recurses 8) = true := by kernel_rfl
theorem c12 : (Rows.fnSequencesRow.named == Tryz.pinned.checked.prog.varsNamed 8) = true := by kernel_rfl
theorem c13 : (Rows.fnSequencesRow.maps == (Tryz.f8.params.toList ++ Rows.fnSequencesSpec.plain.varTypes Tryz.pinned.checked.prog).any (Tryz.pinned.checked.prog.mapsRec ·)) = true := by kernel_rfl
theorem c14 : (Rows.fnSequencesRow.ifaces == (Tryz.f8.params.toList ++ Rows.fnSequencesSpec.plain.varTypes Tryz.pinned.checked.prog).any (Tryz.pinned.checked.prog.ifacesRec ·)) = true := by kernel_rfl
theorem c15 : (Rows.fnSequencesRow.mapsOut == Tryz.pinned.checked.prog.mapsAmong Tryz.f8.resultTypes.toList) = true := by kernel_rfl
theorem c16 : (Rows.fnSequencesRow.loops == (Tryz.f8.params.toList ++ Rows.fnSequencesSpec.plain.varTypes Tryz.pinned.checked.prog).any (Tryz.pinned.checked.prog.loopsFrom ·)) = true := by kernel_rfl
theorem c17 : (Rows.fnSequencesRow.wideKeys == (Tryz.f8.params.toList ++ Rows.fnSequencesSpec.plain.varTypes Tryz.pinned.checked.prog ++ Tryz.f8.resultTypes.toList).any (Tryz.pinned.checked.prog.wideKeysFrom ·)) = true := by kernel_rfl
theorem c18 : Rows.fnSequencesSpec.vars.all (Tryz.pinned.checked.prog.varReadable ·) = true := by kernel_rfl
theorem c19 : Tryz.f8.resultTypes.all (fun t => Tryz.pinned.checked.prog.readableRec t && decide (t < Tryz.pinned.checked.prog.types.size)) = true := by kernel_rfl
theorem c20 : (Rows.fnSequencesRow.ifacesOut == Tryz.f8.resultTypes.toList.any (Tryz.pinned.checked.prog.ifacesRec ·)) = true := by kernel_rfl
theorem c21 : (Rows.fnSequencesRow.loopsOut == Tryz.f8.resultTypes.toList.any (Tryz.pinned.checked.prog.loopsFrom ·)) = true := by kernel_rfl
theorem c22 : (Rows.fnSequencesRow.plainKeys == Tryz.pinned.checked.prog.plainKeys) = true := by kernel_rfl
theorem c23 : Rows.fnSequencesRow.shortTexts.isNone = true := by kernel_rfl
theorem c24 : Tryz.pinned.checked.prog.stopsHeard = true := by kernel_rfl
theorem c25 : Tryz.pinned.checked.prog.mayEnter = true := by kernel_rfl
theorem c26 : (Rows.fnSequencesRow.lifted == Tryz.pinned.checked.prog.liftsFinal) = true := by kernel_rfl
theorem c27 : (Tryz.pinned.checked.prog.make == some Rows.fnSequencesRow.make) = true := by kernel_rfl
theorem c28 : (Rows.fnSequencesRow.kinds == (if Rows.fnSequencesRow.domain.isEmpty then [] else Tryz.f8.params.toList.map fun t => match Tryz.pinned.checked.prog.underlying t with | some (.int k) => some k | _ => none)) = true := by kernel_rfl
theorem c29 : (Rows.fnSequencesRow.pinned == Rows.fnSequencesRow.pinnedBy) = true := by kernel_rfl
theorem c30 : (Rows.fnSequencesRow.veiled == (Tryz.f8.params.toList ++ Rows.fnSequencesSpec.plain.varTypes Tryz.pinned.checked.prog ++ Tryz.f8.resultTypes.toList).any (Tryz.pinned.checked.prog.veiledRec ·)) = true := by kernel_rfl
theorem c31 : Rows.fnSequencesRow.veiledFits Tryz.pinned.checked.prog Tryz.f8.params.toList (Tryz.f8.params.toList ++ Rows.fnSequencesSpec.plain.varTypes Tryz.pinned.checked.prog ++ Tryz.f8.resultTypes.toList) = true := by kernel_rfl
set_option maxRecDepth 1000000 in
theorem facts : joinedFacts Tryz.pinned.checked.prog 8 Tryz.f8 Rows.fnSequencesSpec Rows.fnSequencesRow = true :=
 Bool.and_eq_true_iff.2 ⟨Bool.and_eq_true_iff.2 ⟨Bool.and_eq_true_iff.2 ⟨Bool.and_eq_true_iff.2 ⟨Bool.and_eq_true_iff.2 ⟨Bool.and_eq_true_iff.2 ⟨Bool.and_eq_true_iff.2 ⟨Bool.and_eq_true_iff.2 ⟨Bool.and_eq_true_iff.2 ⟨Bool.and_eq_true_iff.2 ⟨Bool.and_eq_true_iff.2 ⟨Bool.and_eq_true_iff.2 ⟨Bool.and_eq_true_iff.2 ⟨Bool.and_eq_true_iff.2 ⟨Bool.and_eq_true_iff.2 ⟨Bool.and_eq_true_iff.2 ⟨Bool.and_eq_true_iff.2 ⟨Bool.and_eq_true_iff.2 ⟨Bool.and_eq_true_iff.2 ⟨Bool.and_eq_true_iff.2 ⟨Bool.and_eq_true_iff.2 ⟨Bool.and_eq_true_iff.2 ⟨Bool.and_eq_true_iff.2 ⟨Bool.and_eq_true_iff.2 ⟨Bool.and_eq_true_iff.2 ⟨Bool.and_eq_true_iff.2 ⟨Bool.and_eq_true_iff.2 ⟨Bool.and_eq_true_iff.2 ⟨Bool.and_eq_true_iff.2 ⟨Bool.and_eq_true_iff.2 ⟨Bool.and_eq_true_iff.2 ⟨c0, c1⟩, c2⟩, c3⟩, c4⟩, c5⟩, c6⟩, c7⟩, c8⟩, c9⟩, c10⟩, c11⟩, c12⟩, c13⟩, c14⟩, c15⟩, c16⟩, c17⟩, c18⟩, c19⟩, c20⟩, c21⟩, c22⟩, c23⟩, c24⟩, c25⟩, c26⟩, c27⟩, c28⟩, c29⟩, c30⟩, c31⟩
theorem proved : Rows.FnSequencesSaid :=
 OpenClaim.holds_of_wide 8 Tryz.f8 rfl rfl rfl rfl rfl rfl rfl ⟨rfl, rfl, rfl, rfl, rfl⟩ rfl rfl rfl rfl rfl (by kernel_rfl) Tryz.func8 facts
  (of_decide_eq_true (by kernel_rfl)) (by unfold Func.isWrapper; first | (rw [if_pos (by decide +kernel)]; kernel_rfl) | (rw [if_neg (by decide +kernel)]; exact ⟨rfl, rfl⟩))
  (fun os started H enc _ => lifted os started H enc)
#print axioms proved
end Go.Proofs.YtdcobapnlpeaaaaGreat.RowSqOf
