/-
  laws.FnRealisations holds: whatever the bytes, the law answers true and the bytes read as they did. No condition. (Printed by gen_rowb.py.)
-/
import Derived.Test.YtmjkoejegfjbbaaGreatTRe2
import Derived.Laws.BitsAllLaws
import Derived.Sort.OwnSortedInts
import Derived.Deep.RegionHeld3
namespace Go.Proofs.YtmjkoejegfjbbaaGreat.RowReOf
open Go.RowKit Go.ChangeShapes Go.WideShapes Go.ChangeAt
set_option maxRecDepth 100000 in
set_option maxHeartbeats 1000000 in
theorem lifted (os : Os) (started : os.Started) (H : Type) (enc : TypeId × Value → H) :
  ReturnsInHanded {} Tryz.checked os 5 .any (Rows.fnRealisationsSpec.pre6 enc Tryz.prog Tryz.f5 Rows.fnRealisationsRow.domain false) (Rows.fnRealisationsSpec.post enc Tryz.prog Tryz.f5 false true false false) := by
 refine returnsInHanded_of_change (C := Tryz.checked) (s := Rows.fnRealisationsSpec) ownB started (by kernel_rfl) Tryz.func5
  (ChangeSpec.witness6 (enc := enc) (C := Tryz.checked) (s := Rows.fnRealisationsSpec) false ⟨#[], #[.slice none 0 0], []⟩ 8 (by kernel_rfl) (by kernel_rfl) (by kernel_rfl) (by kernel_rfl) (by kernel_rfl)) ?_
 intro W base args ds gs before hval0 hW _ _
 have hW' := hW
 obtain ⟨p, q, hA0, hV, rfl, _, _⟩ := hW
 have hA : DataW.TrodAll enc Tryz.prog W 0 (fun _ => true) true Tryz.f5.params.toList args.toList ds p := hA0
 rw [Tryz.params5] at hA
 obtain ⟨v0, vs0, d0, ds0, p0, q0, hargs, rfl, rfl, h0, r0⟩ := trodAll_cons hA
 obtain ⟨rfl, rfl, rfl⟩ := trodAll_nil r0
 obtain rfl : args = #[v0] := by cases args; simp_all
 obtain ⟨rfl, rfl⟩ := trodVars_none hV
 have hval : Value.okWide Tryz.prog W .any base 22 v0 := hval0 0 _ _ (by rw [Tryz.params5]; rfl) rfl
 obtain ⟨b0, n0, c0, rfl⟩ := okWide_slice und_bytesB hval
 obtain ⟨f0, hf0⟩ := h0
 obtain ⟨l, hP⟩ := open_bytes (c := .slice b0 n0 c0) hf0
 have hlt : ∀ x ∈ p0, x.block < W.heap.size := fun x hx => by simpa using hW'.lt x (by simpa using hx)
 clear hA0
 simp only [List.append_nil] at hW'
 refine (lawRe_ok W (.slice b0 n0 c0) l Any hP).mono fun e W' ⟨v, he, hg, hv⟩ => ?_
 subst he; subst hv
 have hb : Below W.heap.size W W' := hg.below
 have hargs2 := Below.trod laidOutP (by kernel_rfl) (of_decide_eq_true (by kernel_rfl)) ⟨f0, hf0⟩ hb hlt
 exact ⟨_, rfl, [d0], [], p0, [], p0, [], hW', trodAll_mk1 (shut_bool Tryz.underlying4 _), trodAll_mk1 hargs2, rfl, hb.frame _, fun h => by cases h⟩
theorem c0 : Rows.fnRealisationsRow.wf (OpenSpec.ofChange Rows.fnRealisationsSpec) = true := by kernel_rfl
theorem c1 : laidOutB Tryz.pinned.checked.prog = true := by kernel_rfl
theorem c2 : mapsRowed Tryz.pinned.checked.prog = true := by kernel_rfl
theorem c3 : Tryz.f5.params.all (Tryz.pinned.checked.prog.readableRec ·) = true := by kernel_rfl
theorem c4 : namedTie Tryz.pinned.checked.prog Rows.fnRealisationsRow.named Rows.fnRealisationsSpec.vars = true := by kernel_rfl
theorem c5 : (Rows.fnRealisationsRow.stops == []) = true := by kernel_rfl
theorem c6 : (Tryz.pinned.checked.prog.stops == []) = true := by kernel_rfl
theorem c7 : (Rows.fnRealisationsRow.knobs == []) = true := by kernel_rfl
theorem c8 : (Tryz.pinned.checked.prog.stopKnobs == []) = true := by kernel_rfl
theorem c9 : (Rows.fnRealisationsRow.inPlace == Tryz.pinned.checked.prog.inPlace 5) = true := by kernel_rfl
theorem c10 : (Rows.fnRealisationsRow.unfollowed == Tryz.pinned.checked.prog.unfollowed 5) = true := by kernel_rfl
theorem c11 : (Rows.fnRealisationsRow.recurses == Tryz.pinned.checked.prog.recurses 5) = true := by kernel_rfl
theorem c12 : (Rows.fnRealisationsRow.named == Tryz.pinned.checked.prog.varsNamed 5) = true := by kernel_rfl
theorem c13 : (Rows.fnRealisationsRow.maps == (Tryz.f5.params.toList ++ Rows.fnRealisationsSpec.plain.varTypes Tryz.pinned.checked.prog).any (Tryz.pinned.checked.prog.mapsRec ·)) = true := by kernel_rfl
theorem c14 : (Rows.fnRealisationsRow.ifaces == (Tryz.f5.params.toList ++ Rows.fnRealisationsSpec.plain.varTypes Tryz.pinned.checked.prog).any (Tryz.pinned.checked.prog.ifacesRec ·)) = true := by kernel_rfl
theorem c15 : (Rows.fnRealisationsRow.mapsOut == Tryz.pinned.checked.prog.mapsAmong Tryz.f5.resultTypes.toList) = true := by kernel_rfl
theorem c16 : (Rows.fnRealisationsRow.loops == (Tryz.f5.params.toList ++ Rows.fnRealisationsSpec.plain.varTypes Tryz.pinned.checked.prog).any (Tryz.pinned.checked.prog.loopsFrom ·)) = true := by kernel_rfl
theorem c17 : (Rows.fnRealisationsRow.wideKeys == (Tryz.f5.params.toList ++ Rows.fnRealisationsSpec.plain.varTypes Tryz.pinned.checked.prog ++ Tryz.f5.resultTypes.toList).any (Tryz.pinned.checked.prog.wideKeysFrom ·)) = true := by kernel_rfl
theorem c18 : Rows.fnRealisationsSpec.vars.all (Tryz.pinned.checked.prog.varReadable ·) = true := by kernel_rfl
theorem c19 : Tryz.f5.resultTypes.all (fun t => Tryz.pinned.checked.prog.readableRec t && decide (t < Tryz.pinned.checked.prog.types.size)) = true := by kernel_rfl
theorem c20 : (Rows.fnRealisationsRow.ifacesOut == Tryz.f5.resultTypes.toList.any (Tryz.pinned.checked.prog.ifacesRec ·)) = true := by kernel_rfl
theorem c21 : (Rows.fnRealisationsRow.loopsOut == Tryz.f5.resultTypes.toList.any (Tryz.pinned.checked.prog.loopsFrom ·)) = true := by kernel_rfl
theorem c22 : (Rows.fnRealisationsRow.plainKeys == Tryz.pinned.checked.prog.plainKeys) = true := by kernel_rfl
theorem c23 : Rows.fnRealisationsRow.shortTexts.isNone = true := by kernel_rfl
theorem c24 : Tryz.pinned.checked.prog.stopsHeard = true := by kernel_rfl
theorem c25 : Tryz.pinned.checked.prog.mayEnter = true := by kernel_rfl
theorem c26 : (Rows.fnRealisationsRow.lifted == Tryz.pinned.checked.prog.liftsFinal) = true := by kernel_rfl
theorem c27 : (Tryz.pinned.checked.prog.make == some Rows.fnRealisationsRow.make) = true := by kernel_rfl
theorem c28 : (Rows.fnRealisationsRow.kinds == (if Rows.fnRealisationsRow.domain.isEmpty then [] else Tryz.f5.params.toList.map fun t => match Tryz.pinned.checked.prog.underlying t with | some (.int k) => some k | _ => none)) = true := by kernel_rfl
theorem c29 : (Rows.fnRealisationsRow.pinned == Rows.fnRealisationsRow.pinnedBy) = true := by kernel_rfl
theorem c30 : (Rows.fnRealisationsRow.veiled == (Tryz.f5.params.toList ++ Rows.fnRealisationsSpec.plain.varTypes Tryz.pinned.checked.prog ++ Tryz.f5.resultTypes.toList).any (Tryz.pinned.checked.prog.veiledRec ·)) = true := by kernel_rfl
theorem c31 : Rows.fnRealisationsRow.veiledFits Tryz.pinned.checked.prog Tryz.f5.params.toList (Tryz.f5.params.toList ++ Rows.fnRealisationsSpec.plain.varTypes Tryz.pinned.checked.prog ++ Tryz.f5.resultTypes.toList) = true := by kernel_rfl
set_option maxRecDepth 1000000 in
theorem facts : joinedFacts Tryz.pinned.checked.prog 5 Tryz.f5 Rows.fnRealisationsSpec Rows.fnRealisationsRow = true :=
 Bool.and_eq_true_iff.2 ⟨Bool.and_eq_true_iff.2 ⟨Bool.and_eq_true_iff.2 ⟨Bool.and_eq_true_iff.2 ⟨Bool.and_eq_true_iff.2 ⟨Bool.and_eq_true_iff.2 ⟨Bool.and_eq_true_iff.2 ⟨Bool.and_eq_true_iff.2 ⟨Bool.and_eq_true_iff.2 ⟨Bool.and_eq_true_iff.2 ⟨Bool.and_eq_true_iff.2 ⟨Bool.and_eq_true_iff.2 ⟨Bool.and_eq_true_iff.2 ⟨Bool.and_eq_true_iff.2 ⟨Bool.and_eq_true_iff.2 ⟨Bool.and_eq_true_iff.2 ⟨Bool.and_eq_true_iff.2 ⟨Bool.and_eq_true_iff.2 ⟨Bool.and_eq_true_iff.2 ⟨Bool.and_eq_true_iff.2 ⟨Bool.and_eq_true_iff.2 ⟨Bool.and_eq_true_iff.2 ⟨Bool.and_eq_true_iff.2 ⟨Bool.and_eq_true_iff.2 ⟨Bool.and_eq_true_iff.2 ⟨Bool.and_eq_true_iff.2 ⟨Bool.and_eq_true_iff.2 ⟨Bool.and_eq_true_iff.2 ⟨Bool.and_eq_true_iff.2 ⟨Bool.and_eq_true_iff.2 ⟨Bool.and_eq_true_iff.2 ⟨c0, c1⟩, c2⟩, c3⟩, c4⟩, c5⟩, c6⟩, c7⟩, c8⟩, c9⟩, c10⟩, c11⟩, c12⟩, c13⟩, c14⟩, c15⟩, c16⟩, c17⟩, c18⟩, c19⟩, c20⟩, c21⟩, c22⟩, c23⟩, c24⟩, c25⟩, c26⟩, c27⟩, c28⟩, c29⟩, c30⟩, c31⟩
theorem proved : Rows.FnRealisationsSaid :=
 OpenClaim.holds_of_wide 5 Tryz.f5 rfl rfl rfl rfl rfl rfl rfl ⟨rfl, rfl, rfl, rfl, rfl⟩ rfl rfl rfl rfl rfl (by kernel_rfl) Tryz.func5 facts
  (of_decide_eq_true (by kernel_rfl)) (by unfold Func.isWrapper; first | (rw [if_pos (by decide +kernel)]; kernel_rfl) | (rw [if_neg (by decide +kernel)]; exact ⟨rfl, rfl⟩))
  (fun os started H enc _ => lifted os started H enc)
#print axioms proved
end Go.Proofs.YtmjkoejegfjbbaaGreat.RowReOf
