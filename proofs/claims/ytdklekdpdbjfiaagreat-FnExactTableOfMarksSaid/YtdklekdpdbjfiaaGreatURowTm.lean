/-
  laws.FnExactTableOfMarks holds: whatever the arguments, the law answers true and the arguments read as they did. No condition. (Printed by gen_law.py.)
-/
import Derived.Test.YtdklekdpdbjfiaaGreatULawTm
import Derived.Test.YtdklekdpdbjfiaaGreatM9
namespace Go.Proofs.YtdklekdpdbjfiaaGreat.RowTm
open Go.RowKit Go.ChangeShapes Go.WideShapes Go.ChangeAt
theorem own : ownKnob Tryz.prog.godebug = none := by kernel_rfl
theorem laidOut : laidOutB Tryz.prog = true := by kernel_rfl
set_option maxRecDepth 100000 in
set_option maxHeartbeats 1000000 in
theorem lifted (os : Os) (started : os.Started) (H : Type) (enc : TypeId × Value → H) :
  ReturnsInHanded {} Tryz.checked os 14 .any (Rows.fnExactTableOfMarksSpec.pre6 enc Tryz.prog Tryz.f14 Rows.fnExactTableOfMarksRow.domain false) (Rows.fnExactTableOfMarksSpec.post enc Tryz.prog Tryz.f14 false true false false) := by
 refine returnsInHanded_of_change (C := Tryz.checked) (s := Rows.fnExactTableOfMarksSpec) own started (by kernel_rfl) Tryz.func14
  (ChangeSpec.witness6 (enc := enc) (C := Tryz.checked) (s := Rows.fnExactTableOfMarksSpec) false ⟨#[], #[.agg #[.slice none 0 0, .slice none 0 0, .slice none 0 0]], []⟩ 8 (by kernel_rfl) (by kernel_rfl) (by kernel_rfl) (by kernel_rfl) (by kernel_rfl)) ?_
 intro W base args ds gs before hval0 hW _ _
 have hval : ∀ (j : Nat) t v, Tryz.f14.params[j]? = some t → args[j]? = some v → Value.okWide Tryz.prog W .any base t v := hval0
 have hW' := hW
 obtain ⟨p, q, hA0, hV, rfl, _, _⟩ := hW
 have hA : DataW.TrodAll enc Tryz.prog W 0 (fun _ => true) true Tryz.f14.params.toList args.toList ds p := hA0
 rw [Tryz.params14] at hA hval
 obtain ⟨v0, vs0, d0, ds0, p0, q0, hargs, rfl, rfl, h0, r0⟩ := trodAll_cons hA
 obtain ⟨rfl, rfl, rfl⟩ := trodAll_nil r0
 obtain rfl : args = #[v0] := by cases args; simp_all
 obtain ⟨rfl, rfl⟩ := trodVars_none hV
 obtain ⟨P, hP⟩ := open_pres (hval 0 26 v0 rfl rfl) h0
 have hlt0 : ∀ x ∈ p0, x.block < W.heap.size := fun x hx => by simpa using hW'.lt x (by simp [hx])
 clear hA0
 simp only [List.append_nil] at hW'
 refine (lawTm_ok P  W v0  Any  hP ).mono fun e W' ⟨v, he, hg, hv⟩ => ?_
 subst he; subst hv
 have hb : Below W.heap.size W W' := hg.below
 have k0 := Below.trod laidOut (by kernel_rfl) (of_decide_eq_true (by kernel_rfl)) h0 hb hlt0
 exact ⟨_, rfl, [d0], [], p0, [], p0, [], hW', trodAll_mk1 (shut_bool Tryz.underlying4 _), trodAll_mk1 k0, rfl, hb.frame _, fun h => by cases h⟩
theorem named : Tryz.pinned.checked.prog.funcNamed Rows.fnExactTableOfMarksRow.func = some 14 := by kernel_rfl
theorem band {a b : Bool} (ha : a = true) (hb : b = true) : (a && b) = true := by rw [ha, hb]; rfl
theorem j0 : (Rows.fnExactTableOfMarksRow.wf (OpenSpec.ofChange Rows.fnExactTableOfMarksSpec)) = true := by kernel_rfl
theorem j1 : (laidOutB Tryz.pinned.checked.prog) = true := by kernel_rfl
theorem j2 : (mapsRowed Tryz.pinned.checked.prog) = true := by kernel_rfl
theorem j3 : (Tryz.f14.params.all (Tryz.pinned.checked.prog.readableRec ·)) = true := by kernel_rfl
theorem j4 : (namedTie Tryz.pinned.checked.prog Rows.fnExactTableOfMarksRow.named Rows.fnExactTableOfMarksSpec.vars) = true := by kernel_rfl
theorem j5 : ((Rows.fnExactTableOfMarksRow.stops == [])) = true := by kernel_rfl
theorem j6 : ((Tryz.pinned.checked.prog.stops == [])) = true := by kernel_rfl
theorem j7 : ((Rows.fnExactTableOfMarksRow.knobs == [])) = true := by kernel_rfl
theorem j8 : ((Tryz.pinned.checked.prog.stopKnobs == [])) = true := by kernel_rfl
theorem j9 : ((Rows.fnExactTableOfMarksRow.inPlace == Tryz.pinned.checked.prog.inPlace 14)) = true := by kernel_rfl
theorem j10 : ((Rows.fnExactTableOfMarksRow.unfollowed == Tryz.pinned.checked.prog.unfollowed 14)) = true := by kernel_rfl
theorem j11 : ((Rows.fnExactTableOfMarksRow.recurses == Tryz.pinned.checked.prog.recurses 14)) = true := by kernel_rfl
theorem j12 : ((Rows.fnExactTableOfMarksRow.named == Tryz.pinned.checked.prog.varsNamed 14)) = true := by kernel_rfl
theorem j13 : ((Rows.fnExactTableOfMarksRow.maps == (Tryz.f14.params.toList ++ Rows.fnExactTableOfMarksSpec.plain.varTypes Tryz.pinned.checked.prog).any (Tryz.pinned.checked.prog.mapsRec ·))) = true := by kernel_rfl
theorem j14 : ((Rows.fnExactTableOfMarksRow.ifaces == (Tryz.f14.params.toList ++ Rows.fnExactTableOfMarksSpec.plain.varTypes Tryz.pinned.checked.prog).any (Tryz.pinned.checked.prog.ifacesRec ·))) = true := by kernel_rfl
theorem j15 : ((Rows.fnExactTableOfMarksRow.mapsOut == Tryz.pinned.checked.prog.mapsAmong Tryz.f14.resultTypes.toList)) = true := by kernel_rfl
theorem j16 : ((Rows.fnExactTableOfMarksRow.loops == (Tryz.f14.params.toList ++ Rows.fnExactTableOfMarksSpec.plain.varTypes Tryz.pinned.checked.prog).any (Tryz.pinned.checked.prog.loopsFrom ·))) = true := by kernel_rfl
theorem j17 : ((Rows.fnExactTableOfMarksRow.wideKeys == (Tryz.f14.params.toList ++ Rows.fnExactTableOfMarksSpec.plain.varTypes Tryz.pinned.checked.prog ++ Tryz.f14.resultTypes.toList).any (Tryz.pinned.checked.prog.wideKeysFrom ·))) = true := by kernel_rfl
theorem j18 : (Rows.fnExactTableOfMarksSpec.vars.all (Tryz.pinned.checked.prog.varReadable ·)) = true := by kernel_rfl
theorem j19 : (Tryz.f14.resultTypes.all (fun t => Tryz.pinned.checked.prog.readableRec t && decide (t < Tryz.pinned.checked.prog.types.size))) = true := by kernel_rfl
theorem j20 : ((Rows.fnExactTableOfMarksRow.ifacesOut == Tryz.f14.resultTypes.toList.any (Tryz.pinned.checked.prog.ifacesRec ·))) = true := by kernel_rfl
theorem j21 : ((Rows.fnExactTableOfMarksRow.loopsOut == Tryz.f14.resultTypes.toList.any (Tryz.pinned.checked.prog.loopsFrom ·))) = true := by kernel_rfl
theorem j22 : ((Rows.fnExactTableOfMarksRow.plainKeys == Tryz.pinned.checked.prog.plainKeys)) = true := by kernel_rfl
theorem j23 : (Rows.fnExactTableOfMarksRow.shortTexts.isNone) = true := by kernel_rfl
theorem j24 : (Tryz.pinned.checked.prog.stopsHeard) = true := by kernel_rfl
theorem j25 : (Tryz.pinned.checked.prog.mayEnter) = true := by kernel_rfl
theorem j26 : ((Rows.fnExactTableOfMarksRow.lifted == Tryz.pinned.checked.prog.liftsFinal)) = true := by kernel_rfl
theorem j27 : ((Tryz.pinned.checked.prog.make == some Rows.fnExactTableOfMarksRow.make)) = true := by kernel_rfl
theorem j28 : ((Rows.fnExactTableOfMarksRow.kinds == (if Rows.fnExactTableOfMarksRow.domain.isEmpty then [] else Tryz.f14.params.toList.map fun t => match Tryz.pinned.checked.prog.underlying t with | some (.int k) => some k | _ => none))) = true := by kernel_rfl
theorem j29 : ((Rows.fnExactTableOfMarksRow.pinned == Rows.fnExactTableOfMarksRow.pinnedBy)) = true := by kernel_rfl
theorem j30 : ((Rows.fnExactTableOfMarksRow.veiled == (Tryz.f14.params.toList ++ Rows.fnExactTableOfMarksSpec.plain.varTypes Tryz.pinned.checked.prog ++ Tryz.f14.resultTypes.toList).any (Tryz.pinned.checked.prog.veiledRec ·))) = true := by kernel_rfl
theorem j31 : (Rows.fnExactTableOfMarksRow.veiledFits Tryz.pinned.checked.prog Tryz.f14.params.toList (Tryz.f14.params.toList ++ Rows.fnExactTableOfMarksSpec.plain.varTypes Tryz.pinned.checked.prog ++ Tryz.f14.resultTypes.toList)) = true := by kernel_rfl
set_option maxRecDepth 100000 in
theorem joined : joinedFacts Tryz.pinned.checked.prog 14 Tryz.f14 Rows.fnExactTableOfMarksSpec Rows.fnExactTableOfMarksRow = true := by
 unfold joinedFacts
 exact (band (band (band (band (band (band (band (band (band (band (band (band (band (band (band (band (band (band (band (band (band (band (band (band (band (band (band (band (band (band (band j0 j1) j2) j3) j4) j5) j6) j7) j8) j9) j10) j11) j12) j13) j14) j15) j16) j17) j18) j19) j20) j21) j22) j23) j24) j25) j26) j27) j28) j29) j30) j31)
theorem inst : Func.isInstance Tryz.pinned.checked.prog Tryz.f14 Rows.fnExactTableOfMarksRow.origin Rows.fnExactTableOfMarksRow.targs := of_decide_eq_true (by kernel_rfl)
theorem wrapper : Func.isWrapper Tryz.pinned.checked.prog Tryz.f14 Rows.fnExactTableOfMarksRow.wrapper Rows.fnExactTableOfMarksRow.mainSum := by unfold Func.isWrapper; first | (rw [if_pos (by decide +kernel)]; kernel_rfl) | (rw [if_neg (by decide +kernel)]; exact ⟨rfl, rfl⟩)
theorem proved : Rows.FnExactTableOfMarksSaid :=
 OpenClaim.holds_of_wide 14 Tryz.f14 rfl rfl rfl rfl rfl rfl rfl ⟨rfl, rfl, rfl, rfl, rfl⟩ rfl rfl rfl rfl rfl named Tryz.func14 joined inst wrapper
  (fun os started H enc _ => lifted os started H enc)
#print axioms proved
end Go.Proofs.YtdklekdpdbjfiaaGreat.RowTm
