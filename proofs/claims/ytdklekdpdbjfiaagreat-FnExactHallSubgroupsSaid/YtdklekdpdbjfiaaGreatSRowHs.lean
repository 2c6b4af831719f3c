/-
  laws.FnExactHallSubgroups holds: whatever the arguments, the law answers true and the arguments read as they did. No condition. (Printed by gen_law.py.)
-/
import Derived.Test.YtdklekdpdbjfiaaGreatSLawHs
import Derived.Test.YtdklekdpdbjfiaaGreatK9
namespace Go.Proofs.YtdklekdpdbjfiaaGreat.RowHs
open Go.RowKit Go.ChangeShapes Go.WideShapes Go.ChangeAt

theorem own : ownKnob Tryz.prog.godebug = none := by kernel_rfl
theorem laidOut : laidOutB Tryz.prog = true := by kernel_rfl

set_option maxRecDepth 100000 in
set_option maxHeartbeats 1000000 in
theorem lifted (os : Os) (started : os.Started) (H : Type) (enc : TypeId × Value → H) :
    ReturnsInHanded {} Tryz.checked os 6 .any (Rows.fnExactHallSubgroupsSpec.pre6 enc Tryz.prog Tryz.f6 Rows.fnExactHallSubgroupsRow.domain false) (Rows.fnExactHallSubgroupsSpec.post enc Tryz.prog Tryz.f6 false true false false) := by
  refine returnsInHanded_of_change (C := Tryz.checked) (s := Rows.fnExactHallSubgroupsSpec) own started (by kernel_rfl) Tryz.func6
    (ChangeSpec.witness6 (enc := enc) (C := Tryz.checked) (s := Rows.fnExactHallSubgroupsSpec) false ⟨#[], #[.agg #[.slice none 0 0, .slice none 0 0, .slice none 0 0], .slice none 0 0], []⟩ 8 (by kernel_rfl) (by kernel_rfl) (by kernel_rfl) (by kernel_rfl) (by kernel_rfl)) ?_
  intro W base args ds gs before hval0 hW _ _
  have hval : ∀ (j : Nat) t v, Tryz.f6.params[j]? = some t → args[j]? = some v → Value.okWide Tryz.prog W .any base t v := hval0
  have hW' := hW
  obtain ⟨p, q, hA0, hV, rfl, _, _⟩ := hW
  have hA : DataW.TrodAll enc Tryz.prog W 0 (fun _ => true) true Tryz.f6.params.toList args.toList ds p := hA0
  rw [Tryz.params6] at hA hval
  obtain ⟨v0, vs0, d0, ds0, p0, q0, hargs, rfl, rfl, h0, r0⟩ := trodAll_cons hA
  obtain ⟨v1, vs1, d1, ds1, p1, q1, rfl, rfl, rfl, h1, r1⟩ := trodAll_cons r0
  obtain ⟨rfl, rfl, rfl⟩ := trodAll_nil r1
  obtain rfl : args = #[v0, v1] := by cases args; simp_all
  obtain ⟨rfl, rfl⟩ := trodVars_none hV
  obtain ⟨P, hP⟩ := open_pres (hval 0 26 v0 rfl rfl) h0
  obtain ⟨b1, n1, c1, rfl⟩ := okWide_slice und_ints (hval 1 22 v1 rfl rfl)
  obtain ⟨f1, hf1⟩ := h1
  obtain ⟨U0, hU0⟩ := open_i64s (c := .slice b1 n1 c1) hf1
  have hlt0 : ∀ x ∈ p0, x.block < W.heap.size := fun x hx => by simpa using hW'.lt x (by simp [hx])
  have hlt1 : ∀ x ∈ p1, x.block < W.heap.size := fun x hx => by simpa using hW'.lt x (by simp [hx])
  clear hA0
  simp only [List.append_nil] at hW'
  refine (lawHs_ok P U0 W v0 (.slice b1 n1 c1) Any Any hP hU0).mono fun e W' ⟨v, he, hg, hv⟩ => ?_
  subst he; subst hv
  have hb : Below W.heap.size W W' := hg.below
  have k0 := Below.trod laidOut (by kernel_rfl) (of_decide_eq_true (by kernel_rfl)) h0 hb hlt0
  have k1 := Below.trod laidOut (by kernel_rfl) (of_decide_eq_true (by kernel_rfl)) ⟨f1, hf1⟩ hb hlt1
  exact ⟨_, rfl, [d0, d1], [], p0 ++ p1, [], p0 ++ p1, [], hW', trodAll_mk1 (shut_bool Tryz.underlying4 _), trodAll_mk2 k0 k1, rfl, hb.frame _, fun h => by cases h⟩

theorem named : Tryz.pinned.checked.prog.funcNamed Rows.fnExactHallSubgroupsRow.func = some 6 := by kernel_rfl
theorem band {a b : Bool} (ha : a = true) (hb : b = true) : (a && b) = true := by rw [ha, hb]; rfl
theorem j0 : (Rows.fnExactHallSubgroupsRow.wf (OpenSpec.ofChange Rows.fnExactHallSubgroupsSpec)) = true := by kernel_rfl
theorem j1 : (laidOutB Tryz.pinned.checked.prog) = true := by kernel_rfl
theorem j2 : (mapsRowed Tryz.pinned.checked.prog) = true := by kernel_rfl
theorem j3 : (Tryz.f6.params.all (Tryz.pinned.checked.prog.readableRec ·)) = true := by kernel_rfl
theorem j4 : (namedTie Tryz.pinned.checked.prog Rows.fnExactHallSubgroupsRow.named Rows.fnExactHallSubgroupsSpec.vars) = true := by kernel_rfl
theorem j5 : ((Rows.fnExactHallSubgroupsRow.stops == [])) = true := by kernel_rfl
theorem j6 : ((Tryz.pinned.checked.prog.stops == [])) = true := by kernel_rfl
theorem j7 : ((Rows.fnExactHallSubgroupsRow.knobs == [])) = true := by kernel_rfl
theorem j8 : ((Tryz.pinned.checked.prog.stopKnobs == [])) = true := by kernel_rfl
theorem j9 : ((Rows.fnExactHallSubgroupsRow.inPlace == Tryz.pinned.checked.prog.inPlace 6)) = true := by kernel_rfl
theorem j10 : ((Rows.fnExactHallSubgroupsRow.unfollowed == Tryz.pinned.checked.prog.unfollowed 6)) = true := by kernel_rfl
theorem j11 : ((Rows.fnExactHallSubgroupsRow.recurses == Tryz.pinned.checked.prog.recurses 6)) = true := by kernel_rfl
theorem j12 : ((Rows.fnExactHallSubgroupsRow.named == Tryz.pinned.checked.prog.varsNamed 6)) = true := by kernel_rfl
theorem j13 : ((Rows.fnExactHallSubgroupsRow.maps == (Tryz.f6.params.toList ++ Rows.fnExactHallSubgroupsSpec.plain.varTypes Tryz.pinned.checked.prog).any (Tryz.pinned.checked.prog.mapsRec ·))) = true := by kernel_rfl
theorem j14 : ((Rows.fnExactHallSubgroupsRow.ifaces == (Tryz.f6.params.toList ++ Rows.fnExactHallSubgroupsSpec.plain.varTypes Tryz.pinned.checked.prog).any (Tryz.pinned.checked.prog.ifacesRec ·))) = true := by kernel_rfl
theorem j15 : ((Rows.fnExactHallSubgroupsRow.mapsOut == Tryz.pinned.checked.prog.mapsAmong Tryz.f6.resultTypes.toList)) = true := by kernel_rfl
theorem j16 : ((Rows.fnExactHallSubgroupsRow.loops == (Tryz.f6.params.toList ++ Rows.fnExactHallSubgroupsSpec.plain.varTypes Tryz.pinned.checked.prog).any (Tryz.pinned.checked.prog.loopsFrom ·))) = true := by kernel_rfl
theorem j17 : ((Rows.fnExactHallSubgroupsRow.wideKeys == (Tryz.f6.params.toList ++ Rows.fnExactHallSubgroupsSpec.plain.varTypes Tryz.pinned.checked.prog ++ Tryz.f6.resultTypes.toList).any (Tryz.pinned.checked.prog.wideKeysFrom ·))) = true := by kernel_rfl
theorem j18 : (Rows.fnExactHallSubgroupsSpec.vars.all (Tryz.pinned.checked.prog.varReadable ·)) = true := by kernel_rfl
theorem j19 : (Tryz.f6.resultTypes.all (fun t => Tryz.pinned.checked.prog.readableRec t && decide (t < Tryz.pinned.checked.prog.types.size))) = true := by kernel_rfl
theorem j20 : ((Rows.fnExactHallSubgroupsRow.ifacesOut == Tryz.f6.resultTypes.toList.any (Tryz.pinned.checked.prog.ifacesRec ·))) = true := by kernel_rfl
theorem j21 : ((Rows.fnExactHallSubgroupsRow.loopsOut == Tryz.f6.resultTypes.toList.any (Tryz.pinned.checked.prog.loopsFrom ·))) = true := by kernel_rfl
theorem j22 : ((Rows.fnExactHallSubgroupsRow.plainKeys == Tryz.pinned.checked.prog.plainKeys)) = true := by kernel_rfl
theorem j23 : (Rows.fnExactHallSubgroupsRow.shortTexts.isNone) = true := by kernel_rfl
theorem j24 : (Tryz.pinned.checked.prog.stopsHeard) = true := by kernel_rfl
theorem j25 : (Tryz.pinned.checked.prog.mayEnter) = true := by kernel_rfl
theorem j26 : ((Rows.fnExactHallSubgroupsRow.lifted == Tryz.pinned.checked.prog.liftsFinal)) = true := by kernel_rfl
theorem j27 : ((Tryz.pinned.checked.prog.make == some Rows.fnExactHallSubgroupsRow.make)) = true := by kernel_rfl
theorem j28 : ((Rows.fnExactHallSubgroupsRow.kinds == (if Rows.fnExactHallSubgroupsRow.domain.isEmpty then [] else Tryz.f6.params.toList.map fun t => match Tryz.pinned.checked.prog.underlying t with | some (.int k) => some k | _ => none))) = true := by kernel_rfl
theorem j29 : ((Rows.fnExactHallSubgroupsRow.pinned == Rows.fnExactHallSubgroupsRow.pinnedBy)) = true := by kernel_rfl
theorem j30 : ((Rows.fnExactHallSubgroupsRow.veiled == (Tryz.f6.params.toList ++ Rows.fnExactHallSubgroupsSpec.plain.varTypes Tryz.pinned.checked.prog ++ Tryz.f6.resultTypes.toList).any (Tryz.pinned.checked.prog.veiledRec ·))) = true := by kernel_rfl
theorem j31 : (Rows.fnExactHallSubgroupsRow.veiledFits Tryz.pinned.checked.prog Tryz.f6.params.toList (Tryz.f6.params.toList ++ Rows.fnExactHallSubgroupsSpec.plain.varTypes Tryz.pinned.checked.prog ++ Tryz.f6.resultTypes.toList)) = true := by kernel_rfl
set_option maxRecDepth 100000 in
theorem joined : joinedFacts Tryz.pinned.checked.prog 6 Tryz.f6 Rows.fnExactHallSubgroupsSpec Rows.fnExactHallSubgroupsRow = true := by
  unfold joinedFacts
  exact (band (band (band (band (band (band (band (band (band (band (band (band (band (band (band (band (band (band (band (band (band (band (band (band (band (band (band (band (band (band (band j0 j1) j2) j3) j4) j5) j6) j7) j8) j9) j10) j11) j12) j13) j14) j15) j16) j17) j18) j19) j20) j21) j22) j23) j24) j25) j26) j27) j28) j29) j30) j31)
theorem inst : Func.isInstance Tryz.pinned.checked.prog Tryz.f6 Rows.fnExactHallSubgroupsRow.origin Rows.fnExactHallSubgroupsRow.targs := of_decide_eq_true (by kernel_rfl)
theorem wrapper : Func.isWrapper Tryz.pinned.checked.prog Tryz.f6 Rows.fnExactHallSubgroupsRow.wrapper Rows.fnExactHallSubgroupsRow.mainSum := by unfold Func.isWrapper; first | (rw [if_pos (by decide +kernel)]; kernel_rfl) | (rw [if_neg (by decide +kernel)]; exact ⟨rfl, rfl⟩)
theorem proved : Rows.FnExactHallSubgroupsSaid :=
  OpenClaim.holds_of_wide 6 Tryz.f6 rfl rfl rfl rfl rfl rfl rfl ⟨rfl, rfl, rfl, rfl, rfl⟩ rfl rfl rfl rfl rfl named Tryz.func6 joined inst wrapper
    (fun os started H enc _ => lifted os started H enc)
#print axioms proved
end Go.Proofs.YtdklekdpdbjfiaaGreat.RowHs
