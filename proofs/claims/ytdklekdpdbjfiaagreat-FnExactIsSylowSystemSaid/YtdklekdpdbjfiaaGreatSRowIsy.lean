/-
  laws.FnExactIsSylowSystem holds: whatever the arguments, the law answers true and the arguments read as they did. No condition. (Printed by gen_law.py.)
-/
import Derived.Test.YtdklekdpdbjfiaaGreatK9
namespace Go.Proofs.YtdklekdpdbjfiaaGreat.RowIsy
open Go.RowKit Go.ChangeShapes Go.WideShapes Go.ChangeAt

theorem own : ownKnob Tryz.prog.godebug = none := by kernel_rfl
theorem laidOut : laidOutB Tryz.prog = true := by kernel_rfl

set_option maxRecDepth 100000 in
set_option maxHeartbeats 1000000 in
theorem lifted (os : Os) (started : os.Started) (H : Type) (enc : TypeId × Value → H) :
    ReturnsInHanded {} Tryz.checked os 3 .any (Rows.fnExactIsSylowSystemSpec.pre6 enc Tryz.prog Tryz.f3 Rows.fnExactIsSylowSystemRow.domain false) (Rows.fnExactIsSylowSystemSpec.post enc Tryz.prog Tryz.f3 false true false false) := by
  refine returnsInHanded_of_change (C := Tryz.checked) (s := Rows.fnExactIsSylowSystemSpec) own started (by kernel_rfl) Tryz.func3
    (ChangeSpec.witness6 (enc := enc) (C := Tryz.checked) (s := Rows.fnExactIsSylowSystemSpec) false ⟨#[], #[.agg #[.slice none 0 0, .slice none 0 0, .slice none 0 0], .slice none 0 0], []⟩ 8 (by kernel_rfl) (by kernel_rfl) (by kernel_rfl) (by kernel_rfl) (by kernel_rfl)) ?_
  intro W base args ds gs before hval0 hW _ _
  have hval : ∀ (j : Nat) t v, Tryz.f3.params[j]? = some t → args[j]? = some v → Value.okWide Tryz.prog W .any base t v := hval0
  have hW' := hW
  obtain ⟨p, q, hA0, hV, rfl, _, _⟩ := hW
  have hA : DataW.TrodAll enc Tryz.prog W 0 (fun _ => true) true Tryz.f3.params.toList args.toList ds p := hA0
  rw [Tryz.params3] at hA hval
  obtain ⟨v0, vs0, d0, ds0, p0, q0, hargs, rfl, rfl, h0, r0⟩ := trodAll_cons hA
  obtain ⟨v1, vs1, d1, ds1, p1, q1, rfl, rfl, rfl, h1, r1⟩ := trodAll_cons r0
  obtain ⟨rfl, rfl, rfl⟩ := trodAll_nil r1
  obtain rfl : args = #[v0, v1] := by cases args; simp_all
  obtain ⟨rfl, rfl⟩ := trodVars_none hV
  obtain ⟨P, hP⟩ := open_pres (hval 0 26 v0 rfl rfl) h0
  obtain ⟨b1, n1, c1, rfl⟩ := okWide_slice und_rows3 (hval 1 24 v1 rfl rfl)
  obtain ⟨f1, hf1⟩ := h1
  obtain ⟨U0, hU0⟩ := open_rows3 (c := .slice b1 n1 c1) hf1
  have hlt0 : ∀ x ∈ p0, x.block < W.heap.size := fun x hx => by simpa using hW'.lt x (by simp [hx])
  have hlt1 : ∀ x ∈ p1, x.block < W.heap.size := fun x hx => by simpa using hW'.lt x (by simp [hx])
  clear hA0
  simp only [List.append_nil] at hW'
  refine (lawIsy_ok P U0 W v0 (.slice b1 n1 c1) Any Any hP hU0).mono fun e W' ⟨v, he, hg, hv⟩ => ?_
  subst he; subst hv
  have hb : Below W.heap.size W W' := hg.below
  have k0 := Below.trod laidOut (by kernel_rfl) (of_decide_eq_true (by kernel_rfl)) h0 hb hlt0
  have k1 := Below.trod laidOut (by kernel_rfl) (of_decide_eq_true (by kernel_rfl)) ⟨f1, hf1⟩ hb hlt1
  exact ⟨_, rfl, [d0, d1], [], p0 ++ p1, [], p0 ++ p1, [], hW', trodAll_mk1 (shut_bool Tryz.underlying4 _), trodAll_mk2 k0 k1, rfl, hb.frame _, fun h => by cases h⟩

theorem named : Tryz.pinned.checked.prog.funcNamed Rows.fnExactIsSylowSystemRow.func = some 3 := by kernel_rfl
theorem band {a b : Bool} (ha : a = true) (hb : b = true) : (a && b) = true := by rw [ha, hb]; rfl
theorem j0 : (Rows.fnExactIsSylowSystemRow.wf (OpenSpec.ofChange Rows.fnExactIsSylowSystemSpec)) = true := by kernel_rfl
theorem j1 : (laidOutB Tryz.pinned.checked.prog) = true := by kernel_rfl
theorem j2 : (mapsRowed Tryz.pinned.checked.prog) = true := by kernel_rfl
theorem j3 : (Tryz.f3.params.all (Tryz.pinned.checked.prog.readableRec ·)) = true := by kernel_rfl
theorem j4 : (namedTie Tryz.pinned.checked.prog Rows.fnExactIsSylowSystemRow.named Rows.fnExactIsSylowSystemSpec.vars) = true := by kernel_rfl
theorem j5 : ((Rows.fnExactIsSylowSystemRow.stops == [])) = true := by kernel_rfl
theorem j6 : ((Tryz.pinned.checked.prog.stops == [])) = true := by kernel_rfl
theorem j7 : ((Rows.fnExactIsSylowSystemRow.knobs == [])) = true := by kernel_rfl
theorem j8 : ((Tryz.pinned.checked.prog.stopKnobs == [])) = true := by kernel_rfl
theorem j9 : ((Rows.fnExactIsSylowSystemRow.inPlace == Tryz.pinned.checked.prog.inPlace 3)) = true := by kernel_rfl
theorem j10 : ((Rows.fnExactIsSylowSystemRow.unfollowed == Tryz.pinned.checked.prog.unfollowed 3)) = true := by kernel_rfl
theorem j11 : ((Rows.fnExactIsSylowSystemRow.recurses == Tryz.pinned.checked.prog.recurses 3)) = true := by kernel_rfl
theorem j12 : ((Rows.fnExactIsSylowSystemRow.named == Tryz.pinned.checked.prog.varsNamed 3)) = true := by kernel_rfl
theorem j13 : ((Rows.fnExactIsSylowSystemRow.maps == (Tryz.f3.params.toList ++ Rows.fnExactIsSylowSystemSpec.plain.varTypes Tryz.pinned.checked.prog).any (Tryz.pinned.checked.prog.mapsRec ·))) = true := by kernel_rfl
theorem j14 : ((Rows.fnExactIsSylowSystemRow.ifaces == (Tryz.f3.params.toList ++ Rows.fnExactIsSylowSystemSpec.plain.varTypes Tryz.pinned.checked.prog).any (Tryz.pinned.checked.prog.ifacesRec ·))) = true := by kernel_rfl
theorem j15 : ((Rows.fnExactIsSylowSystemRow.mapsOut == Tryz.pinned.checked.prog.mapsAmong Tryz.f3.resultTypes.toList)) = true := by kernel_rfl
theorem j16 : ((Rows.fnExactIsSylowSystemRow.loops == (Tryz.f3.params.toList ++ Rows.fnExactIsSylowSystemSpec.plain.varTypes Tryz.pinned.checked.prog).any (Tryz.pinned.checked.prog.loopsFrom ·))) = true := by kernel_rfl
theorem j17 : ((Rows.fnExactIsSylowSystemRow.wideKeys == (Tryz.f3.params.toList ++ Rows.fnExactIsSylowSystemSpec.plain.varTypes Tryz.pinned.checked.prog ++ Tryz.f3.resultTypes.toList).any (Tryz.pinned.checked.prog.wideKeysFrom ·))) = true := by kernel_rfl
theorem j18 : (Rows.fnExactIsSylowSystemSpec.vars.all (Tryz.pinned.checked.prog.varReadable ·)) = true := by kernel_rfl
theorem j19 : (Tryz.f3.resultTypes.all (fun t => Tryz.pinned.checked.prog.readableRec t && decide (t < Tryz.pinned.checked.prog.types.size))) = true := by kernel_rfl
theorem j20 : ((Rows.fnExactIsSylowSystemRow.ifacesOut == Tryz.f3.resultTypes.toList.any (Tryz.pinned.checked.prog.ifacesRec ·))) = true := by kernel_rfl
theorem j21 : ((Rows.fnExactIsSylowSystemRow.loopsOut == Tryz.f3.resultTypes.toList.any (Tryz.pinned.checked.prog.loopsFrom ·))) = true := by kernel_rfl
theorem j22 : ((Rows.fnExactIsSylowSystemRow.plainKeys == Tryz.pinned.checked.prog.plainKeys)) = true := by kernel_rfl
theorem j23 : (Rows.fnExactIsSylowSystemRow.shortTexts.isNone) = true := by kernel_rfl
theorem j24 : (Tryz.pinned.checked.prog.stopsHeard) = true := by kernel_rfl
theorem j25 : (Tryz.pinned.checked.prog.mayEnter) = true := by kernel_rfl
theorem j26 : ((Rows.fnExactIsSylowSystemRow.lifted == Tryz.pinned.checked.prog.liftsFinal)) = true := by kernel_rfl
theorem j27 : ((Tryz.pinned.checked.prog.make == some Rows.fnExactIsSylowSystemRow.make)) = true := by kernel_rfl
theorem j28 : ((Rows.fnExactIsSylowSystemRow.kinds == (if Rows.fnExactIsSylowSystemRow.domain.isEmpty then [] else Tryz.f3.params.toList.map fun t => match Tryz.pinned.checked.prog.underlying t with | some (.int k) => some k | _ => none))) = true := by kernel_rfl
theorem j29 : ((Rows.fnExactIsSylowSystemRow.pinned == Rows.fnExactIsSylowSystemRow.pinnedBy)) = true := by kernel_rfl
theorem j30 : ((Rows.fnExactIsSylowSystemRow.veiled == (Tryz.f3.params.toList ++ Rows.fnExactIsSylowSystemSpec.plain.varTypes Tryz.pinned.checked.prog ++ Tryz.f3.resultTypes.toList).any (Tryz.pinned.checked.prog.veiledRec ·))) = true := by kernel_rfl
theorem j31 : (Rows.fnExactIsSylowSystemRow.veiledFits Tryz.pinned.checked.prog Tryz.f3.params.toList (Tryz.f3.params.toList ++ Rows.fnExactIsSylowSystemSpec.plain.varTypes Tryz.pinned.checked.prog ++ Tryz.f3.resultTypes.toList)) = true := by kernel_rfl
set_option maxRecDepth 100000 in
theorem joined : joinedFacts Tryz.pinned.checked.prog 3 Tryz.f3 Rows.fnExactIsSylowSystemSpec Rows.fnExactIsSylowSystemRow = true := by
  unfold joinedFacts
  exact (band (band (band (band (band (band (band (band (band (band (band (band (band (band (band (band (band (band (band (band (band (band (band (band (band (band (band (band (band (band (band j0 j1) j2) j3) j4) j5) j6) j7) j8) j9) j10) j11) j12) j13) j14) j15) j16) j17) j18) j19) j20) j21) j22) j23) j24) j25) j26) j27) j28) j29) j30) j31)
theorem inst : Func.isInstance Tryz.pinned.checked.prog Tryz.f3 Rows.fnExactIsSylowSystemRow.origin Rows.fnExactIsSylowSystemRow.targs := of_decide_eq_true (by kernel_rfl)
theorem wrapper : Func.isWrapper Tryz.pinned.checked.prog Tryz.f3 Rows.fnExactIsSylowSystemRow.wrapper Rows.fnExactIsSylowSystemRow.mainSum := by unfold Func.isWrapper; first | (rw [if_pos (by decide +kernel)]; kernel_rfl) | (rw [if_neg (by decide +kernel)]; exact ⟨rfl, rfl⟩)
theorem proved : Rows.FnExactIsSylowSystemSaid :=
  OpenClaim.holds_of_wide 3 Tryz.f3 rfl rfl rfl rfl rfl rfl rfl ⟨rfl, rfl, rfl, rfl, rfl⟩ rfl rfl rfl rfl rfl named Tryz.func3 joined inst wrapper
    (fun os started H enc _ => lifted os started H enc)
#print axioms proved
end Go.Proofs.YtdklekdpdbjfiaaGreat.RowIsy
