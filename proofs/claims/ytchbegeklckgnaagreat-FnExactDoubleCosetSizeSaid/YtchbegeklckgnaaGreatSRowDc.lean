/-
  laws.FnExactDoubleCosetSize holds: whatever the arguments, the law answers true and the arguments read as they did. No condition. (Printed by gen_law.py.)
-/
import Derived.Test.YtchbegeklckgnaaGreatSLawDc
import Derived.Test.YtchbegeklckgnaaGreatK8
namespace Go.Proofs.YtchbegeklckgnaaGreat.RowDc
open Go.RowKit Go.ChangeShapes Go.WideShapes Go.ChangeAt

theorem own : ownKnob Tryz.prog.godebug = none := by kernel_rfl
theorem laidOut : laidOutB Tryz.prog = true := by kernel_rfl

set_option maxRecDepth 100000 in
set_option maxHeartbeats 1000000 in
theorem lifted (os : Os) (started : os.Started) (H : Type) (enc : TypeId × Value → H) :
    ReturnsInHanded {} Tryz.checked os 7 .any (Rows.fnExactDoubleCosetSizeSpec.pre6 enc Tryz.prog Tryz.f7 Rows.fnExactDoubleCosetSizeRow.domain false) (Rows.fnExactDoubleCosetSizeSpec.post enc Tryz.prog Tryz.f7 false true false false) := by
  refine returnsInHanded_of_change (C := Tryz.checked) (s := Rows.fnExactDoubleCosetSizeSpec) own started (by kernel_rfl) Tryz.func7
    (ChangeSpec.witness6 (enc := enc) (C := Tryz.checked) (s := Rows.fnExactDoubleCosetSizeSpec) false ⟨#[], #[.agg #[.slice none 0 0, .slice none 0 0, .slice none 0 0], .slice none 0 0, .slice none 0 0, .slice none 0 0], []⟩ 8 (by kernel_rfl) (by kernel_rfl) (by kernel_rfl) (by kernel_rfl) (by kernel_rfl)) ?_
  intro W base args ds gs before hval0 hW _ _
  have hval : ∀ (j : Nat) t v, Tryz.f7.params[j]? = some t → args[j]? = some v → Value.okWide Tryz.prog W .any base t v := hval0
  have hW' := hW
  obtain ⟨p, q, hA0, hV, rfl, _, _⟩ := hW
  have hA : DataW.TrodAll enc Tryz.prog W 0 (fun _ => true) true Tryz.f7.params.toList args.toList ds p := hA0
  rw [Tryz.params7] at hA hval
  obtain ⟨v0, vs0, d0, ds0, p0, q0, hargs, rfl, rfl, h0, r0⟩ := trodAll_cons hA
  obtain ⟨v1, vs1, d1, ds1, p1, q1, rfl, rfl, rfl, h1, r1⟩ := trodAll_cons r0
  obtain ⟨v2, vs2, d2, ds2, p2, q2, rfl, rfl, rfl, h2, r2⟩ := trodAll_cons r1
  obtain ⟨v3, vs3, d3, ds3, p3, q3, rfl, rfl, rfl, h3, r3⟩ := trodAll_cons r2
  obtain ⟨rfl, rfl, rfl⟩ := trodAll_nil r3
  obtain rfl : args = #[v0, v1, v2, v3] := by cases args; simp_all
  obtain ⟨rfl, rfl⟩ := trodVars_none hV
  obtain ⟨P, hP⟩ := open_pres (hval 0 26 v0 rfl rfl) h0
  obtain ⟨b1, n1, c1, rfl⟩ := okWide_slice und_rows (hval 1 23 v1 rfl rfl)
  obtain ⟨f1, hf1⟩ := h1
  obtain ⟨U0, hU0⟩ := open_rows2 (c := .slice b1 n1 c1) hf1
  obtain ⟨b2, n2, c2, rfl⟩ := okWide_slice und_rows (hval 2 23 v2 rfl rfl)
  obtain ⟨f2, hf2⟩ := h2
  obtain ⟨U1, hU1⟩ := open_rows2 (c := .slice b2 n2 c2) hf2
  obtain ⟨b3, n3, c3, rfl⟩ := okWide_slice und_ints (hval 3 22 v3 rfl rfl)
  obtain ⟨f3, hf3⟩ := h3
  obtain ⟨U2, hU2⟩ := open_i64s (c := .slice b3 n3 c3) hf3
  have hlt0 : ∀ x ∈ p0, x.block < W.heap.size := fun x hx => by simpa using hW'.lt x (by simp [hx])
  have hlt1 : ∀ x ∈ p1, x.block < W.heap.size := fun x hx => by simpa using hW'.lt x (by simp [hx])
  have hlt2 : ∀ x ∈ p2, x.block < W.heap.size := fun x hx => by simpa using hW'.lt x (by simp [hx])
  have hlt3 : ∀ x ∈ p3, x.block < W.heap.size := fun x hx => by simpa using hW'.lt x (by simp [hx])
  clear hA0
  simp only [List.append_nil] at hW'
  refine (lawDc_ok P U0 U1 U2 W v0 (.slice b1 n1 c1) (.slice b2 n2 c2) (.slice b3 n3 c3) Any Any Any Any hP hU0 hU1 hU2).mono fun e W' ⟨v, he, hg, hv⟩ => ?_
  subst he; subst hv
  have hb : Below W.heap.size W W' := hg.below
  have k0 := Below.trod laidOut (by kernel_rfl) (of_decide_eq_true (by kernel_rfl)) h0 hb hlt0
  have k1 := Below.trod laidOut (by kernel_rfl) (of_decide_eq_true (by kernel_rfl)) ⟨f1, hf1⟩ hb hlt1
  have k2 := Below.trod laidOut (by kernel_rfl) (of_decide_eq_true (by kernel_rfl)) ⟨f2, hf2⟩ hb hlt2
  have k3 := Below.trod laidOut (by kernel_rfl) (of_decide_eq_true (by kernel_rfl)) ⟨f3, hf3⟩ hb hlt3
  exact ⟨_, rfl, [d0, d1, d2, d3], [], p0 ++ (p1 ++ (p2 ++ (p3))), [], p0 ++ (p1 ++ (p2 ++ (p3))), [], hW', trodAll_mk1 (shut_bool Tryz.underlying4 _), trodAll_mk4 k0 k1 k2 k3, rfl, hb.frame _, fun h => by cases h⟩

theorem proved : Rows.FnExactDoubleCosetSizeSaid :=
  OpenClaim.holds_of_wide 7 Tryz.f7 rfl rfl rfl rfl rfl rfl rfl ⟨rfl, rfl, rfl, rfl, rfl⟩ rfl rfl rfl rfl rfl (by kernel_rfl) Tryz.func7 (by kernel_rfl)
    (of_decide_eq_true (by kernel_rfl)) (by unfold Func.isWrapper; first | (rw [if_pos (by decide +kernel)]; kernel_rfl) | (rw [if_neg (by decide +kernel)]; exact ⟨rfl, rfl⟩))
    (fun os started H enc _ => lifted os started H enc)
#print axioms proved
end Go.Proofs.YtchbegeklckgnaaGreat.RowDc
