/-
  Drawing: spec.DrawSubgroupConjugator (printed by gen_drawsj.py).
  Plain: the elements of a group with a property, as far as they were looked at.
  impl.elementsWith at the closures of SubgroupNormalizer and centralizer (printed by gen_elwith.py).
  impl.movesInto, SubgroupNormalizer on a subgroup.
  Plain: the conjugates of a subgroup, as sequences and as masks; the classes of conjugate subgroups.
  Plain: Hall subgroups as sequences: the orders, the way up to one, their one class, the one ascending list.
  laws.size9, impl.ElementAt on a group.
  SubgroupConjugator on both sides.
  Plain: cores and closures of subgroups, of conjugate ones too.
  impl.centralizer, SubgroupCentralizer on a subgroup.
  Plain: what the law of normalizers needs besides.
  The reference's SubgroupConjugator.
  impl.SubgroupCentralizer on a subgroup (printed by gen_aux3.py).
  slices.Grow at rows, laid from the shelf.
  What the program's public subgroup functions answer on subgroups (printed by gen_auxw.py).
  impl.isSubset; impl.SubgroupIndex and impl.IsSubset on subgroups.
  impl.IsSubset on subgroups (printed by gen_aux2.py).
  laws.FnNormalizers answers true (printed by gen_lnz.py).
-/
import Derived.Test.YtdcobapnlpeaaaaGreatTNz1
import Derived.Laws.BitsAllLaws
import Derived.Sort.OwnSortedInts
import Derived.Maps.OwnSet
import Derived.Maps.StringElems
import Derived.StringKeys
import Derived.Deep.RegionHeld3
import Derived.Shelf.Spec.SlicesGrow
namespace Go.Proofs.YtdcobapnlpeaaaaGreat
open Go.RowKit
attribute [local go_sem ↓] Go.wp_at_zero Go.wp_at_succ
set_option maxRecDepth 100000 in
set_option maxHeartbeats 8000000 in
theorem DrawSubgroupConjugator_ok (w : World) (cv : Value) (bs : List Int) (S : Nat → Prop) (hb : Bytes S w cv bs) :
  Calls Tryz.prog 37 #[cv] w (Ret w (TripA 7 w.heap.size)) := by
 obtain ⟨a, cap, rfl, _, _⟩ := Sl.shape hb
 have hbB := Box3.made w 28 (.slice none 0 0) (.slice none 0 0) (.slice none 0 0)
 have hg0 : Ext w (w.alloc (.cells #[.slice none 0 0, .slice none 0 0, .slice none 0 0] 28)) := World.grownBy_alloc _ _ _
 have hs0 : (w.alloc (.cells #[.slice none 0 0, .slice none 0 0, .slice none 0 0] 28)).heap.size = w.heap.size + 1 := by simp
 have hb0 := Bytes.ext hb hg0
 go_enter Tryz.func37, Tryz.ntmps37
 go_wp2_with fail
 generalize w.alloc (.cells #[.slice none 0 0, .slice none 0 0, .slice none 0 0] 28) = w0 at *
 have hs00 : w.heap.size + 1 ≤ w0.heap.size := by omega
 clear hs0
 refine Calls.mono (l01From_ok w0 _ bs S hb0) ?_
 rintro e0 wS ⟨v0, rfl, hgS, rfl, hsS⟩
 have hzS : w0.heap.size + 1 ≤ wS.heap.size := by have := hsS.lt; omega
 have hbS := hbB.ext hgS
 obtain ⟨sb, hsb⟩ : ∃ sb, sb = w0.heap.size := ⟨_, rfl⟩
 rw [← hsb] at hsS
 have hsb1 : w.heap.size + 1 ≤ sb ∧ sb + 1 ≤ wS.heap.size := by omega
 have hgw0 := grown_trans hg0 hgS
 have HSB := Lib.hid hsb
 clear hbB hb0 hg0 hgS hzS hs00
 go_wp2_with fail
 rw [← HSB.out]
 refine Calls.mono (l12Pair_ok (sb + 1) wS sb 96 (by omega) (by rw [HSB.out]; rw [HSB.out] at hsS; exact hsS)) ?_
 rintro e1 w1 ⟨v1, rfl, hg1, ⟨vo, vp, vc, rv, Q, rfl, hQl, hQ, U, hUl, hUr, hU1⟩, hs1⟩
 clear hsb
 obtain ⟨a1, n1, c1, hy1⟩ : ∃ a n c, vo = .slice a n c := by obtain ⟨a, c, e, _⟩ := hQ.o.shape; exact ⟨_, _, _, e⟩
 obtain ⟨a2, n2, c2, hy2⟩ : ∃ a n c, vp = .slice a n c := by obtain ⟨a, c, e, _⟩ := Sl.shape hQ.p; exact ⟨_, _, _, e⟩
 obtain ⟨a3, n3, c3, hy3⟩ : ∃ a n c, vc = .slice a n c := by obtain ⟨a, c, e, _⟩ := Sl.shape hQ.c; exact ⟨_, _, _, e⟩
 obtain ⟨ra, rn, rc, hra⟩ : ∃ a n c, rv = Value.slice a n c := by obtain ⟨a, c, e, _⟩ := Sl.shape hU1; exact ⟨_, _, _, e⟩
 subst hra
 subst hy1 hy2 hy3
 have hgq : Ext w1 (w1.alloc (.cells #[.slice a1 n1 c1, .slice a2 n2 c2, .slice a3 n3 c3] 28)) := World.grownBy_alloc _ _ _
 have hbQ := Box3.made w1 28 (.slice a1 n1 c1) (.slice a2 n2 c2) (.slice a3 n3 c3)
 obtain ⟨pb, hpb⟩ : ∃ pb, pb = w1.heap.size := ⟨_, rfl⟩
 rw [← hpb] at hbQ
 have hs1' := hg1.size
 have hQ2 := hQ.ext hgq
 have hR2 := Rows2.ext hU1 hgq
 have hb1 := hbS.moved hg1 (by omega)
 have hb2 := hb1.ext hgq
 have hs2 := hs1.ext hgq
 have hgw2 : Ext w (w1.alloc (.cells #[.slice a1 n1 c1, .slice a2 n2 c2, .slice a3 n3 c3] 28)) := grown_trans (grown_own hgw0 hg1 (fun j hj hlt => by have := Option.some.inj hj; omega)) hgq
 have hzq : w1.heap.size ≤ (w1.alloc (.cells #[.slice a1 n1 c1, .slice a2 n2 c2, .slice a3 n3 c3] 28)).heap.size := hgq.size
 have HP := Lib.hid hpb
 have HQ := Lib.hid (And.intro hQ2 (And.intro hs2 (And.intro hgw2 (And.intro hQl hR2)))); clear hQ hQ2 hs2 hs1 hg1 hbS hb1 hgq hgw2 hQl hU1 hR2
 go_wp2_with fail
 rw [← HP.out]
 generalize w1.alloc (.cells #[.slice a1 n1 c1, .slice a2 n2 c2, .slice a3 n3 c3] 28) = w2 at *
 have hpw : wS.heap.size ≤ pb := by omega
 clear hpb HP
 obtain ⟨q0, q1, q2, q3, q4⟩ := id hbQ
 have hsg := sIsSubgroup_ok Q w2 (.agg #[.slice a1 n1 c1, .slice a2 n2 c2, .slice a3 n3 c3]) _ U _ _ ⟨_, _, _, rfl, HQ.out.1⟩ HQ.out.2.2.2.2
 have HSG := Lib.hid hsg; clear hsg
 go_wp2_with fail
 clear q0 q1 q2 q3 q4
 refine Calls.mono HSG.out ?_
 rintro e3 w3 ⟨v3, rfl, hg3, r, rfl, hr⟩
 clear HSG
 have hb3 := hb2.ext hg3
 have hbQ3 := hbQ.ext hg3
 have hz3 := hg3.size
 have hX3 := And.intro (HQ.out.1.ext hg3) (And.intro (HQ.out.2.1.ext hg3) (And.intro (grown_trans HQ.out.2.2.1 hg3) (And.intro HQ.out.2.2.2.1 (Rows2.ext HQ.out.2.2.2.2 hg3))))
 have HX := Lib.hid hX3; clear hX3 HQ hb2 hbQ hg3
 cases r with
 | false =>
  clear hr
  obtain ⟨q0, q1, q2, q3, q4⟩ := id hbQ3
  have e0 : ∀ w', NearS w3 sb w.heap.size w' → w'.cell? ⟨pb, 0, none⟩ = some (.slice a1 n1 c1) := fun w' h => h.cell q1 (by simp; omega) (by simp; omega)
  have e1 : ∀ w', NearS w3 sb w.heap.size w' → w'.cell? ⟨pb, 1, none⟩ = some (.slice a2 n2 c2) := fun w' h => h.cell q2 (by simp; omega) (by simp; omega)
  have e2 : ∀ w', NearS w3 sb w.heap.size w' → w'.cell? ⟨pb, 2, none⟩ = some (.slice a3 n3 c3) := fun w' h => h.cell q3 (by simp; omega) (by simp; omega)
  clear q0 q1 q2 q3 q4
  go_wp2
  go_region_held3 (fun w' => NearS w3 sb w.heap.size w') (first | exact NearS.ext (grown_drew _ _) | exact NearS.of (by assumption) | exact NearS.two hg9 (grown_set3 _ _ _ _ _) | assumption)
   (first
    | (go_at_call 138; refine Calls.mono (l12Draw_ok (sb + 1) w3.drew sb _ Q _ (by have := (grown_drew w3 none).size; omega) (HX.out.2.1.ext (grown_drew _ _)) ⟨_, _, _, rfl, HX.out.1.ext (grown_drew _ _)⟩ (fun k hk e => by have hk : wS.heap.size ≤ k := hk; omega) (by have := HX.out.2.2.2.1; omega)) ?_; rintro e9 w9 ⟨sv, rfl, hg9a, hR, hs9⟩; have hg9 : w3.grownBy w9 (some sb) := grown_trans (grown_of_ext (some sb) (grown_drew _ _)) hg9a; obtain ⟨sa, sn, sc, rfl⟩ := hR.shape; have hb9 := hb3.moved hg9 (by omega); obtain ⟨b0, b1, b2, b3, b4⟩ := id hb9))
  have hdz := (grown_drew w3 none).size
  have hRl := hR.low (show wS.heap.size ≤ _ by omega)
  clear hR hg9a hs9
  have hZ := hb9.all (.slice a1 n1 c1) (.slice a2 n2 c2) (.slice a3 n3 c3)
  obtain ⟨-, z0, z1, z2, -⟩ := id hZ
  have hT := grown_set3 w9 w.heap.size (.slice a1 n1 c1) (.slice a2 n2 c2) (.slice a3 n3 c3)
  have hin : ∀ k, some w.heap.size = some k → k < wS.heap.size := fun k hk => by have := Option.some.inj hk; omega
  have hP3 := HX.out.1.keptB hg9 (fun k hk => by have := Option.some.inj hk; omega)
  have hR3 : RowsDr wS.heap.size w9 (.slice ra rn rc) := RowsDr.kept ⟨U, hUl, hUr, HX.out.2.2.2.2⟩ hg9 (fun k hk => by have := Option.some.inj hk; omega)
  have hend : Ret w (TripA 7 w.heap.size) (.returned (.tuple #[.agg #[.slice a1 n1 c1, .slice a2 n2 c2, .slice a3 n3 c3], .slice ra rn rc, .slice sa sn sc])) (((w9.setCell ⟨w.heap.size, 0, none⟩ (.slice a1 n1 c1)).setCell ⟨w.heap.size, 1, none⟩ (.slice a2 n2 c2)).setCell ⟨w.heap.size, 2, none⟩ (.slice a3 n3 c3)) :=
   ⟨_, rfl, grown_own (grown_own HX.out.2.2.1 hg9 (fun j hj hlt => by have := Option.some.inj hj; omega)) hT (fun j hj hlt => by have := Option.some.inj hj; omega), _, _, _, _, _, Q, rfl, HX.out.2.2.2.1, (hP3.keptB hT hin).low (by omega), (hR3.kept hT hin).low (by omega), (hRl.kept hT hin).low (by omega)⟩
  have HE := Lib.hid hend
  clear hend hT hZ hP3 hR3 hg9 e0 e1 e2
  go_wp2_with fail
  refine bodyPost_ret (v := .tuple #[.agg #[.slice a1 n1 c1, .slice a2 n2 c2, .slice a3 n3 c3], .slice ra rn rc, .slice sa sn sc]) (by simp [results, Tryz.results37, go_sem, z0, z1, z2]) rfl ?_
  exact HE.out
 | true =>
  have hokU : oneOk Q U := hr.1 rfl
  have G := grp_of_r hokU.1
  clear hr
  go_wp2_with fail
  refine Calls.mono (l01Next_ok (sb + 1) w3 sb 3 HX.out.2.1) ?_
  rintro e4 w4 ⟨v4, rfl, hg4, x, rfl, _, hx, hs4⟩
  have hx3 := hx (by omega)
  have hz4 := hg4.size
  have hb4 := hb3.moved hg4 (by omega)
  have hbQ4 := hbQ3.moved hg4 (by omega)
  have hX4 := And.intro (HX.out.1.keptB hg4 (fun k hk => by have := Option.some.inj hk; omega)) (And.intro hs4 (And.intro (grown_own HX.out.2.2.1 hg4 (fun j hj hlt => by have := Option.some.inj hj; omega)) (And.intro HX.out.2.2.2.1 (Rows2.mono HX.out.2.2.2.2 (frame_of hg4 (fun k hk _ => ⟨hk, fun e => by have := Option.some.inj e; have hk : wS.heap.size ≤ k := hk; omega⟩))))))
  have HX := Lib.hid hX4; clear hX4 hb3 hbQ3 hg4 hs4 hx
  by_cases hx0 : 0 < x
  ·clear hx3
   obtain ⟨q0, q1, q2, q3, q4⟩ := id hbQ4
   have e0 : ∀ w', NearS w4 sb w.heap.size w' → w'.cell? ⟨pb, 0, none⟩ = some (.slice a1 n1 c1) := fun w' h => h.cell q1 (by simp; omega) (by simp; omega)
   have e1 : ∀ w', NearS w4 sb w.heap.size w' → w'.cell? ⟨pb, 1, none⟩ = some (.slice a2 n2 c2) := fun w' h => h.cell q2 (by simp; omega) (by simp; omega)
   have e2 : ∀ w', NearS w4 sb w.heap.size w' → w'.cell? ⟨pb, 2, none⟩ = some (.slice a3 n3 c3) := fun w' h => h.cell q3 (by simp; omega) (by simp; omega)
   clear q0 q1 q2 q3 q4
   go_wp2
   go_region_held3 (fun w' => NearS w4 sb w.heap.size w') (first | exact NearS.ext (grown_drew _ _) | exact NearS.of (by assumption) | exact NearS.two hg9 (grown_set3 _ _ _ _ _) | assumption)
    (first
     | (go_at_call 137; refine Calls.mono (l10Some_ok (sb + 1) w4.drew sb _ Q _ (by have := (grown_drew w4 none).size; omega) (HX.out.2.1.ext (grown_drew _ _)) ⟨_, _, _, rfl, HX.out.1.ext (grown_drew _ _)⟩ (fun k hk e => by have hk : wS.heap.size ≤ k := hk; omega) G.v) ?_; rintro e8 w8 ⟨xv, rfl, hg8a, ⟨xa, xc, X, rfl, hXv, hX⟩, hs8⟩; have hg8 : w4.grownBy w8 (some sb) := grown_trans (grown_of_ext (some sb) (grown_drew _ _)) hg8a; have hXI := hX.ints (by rw [hXv.1]; have := G.v.n6; omega); have hP8 := HX.out.1.keptB hg8 (fun k hk => by have := Option.some.inj hk; omega); have hU8 := Rows2.mono HX.out.2.2.2.2 (frame_of hg8 (fun k hk _ => ⟨hk, fun e => by have := Option.some.inj e; have hk : wS.heap.size ≤ k := hk; omega⟩)))
     | (go_at_call 136; refine Calls.mono (l13ConjF_ok Q G w8 _ _ _ U X _ _ _ ⟨_, _, _, rfl, hP8⟩ hU8 hokU.2.1 (by omega) hXI hXv) ?_; rintro e9 w9 ⟨sv, rfl, hg9a, hR9⟩; have hg9 : w4.grownBy w9 (some sb) := grown_trans hg8 (grown_of_ext (some sb) hg9a); obtain ⟨sa, sn, sc, hsv⟩ : ∃ a n c, sv = Value.slice a n c := (by obtain ⟨a, c, e, _⟩ := Sl.shape hR9; exact ⟨_, _, _, e⟩); subst hsv; have hb9 := hb4.moved hg9 (by omega); obtain ⟨b0, b1, b2, b3, b4⟩ := id hb9))
   have hz8 := hg8.size
   have SC := G.genP_sub (Q := fun z => z ∈ conjL Q U X) (G.conjL_v hokU.2.1 hXv)
   have hcl := G.cseq_len SC
   have hn6 := G.v.n6
   have hRl : RowsDr wS.heap.size w9 (.slice sa sn sc) := ⟨_, by omega, fun x hx => by rw [(SC.vec x ((G.seq_facts SC).2.1 x hx)).1]; omega, Rows2.sub hR9 (fun k hk _ => by have hk : w8.heap.size ≤ k := hk; show wS.heap.size ≤ k; omega)⟩
   clear hR9 hg9a hs8 hXI hP8 hU8 hX hg8 hg8a
   have hZ := hb9.all (.slice a1 n1 c1) (.slice a2 n2 c2) (.slice a3 n3 c3)
   obtain ⟨-, z0, z1, z2, -⟩ := id hZ
   have hT := grown_set3 w9 w.heap.size (.slice a1 n1 c1) (.slice a2 n2 c2) (.slice a3 n3 c3)
   have hin : ∀ k, some w.heap.size = some k → k < wS.heap.size := fun k hk => by have := Option.some.inj hk; omega
   have hP3 := HX.out.1.keptB hg9 (fun k hk => by have := Option.some.inj hk; omega)
   have hR3 : RowsDr wS.heap.size w9 (.slice ra rn rc) := RowsDr.kept ⟨U, hUl, hUr, HX.out.2.2.2.2⟩ hg9 (fun k hk => by have := Option.some.inj hk; omega)
   have hend : Ret w (TripA 7 w.heap.size) (.returned (.tuple #[.agg #[.slice a1 n1 c1, .slice a2 n2 c2, .slice a3 n3 c3], .slice ra rn rc, .slice sa sn sc])) (((w9.setCell ⟨w.heap.size, 0, none⟩ (.slice a1 n1 c1)).setCell ⟨w.heap.size, 1, none⟩ (.slice a2 n2 c2)).setCell ⟨w.heap.size, 2, none⟩ (.slice a3 n3 c3)) :=
    ⟨_, rfl, grown_own (grown_own HX.out.2.2.1 hg9 (fun j hj hlt => by have := Option.some.inj hj; omega)) hT (fun j hj hlt => by have := Option.some.inj hj; omega), _, _, _, _, _, Q, rfl, HX.out.2.2.2.1, (hP3.keptB hT hin).low (by omega), (hR3.kept hT hin).low (by omega), (hRl.kept hT hin).low (by omega)⟩
   have HE := Lib.hid hend
   clear hend hT hZ hP3 hR3 hg9 e0 e1 e2
   go_wp2_with fail
   refine bodyPost_ret (v := .tuple #[.agg #[.slice a1 n1 c1, .slice a2 n2 c2, .slice a3 n3 c3], .slice ra rn rc, .slice sa sn sc]) (by simp [results, Tryz.results37, go_sem, z0, z1, z2]) rfl ?_
   exact HE.out
  ·clear hx3
   obtain ⟨q0, q1, q2, q3, q4⟩ := id hbQ4
   have e0 : ∀ w', NearS w4 sb w.heap.size w' → w'.cell? ⟨pb, 0, none⟩ = some (.slice a1 n1 c1) := fun w' h => h.cell q1 (by simp; omega) (by simp; omega)
   have e1 : ∀ w', NearS w4 sb w.heap.size w' → w'.cell? ⟨pb, 1, none⟩ = some (.slice a2 n2 c2) := fun w' h => h.cell q2 (by simp; omega) (by simp; omega)
   have e2 : ∀ w', NearS w4 sb w.heap.size w' → w'.cell? ⟨pb, 2, none⟩ = some (.slice a3 n3 c3) := fun w' h => h.cell q3 (by simp; omega) (by simp; omega)
   clear q0 q1 q2 q3 q4
   go_wp2
   go_region_held3 (fun w' => NearS w4 sb w.heap.size w') (first | exact NearS.ext (grown_drew _ _) | exact NearS.of (by assumption) | exact NearS.two hg9 (grown_set3 _ _ _ _ _) | assumption)
    (first
     | (go_at_call 138; refine Calls.mono (l12Draw_ok (sb + 1) w4.drew sb _ Q _ (by have := (grown_drew w4 none).size; omega) (HX.out.2.1.ext (grown_drew _ _)) ⟨_, _, _, rfl, HX.out.1.ext (grown_drew _ _)⟩ (fun k hk e => by have hk : wS.heap.size ≤ k := hk; omega) (by have := HX.out.2.2.2.1; omega)) ?_; rintro e9 w9 ⟨sv, rfl, hg9a, hR, hs9⟩; have hg9 : w4.grownBy w9 (some sb) := grown_trans (grown_of_ext (some sb) (grown_drew _ _)) hg9a; obtain ⟨sa, sn, sc, rfl⟩ := hR.shape; have hb9 := hb4.moved hg9 (by omega); obtain ⟨b0, b1, b2, b3, b4⟩ := id hb9))
   have hdz := (grown_drew w4 none).size
   have hRl := hR.low (show wS.heap.size ≤ _ by omega)
   clear hR hg9a hs9
   have hZ := hb9.all (.slice a1 n1 c1) (.slice a2 n2 c2) (.slice a3 n3 c3)
   obtain ⟨-, z0, z1, z2, -⟩ := id hZ
   have hT := grown_set3 w9 w.heap.size (.slice a1 n1 c1) (.slice a2 n2 c2) (.slice a3 n3 c3)
   have hin : ∀ k, some w.heap.size = some k → k < wS.heap.size := fun k hk => by have := Option.some.inj hk; omega
   have hP3 := HX.out.1.keptB hg9 (fun k hk => by have := Option.some.inj hk; omega)
   have hR3 : RowsDr wS.heap.size w9 (.slice ra rn rc) := RowsDr.kept ⟨U, hUl, hUr, HX.out.2.2.2.2⟩ hg9 (fun k hk => by have := Option.some.inj hk; omega)
   have hend : Ret w (TripA 7 w.heap.size) (.returned (.tuple #[.agg #[.slice a1 n1 c1, .slice a2 n2 c2, .slice a3 n3 c3], .slice ra rn rc, .slice sa sn sc])) (((w9.setCell ⟨w.heap.size, 0, none⟩ (.slice a1 n1 c1)).setCell ⟨w.heap.size, 1, none⟩ (.slice a2 n2 c2)).setCell ⟨w.heap.size, 2, none⟩ (.slice a3 n3 c3)) :=
    ⟨_, rfl, grown_own (grown_own HX.out.2.2.1 hg9 (fun j hj hlt => by have := Option.some.inj hj; omega)) hT (fun j hj hlt => by have := Option.some.inj hj; omega), _, _, _, _, _, Q, rfl, HX.out.2.2.2.1, (hP3.keptB hT hin).low (by omega), (hR3.kept hT hin).low (by omega), (hRl.kept hT hin).low (by omega)⟩
   have HE := Lib.hid hend
   clear hend hT hZ hP3 hR3 hg9 e0 e1 e2
   go_wp2_with fail
   refine bodyPost_ret (v := .tuple #[.agg #[.slice a1 n1 c1, .slice a2 n2 c2, .slice a3 n3 c3], .slice ra rn rc, .slice sa sn sc]) (by simp [results, Tryz.results37, go_sem, z0, z1, z2]) rfl ?_
   exact HE.out
end Go.Proofs.YtdcobapnlpeaaaaGreat
namespace Go.Proofs.YtdcobapnlpeaaaaGreat
open Go.RowKit
def takeP (P : Pr) (has : List Int → Prop) (k : Nat) (y : List Int) : Prop := y ∈ (allEl P).take k ∧ has y
theorem takeP_zero (P : Pr) (has : List Int → Prop) : takeP P has 0 = fun _ => False := by
 funext y; unfold takeP; simp
theorem takeP_yes {P : Pr} {has : List Int → Prop} {k : Nat} (hk : k < (allEl P).length) (h : has (gt (allEl P) k)) : takeP P has (k + 1) = fun y => takeP P has k y ∨ y ∈ [gt (allEl P) k] :=
 funext fun y => propext (by
  unfold takeP
  rw [List.take_add_one, List.getElem?_eq_getElem hk, List.mem_append, gt_eq _ _ hk]
  simp only [Option.toList_some, List.mem_singleton]
  constructor
  ·rintro ⟨h1 | h1, h2⟩
   ·exact .inl ⟨h1, h2⟩
   ·exact .inr h1
  ·rintro (⟨h1, h2⟩ | h1)
   ·exact ⟨.inl h1, h2⟩
   ·exact ⟨.inr h1, by rw [h1, ← gt_eq _ _ hk]; exact h⟩)
theorem takeP_no {P : Pr} {has : List Int → Prop} {k : Nat} (hk : k < (allEl P).length) (h : ¬ has (gt (allEl P) k)) : takeP P has (k + 1) = takeP P has k :=
 funext fun y => propext (by
  unfold takeP
  rw [List.take_add_one, List.getElem?_eq_getElem hk, List.mem_append]
  simp only [Option.toList_some, List.mem_singleton]
  constructor
  ·rintro ⟨h1 | h1, h2⟩
   ·exact ⟨h1, h2⟩
   ·rw [h1, ← gt_eq _ _ hk] at h2; exact absurd h2 h
  ·rintro ⟨h1, h2⟩
   exact ⟨.inl h1, h2⟩)
theorem takeP_all {P : Pr} (hP : Valid P) (has : List Int → Prop) : takeP P has (allEl P).length = fun y => Vec P.orders y ∧ has y :=
 funext fun y => propext (by
  unfold takeP
  rw [List.take_length]
  have hm : y ∈ allEl P ↔ Vec P.orders y := by
   unfold allEl
   rw [List.mem_map]
   constructor
   ·rintro ⟨k, hk, rfl⟩
    exact elAt_vec hP _ (by omega)
   ·intro h
    have hb := num_bd hP h
    exact ⟨(num P y).toNat, by rw [List.mem_range]; omega, by rw [show (((num P y).toNat : Nat) : Int) = num P y by omega]; exact elAt_num hP h⟩
  rw [hm])
theorem genP_takeP_vec {P : Pr} (hP : Valid P) {has : List Int → Prop} {k : Nat} : ∀ y, takeP P has k y → Vec P.orders y := fun y h => by
 have := List.mem_of_mem_take h.1
 unfold allEl at this
 rw [List.mem_map] at this
 obtain ⟨j, hj, rfl⟩ := this
 exact elAt_vec hP _ (by omega)
end Go.Proofs.YtdcobapnlpeaaaaGreat
namespace Go.Proofs.YtdcobapnlpeaaaaGreat
open Go.RowKit
set_option maxRecDepth 100000 in
set_option maxHeartbeats 4000000 in
theorem elementsWithN_ok (P : Pr) (G : Grp P) (w : World) (p c1 c2 : Value) (has : List Int → Prop) (Sp : Nat → Prop) (hp : PresP Sp w p P)
  (hc : ∀ (w' : World) (xv : Value) (X : List Int) (Sx : Nat → Prop), Ext w w' → Ints Sx w' xv X → Vec P.orders X → Calls Tryz.prog 143 #[xv, c1, c2] w' (Ret w' fun _ v => ∃ r : Bool, v = .bool r ∧ (r = true ↔ has X))) :
  Calls Tryz.prog 142 #[p, .func (.func 143) #[] #[c1, c2]] w (Ret w fun w' v => RowsO w.heap.size w' v (cseq P (genP P (fun y => Vec P.orders y ∧ has y)))) := by
 have hP := G.v
 have hn6 := hP.n6
 have h729 : ordP P ≤ 729 := hP.le729
 have hpos := hP.ordP_pos
 obtain ⟨pb, po, rfl⟩ := hp.shape
 have HC := Lib.hid hc; clear hc
 go_enter Tryz.func142, Tryz.ntmps142
 go_wp2_with fail
 refine Calls.mono (newSequence_ok P w _ Sp (fun _ => False) hp hn6) ?_
 rintro e1 w1 ⟨v1, rfl, hg1, sb, gb, rfl, hs⟩
 have hgb := hs.tab.lt
 have hsb := hs.sB
 have hsl := hs.slt
 go_wp2_with fail
 refine Calls.mono (allElements_ok P hP w1 _ Sp (hp.ext hg1)) ?_
 rintro e2 w2 ⟨v2, rfl, hg2, hE⟩
 have hel : (allEl P).length = (ordP P).toNat := by simp [allEl]
 have hER : Rows2 (fun k => w1.heap.size ≤ k) w2 v2 (allEl P) := RowsD.rows (SlO.toD hE (by omega))
 obtain ⟨aE, capE, hvE, _, _⟩ := Sl.shape hER
 subst hvE
 obtain ⟨N, hN⟩ : ∃ N, N = (allEl P).length := ⟨_, rfl⟩
 rw [← hN]
 rw [← hN] at hER
 have hN729 : N ≤ 729 := by omega
 have hs2 := hs.kept (bad' := fun _ => False) hg2.size (fun k hk _ => hg2.block k hk (by simp)) (fun _ _ h => h)
 have hI0 : Ind P (genP P (takeP P has 0)) (gt (List.replicate P.orders.length ([] : List Int))) := by
  rw [takeP_zero, G.genP_none]; exact G.ind_one
 have hg02 := grown_trans hg1 hg2
 have hm1 : w1.heap.size ≤ w2.heap.size := hg2.size
 have HN := Lib.hid (And.intro hN hI0); clear hN hI0 hel hE h729 hpos hs
 go_wp2
 go_loopw [13] (fun iv wr => ∃ (k : Nat) (t : List (List Int)), iv = .int .i64 k ∧ k ≤ N ∧ w2.grownBy wr (some gb) ∧ SeqAt w.heap.size (fun _ => False) wr sb gb (.pointer (some ⟨pb, po, none⟩)) P.orders.length t ∧ Hid (Ind P (genP P (takeP P has k)) (gt t))) (fun iv _ => N - (intOf iv).toNat)
 case atStart => exact ⟨0, _, rfl, by omega, grown_refl _ _, hs2, Lib.hid HN.out.2⟩
 case round =>
  clear hs2
  obtain ⟨k, t, rfl, hk, hg, hs, hI⟩ := hrel
  have hgw : Ext w wr := grown_own hg02 hg (fun j hj hlt => by cases hj; omega)
  by_cases hlt : k < N
  ·have hlt' : (k : Int) < N := by omega
   have hkl : k < (allEl P).length := by rw [← HN.out.1]; exact hlt
   have hEr : Rows2 (fun k => w1.heap.size ≤ k) wr (.slice aE N capE) (allEl P) := Rows2.mono hER (frame_of hg (fun j hj _ => ⟨hj, fun e => by cases e; omega⟩))
   rw [HN.out.1] at hEr
   obtain ⟨bx, ox, a2, cap2, hab, _, _, hcx, hrx⟩ := Rows2.at hEr k hkl
   subst hab
   have hxV : Vec P.orders (gt (allEl P) k) := genP_takeP_vec hP (has := fun _ => True) (k := (allEl P).length) _ ⟨by rw [List.take_length]; exact gtMem hkl, trivial⟩
   obtain ⟨x, hx⟩ : ∃ x, x = gt (allEl P) k := ⟨_, rfl⟩
   rw [← hx] at hcx hrx hxV
   have hyes := takeP_yes (has := has) hkl
   have hno := takeP_no (has := has) hkl
   rw [← hx] at hyes hno
   have HX := Lib.hid (And.intro hxV (And.intro hyes hno)); clear hxV hyes hno hx
   have hcall := HC.out wr _ x _ hgw hrx HX.out.1
   go_wp2_with fail
   refine Calls.mono hcall ?_
   rintro e3 w3 ⟨v3, rfl, hg3, r, rfl, hr⟩
   clear hcall hcx
   have hg23 : w2.grownBy w3 (some gb) := grown_trans hg (grown_of_ext _ hg3)
   have hs3 := hs.kept (bad' := fun _ => False) hg3.size (fun k hk _ => hg3.block k hk (by simp)) (fun _ _ h => h)
   have hm3 : w1.heap.size ≤ w3.heap.size := by have := hg23.size; omega
   have hgw3 := grown_trans hgw hg3
   have hrx3 := Ints.ext hrx hg3
   cases r with
   | false =>
    have hI2 : Ind P (genP P (takeP P has (k + 1))) (gt t) := by
     rw [HX.out.2.2 (fun h => by have := hr.2 h; cases this)]; exact hI.out
    have HI2 := Lib.hid hI2; clear hI2 hr hI
    go_wp2
    go_roundw
    case rel => exact ⟨k + 1, t, by go_num, by omega, hg23, hs3, HI2⟩
    case measure => simp [intOf]; omega
   | true =>
    have hstep := HX.out.2.1 (hr.1 rfl)
    have HST := Lib.hid hstep; clear hstep hr
    have hgl : Ext w3 (w3.alloc (.cells #[.slice a2 x.length cap2] 24)) := World.grownBy_alloc _ _ _
    have hsl4 := hs3.kept (bad' := fun _ => False) hgl.size (fun k hk _ => hgl.block k hk (by simp)) (fun _ _ h => h)
    have hlit : Rows2 (fun k => ¬ (k = gb ∨ k = sb)) (w3.alloc (.cells #[.slice a2 x.length cap2] 24)) (.slice (some ⟨w3.heap.size, 0, none⟩) 1 1) [x] := by
     refine ⟨some ⟨w3.heap.size, 0, none⟩, 1, rfl, ⟨by simp, by simp, fun h => by cases h⟩, fun i hi => ⟨w3.heap.size, 0, .slice a2 x.length cap2, rfl, by omega, by simp, ?_, ?_⟩⟩
     ·have : i = 0 := by simpa using hi
      subst this
      rw [World.cell?_alloc_at _ _ _ _ rfl]; rfl
     ·have : i = 0 := by simpa using hi
      subst this
      exact Ints.sub (Ints.ext hrx3 hgl) (fun j hj _ => by
       have hj : w1.heap.size ≤ j := hj
       omega)
    have hx1 : ∀ y ∈ [x], Vec P.orders y := fun y hy => by rw [List.mem_singleton.1 hy]; exact HX.out.1
    have HL := Lib.hid (And.intro hlit hx1); clear hlit hx1
    have hgwl := grown_trans hgw3 hgl
    go_wp2_with fail
    refine Calls.mono (add_ok P G _ sb gb w.heap.size _ _ [x] t (genP P (takeP P has k)) (hp.mono (fun k _ hlt => ⟨by omega, Nat.lt_of_lt_of_le hlt hgwl.size, hgwl.block k hlt (by simp)⟩)) hsl4 hI.out HL.out.2 HL.out.1 (by simp)) ?_
    rintro e5 w5 ⟨t5, g5, rfl, hg5, hs5, hA, _, _⟩
    have hI5 : Ind P (genP P (takeP P has (k + 1))) (gt t5) := by
     rw [HST.out, ← genP_or]; exact hA
    have HI5 := Lib.hid hI5; clear hI5 hA
    have hg25 : w2.grownBy w5 (some gb) := grown_trans (grown_trans hg23 (grown_of_ext _ hgl)) hg5
    clear hI hs hs3 hsl4 hg5 hEr
    go_wp2
    go_roundw
    case rel => exact ⟨k + 1, t5, by go_num, by omega, hg25, hs5, HI5⟩
    case measure => simp [intOf]; omega
  ·have hke : k = N := by omega
   have hIn : Ind P (genP P (fun y => Vec P.orders y ∧ has y)) (gt t) := by
    have := hI.out
    rw [hke, HN.out.1, takeP_all hP] at this; exact this
   have HIn := Lib.hid hIn; clear hIn hI
   go_wp2_with fail
   refine Calls.mono (canonical_ok P G wr sb gb w.heap.size _ t _ _ _ (hp.ext hgw) hs HIn.out) ?_
   rintro e3 w3 ⟨v3, rfl, hg3, hO⟩
   go_wp2
   go_ret
   exact ⟨_, rfl, grown_trans hgw hg3, hO.weak hgw.size⟩
set_option maxRecDepth 100000 in
set_option maxHeartbeats 4000000 in
theorem elementsWithC_ok (P : Pr) (G : Grp P) (w : World) (p c1 c2 : Value) (has : List Int → Prop) (Sp : Nat → Prop) (hp : PresP Sp w p P)
  (hc : ∀ (w' : World) (xv : Value) (X : List Int) (Sx : Nat → Prop), Ext w w' → Ints Sx w' xv X → Vec P.orders X → Calls Tryz.prog 234 #[xv, c1, c2] w' (Ret w' fun _ v => ∃ r : Bool, v = .bool r ∧ (r = true ↔ has X))) :
  Calls Tryz.prog 142 #[p, .func (.func 234) #[] #[c1, c2]] w (Ret w fun w' v => RowsO w.heap.size w' v (cseq P (genP P (fun y => Vec P.orders y ∧ has y)))) := by
 have hP := G.v
 have hn6 := hP.n6
 have h729 : ordP P ≤ 729 := hP.le729
 have hpos := hP.ordP_pos
 obtain ⟨pb, po, rfl⟩ := hp.shape
 have HC := Lib.hid hc; clear hc
 go_enter Tryz.func142, Tryz.ntmps142
 go_wp2_with fail
 refine Calls.mono (newSequence_ok P w _ Sp (fun _ => False) hp hn6) ?_
 rintro e1 w1 ⟨v1, rfl, hg1, sb, gb, rfl, hs⟩
 have hgb := hs.tab.lt
 have hsb := hs.sB
 have hsl := hs.slt
 go_wp2_with fail
 refine Calls.mono (allElements_ok P hP w1 _ Sp (hp.ext hg1)) ?_
 rintro e2 w2 ⟨v2, rfl, hg2, hE⟩
 have hel : (allEl P).length = (ordP P).toNat := by simp [allEl]
 have hER : Rows2 (fun k => w1.heap.size ≤ k) w2 v2 (allEl P) := RowsD.rows (SlO.toD hE (by omega))
 obtain ⟨aE, capE, hvE, _, _⟩ := Sl.shape hER
 subst hvE
 obtain ⟨N, hN⟩ : ∃ N, N = (allEl P).length := ⟨_, rfl⟩
 rw [← hN]
 rw [← hN] at hER
 have hN729 : N ≤ 729 := by omega
 have hs2 := hs.kept (bad' := fun _ => False) hg2.size (fun k hk _ => hg2.block k hk (by simp)) (fun _ _ h => h)
 have hI0 : Ind P (genP P (takeP P has 0)) (gt (List.replicate P.orders.length ([] : List Int))) := by
  rw [takeP_zero, G.genP_none]; exact G.ind_one
 have hg02 := grown_trans hg1 hg2
 have hm1 : w1.heap.size ≤ w2.heap.size := hg2.size
 have HN := Lib.hid (And.intro hN hI0); clear hN hI0 hel hE h729 hpos hs
 go_wp2
 go_loopw [13] (fun iv wr => ∃ (k : Nat) (t : List (List Int)), iv = .int .i64 k ∧ k ≤ N ∧ w2.grownBy wr (some gb) ∧ SeqAt w.heap.size (fun _ => False) wr sb gb (.pointer (some ⟨pb, po, none⟩)) P.orders.length t ∧ Hid (Ind P (genP P (takeP P has k)) (gt t))) (fun iv _ => N - (intOf iv).toNat)
 case atStart => exact ⟨0, _, rfl, by omega, grown_refl _ _, hs2, Lib.hid HN.out.2⟩
 case round =>
  clear hs2
  obtain ⟨k, t, rfl, hk, hg, hs, hI⟩ := hrel
  have hgw : Ext w wr := grown_own hg02 hg (fun j hj hlt => by cases hj; omega)
  by_cases hlt : k < N
  ·have hlt' : (k : Int) < N := by omega
   have hkl : k < (allEl P).length := by rw [← HN.out.1]; exact hlt
   have hEr : Rows2 (fun k => w1.heap.size ≤ k) wr (.slice aE N capE) (allEl P) := Rows2.mono hER (frame_of hg (fun j hj _ => ⟨hj, fun e => by cases e; omega⟩))
   rw [HN.out.1] at hEr
   obtain ⟨bx, ox, a2, cap2, hab, _, _, hcx, hrx⟩ := Rows2.at hEr k hkl
   subst hab
   have hxV : Vec P.orders (gt (allEl P) k) := genP_takeP_vec hP (has := fun _ => True) (k := (allEl P).length) _ ⟨by rw [List.take_length]; exact gtMem hkl, trivial⟩
   obtain ⟨x, hx⟩ : ∃ x, x = gt (allEl P) k := ⟨_, rfl⟩
   rw [← hx] at hcx hrx hxV
   have hyes := takeP_yes (has := has) hkl
   have hno := takeP_no (has := has) hkl
   rw [← hx] at hyes hno
   have HX := Lib.hid (And.intro hxV (And.intro hyes hno)); clear hxV hyes hno hx
   have hcall := HC.out wr _ x _ hgw hrx HX.out.1
   go_wp2_with fail
   refine Calls.mono hcall ?_
   rintro e3 w3 ⟨v3, rfl, hg3, r, rfl, hr⟩
   clear hcall hcx
   have hg23 : w2.grownBy w3 (some gb) := grown_trans hg (grown_of_ext _ hg3)
   have hs3 := hs.kept (bad' := fun _ => False) hg3.size (fun k hk _ => hg3.block k hk (by simp)) (fun _ _ h => h)
   have hm3 : w1.heap.size ≤ w3.heap.size := by have := hg23.size; omega
   have hgw3 := grown_trans hgw hg3
   have hrx3 := Ints.ext hrx hg3
   cases r with
   | false =>
    have hI2 : Ind P (genP P (takeP P has (k + 1))) (gt t) := by
     rw [HX.out.2.2 (fun h => by have := hr.2 h; cases this)]; exact hI.out
    have HI2 := Lib.hid hI2; clear hI2 hr hI
    go_wp2
    go_roundw
    case rel => exact ⟨k + 1, t, by go_num, by omega, hg23, hs3, HI2⟩
    case measure => simp [intOf]; omega
   | true =>
    have hstep := HX.out.2.1 (hr.1 rfl)
    have HST := Lib.hid hstep; clear hstep hr
    have hgl : Ext w3 (w3.alloc (.cells #[.slice a2 x.length cap2] 24)) := World.grownBy_alloc _ _ _
    have hsl4 := hs3.kept (bad' := fun _ => False) hgl.size (fun k hk _ => hgl.block k hk (by simp)) (fun _ _ h => h)
    have hlit : Rows2 (fun k => ¬ (k = gb ∨ k = sb)) (w3.alloc (.cells #[.slice a2 x.length cap2] 24)) (.slice (some ⟨w3.heap.size, 0, none⟩) 1 1) [x] := by
     refine ⟨some ⟨w3.heap.size, 0, none⟩, 1, rfl, ⟨by simp, by simp, fun h => by cases h⟩, fun i hi => ⟨w3.heap.size, 0, .slice a2 x.length cap2, rfl, by omega, by simp, ?_, ?_⟩⟩
     ·have : i = 0 := by simpa using hi
      subst this
      rw [World.cell?_alloc_at _ _ _ _ rfl]; rfl
     ·have : i = 0 := by simpa using hi
      subst this
      exact Ints.sub (Ints.ext hrx3 hgl) (fun j hj _ => by
       have hj : w1.heap.size ≤ j := hj
       omega)
    have hx1 : ∀ y ∈ [x], Vec P.orders y := fun y hy => by rw [List.mem_singleton.1 hy]; exact HX.out.1
    have HL := Lib.hid (And.intro hlit hx1); clear hlit hx1
    have hgwl := grown_trans hgw3 hgl
    go_wp2_with fail
    refine Calls.mono (add_ok P G _ sb gb w.heap.size _ _ [x] t (genP P (takeP P has k)) (hp.mono (fun k _ hlt => ⟨by omega, Nat.lt_of_lt_of_le hlt hgwl.size, hgwl.block k hlt (by simp)⟩)) hsl4 hI.out HL.out.2 HL.out.1 (by simp)) ?_
    rintro e5 w5 ⟨t5, g5, rfl, hg5, hs5, hA, _, _⟩
    have hI5 : Ind P (genP P (takeP P has (k + 1))) (gt t5) := by
     rw [HST.out, ← genP_or]; exact hA
    have HI5 := Lib.hid hI5; clear hI5 hA
    have hg25 : w2.grownBy w5 (some gb) := grown_trans (grown_trans hg23 (grown_of_ext _ hgl)) hg5
    clear hI hs hs3 hsl4 hg5 hEr
    go_wp2
    go_roundw
    case rel => exact ⟨k + 1, t5, by go_num, by omega, hg25, hs5, HI5⟩
    case measure => simp [intOf]; omega
  ·have hke : k = N := by omega
   have hIn : Ind P (genP P (fun y => Vec P.orders y ∧ has y)) (gt t) := by
    have := hI.out
    rw [hke, HN.out.1, takeP_all hP] at this; exact this
   have HIn := Lib.hid hIn; clear hIn hI
   go_wp2_with fail
   refine Calls.mono (canonical_ok P G wr sb gb w.heap.size _ t _ _ _ (hp.ext hgw) hs HIn.out) ?_
   rintro e3 w3 ⟨v3, rfl, hg3, hO⟩
   go_wp2
   go_ret
   exact ⟨_, rfl, grown_trans hgw hg3, hO.weak hgw.size⟩
end Go.Proofs.YtdcobapnlpeaaaaGreat
namespace Go.Proofs.YtdcobapnlpeaaaaGreat
open Go.RowKit
theorem genP_idem {P : Pr} {H : List Int → Prop} (S : Sub P H) : genP P H = H :=
 funext fun _ => propext ⟨fun h => h H S (fun _ h => h), fun h => genP_mem h⟩
theorem Grp.nr_of {P : Pr} (G : Grp P) {H : List Int → Prop} (S : Sub P H) : (fun x => Vec P.orders x ∧ ∀ y ∈ cseq P H, H (rConj P y x)) = nrP P H := by
 have hf := G.seq_facts S
 refine funext fun _ => propext ⟨fun h => ⟨h.1, fun y hy => ?_⟩, fun h => ⟨h.1, fun y hy => h.2 y (hf.2.1 y hy)⟩⟩
 have h1 : genP P (fun z => z ∈ cseq P H) y := by rw [G.genP_cseq S]; exact hy
 exact (h1 _ (G.pull_sub S h.1) (fun z hz => ⟨S.vec z (hf.2.1 z hz), h.2 z hz⟩)).2
set_option maxRecDepth 100000 in
set_option maxHeartbeats 4000000 in
theorem movesInto_ok (P : Pr) (G : Grp P) (w : World) (p uv vv xv : Value) (U : List (List Int)) (X : List Int) (H : List Int → Prop) (Sp Su Sv Sx : Nat → Prop) (S : Sub P H) (hp : PresP Sp w p P) (hu : Rows2 Su w uv U) (hv : Rows2 Sv w vv (cseq P H)) (hx : Ints Sx w xv X) (hU : ∀ x ∈ U, Vec P.orders x) (hX : Vec P.orders X) :
  Calls Tryz.prog 140 #[p, uv, vv, xv] w (Ret w fun _ v => ∃ r : Bool, v = .bool r ∧ (r = true ↔ ∀ y ∈ U, H (rConj P y X))) := by
 have hP := G.v
 have hn6 := hP.n6
 obtain ⟨pb, po, rfl⟩ := hp.shape
 obtain ⟨au, capu, rfl, _, hul⟩ := Sl.shape hu
 obtain ⟨av, nv, capv, hvv⟩ : ∃ a n c, vv = Value.slice a n c := by obtain ⟨a, c, e, _⟩ := Sl.shape hv; exact ⟨_, _, _, e⟩
 subst hvv
 obtain ⟨ax, capx, rfl, _, _⟩ := hx.shape
 have HU := Lib.hid (And.intro hU hX); clear hU hX
 go_enter Tryz.func140, Tryz.ntmps140
 go_wp2
 go_loopw [13] (fun iv wr => ∃ (i : Nat), iv = .int .i64 i ∧ i ≤ U.length ∧ Ext w wr ∧ Hid (∀ k, k < i → H (rConj P (gt U k) X))) (fun iv _ => U.length - (intOf iv).toNat)
 case atStart => exact ⟨0, rfl, by omega, grown_refl _ _, Lib.hid (fun k hk => by omega)⟩
 case round =>
  obtain ⟨i, rfl, hi, hg, hH⟩ := hrel
  by_cases hlt : i < U.length
  ·have hlt' : (i : Int) < U.length := by omega
   obtain ⟨b, off, ay, capy, rfl, _, _, hc, hy⟩ := Rows2.at hu i hlt
   have hcr := hg.cell hc (by simp)
   have hyV := HU.out.1 _ (gtMem hlt)
   obtain ⟨y, hye⟩ : ∃ y, y = gt U i := ⟨_, rfl⟩
   rw [← hye] at hcr hy hyV
   have HY := Lib.hid (And.intro hye hyV); clear hye hyV hc
   go_wp2_with fail
   refine Calls.mono (conjugate_ok P hP wr _ _ _ y X Sp Su Sx (hp.ext hg) (Ints.ext hy hg) (hx.ext hg) HY.out.2 HU.out.2) ?_
   rintro eC wC ⟨vC, rfl, hgC, hOC⟩
   rw [G.iConj_eq HY.out.2 HU.out.2] at hOC
   have hcV := G.conjV HY.out.2 HU.out.2
   have hCI := hOC.ints (by rw [hcV.1]; omega)
   obtain ⟨aC, nC, capC, hvC⟩ : ∃ a n c, vC = Value.slice a n c := by obtain ⟨a, c, e, _⟩ := hCI.shape; exact ⟨_, _, _, e⟩
   subst hvC
   have HCV := Lib.hid hcV; clear hcV hOC hcr
   have hgC2 := grown_trans hg hgC
   go_wp2_with fail
   refine Calls.mono (isMember_ok P G wC _ _ _ H (rConj P y X) Sp Sv _ S (hp.ext hgC2) (Rows2.ext hv hgC2) hCI HCV.out) ?_
   rintro eM wM ⟨vM, rfl, hgM, r, rfl, hr⟩
   have HR := Lib.hid hr; clear hr hCI
   cases r with
   | true =>
    go_wp2
    go_roundw
    case rel => exact ⟨i + 1, by go_num, by omega, grown_trans hgC2 hgM, Lib.hid (fun k hk => by
     rcases Nat.lt_succ_iff_lt_or_eq.1 hk with h | h
     ·exact hH.out k h
     ·rw [h, ← HY.out.1]; exact HR.out.1 (by simp))⟩
    case measure => simp [intOf]; omega
   | false =>
    go_wp2
    go_ret
    exact ⟨_, rfl, grown_trans hgC2 hgM, false, rfl, by
     constructor
     ·intro h; cases h
     ·intro h
      have := HR.out.2 (by rw [HY.out.1]; exact h _ (gtMem hlt))
      cases this⟩
  ·have hie : i = U.length := by omega
   have HF := Lib.hid (show ∀ y ∈ U, H (rConj P y X) from fun y hy => by
    obtain ⟨m, hm, rfl⟩ := mem_gt hy
    exact hH.out m (by omega))
   go_wp2
   go_ret
   first
    | exact ⟨_, rfl, hg, true, rfl, by simpa using HF.out⟩
    | exact ⟨_, rfl, hg, .inr ⟨rfl, HF.out⟩⟩
set_option maxRecDepth 100000 in
set_option maxHeartbeats 4000000 in
theorem nzrCl_ok (P : Pr) (G : Grp P) (w : World) (p uv xv : Value) (c2 : Nat) (H : List Int → Prop) (X : List Int) (Sp Su Sx : Nat → Prop) (S : Sub P H) (hp : PresP Sp w p P) (hu : Rows2 Su w uv (cseq P H)) (h2 : w.cell? ⟨c2, 0, none⟩ = some uv) (hx : Ints Sx w xv X) (hX : Vec P.orders X) :
  Calls Tryz.prog 143 #[xv, p, .pointer (some ⟨c2, 0, none⟩)] w (Ret w fun _ v => ∃ r : Bool, v = .bool r ∧ (r = true ↔ ∀ y ∈ cseq P H, H (rConj P y X))) := by
 have hcon := movesInto_ok P G w p uv uv xv (cseq P H) X H Sp Su Su Sx S hp hu hu hx (fun y hy => S.vec y ((G.seq_facts S).2.1 y hy)) hX
 obtain ⟨pb, po, rfl⟩ := hp.shape
 obtain ⟨au, nu, capu, hvu⟩ : ∃ a n c, uv = Value.slice a n c := by obtain ⟨a, c, e, _⟩ := Sl.shape hu; exact ⟨_, _, _, e⟩
 subst hvu
 obtain ⟨ax, capx, rfl, _, _⟩ := hx.shape
 have HC := Lib.hid hcon; clear hcon
 go_enter Tryz.func143, Tryz.ntmps143
 go_wp2_with fail
 refine Calls.mono HC.out ?_
 rintro e1 w1 ⟨v1, rfl, hg1, r, rfl, hr⟩
 have HR := Lib.hid hr; clear hr
 go_wp2
 go_ret
 exact ⟨_, rfl, hg1, r, rfl, HR.out⟩
set_option maxRecDepth 100000 in
set_option maxHeartbeats 4000000 in
theorem iNzer_ok (P : Pr) (hr : rconsB P = true) (w : World) (pv uv : Value) (U : List (List Int)) (Sp Su : Nat → Prop) (hpv : PresV Sp w pv P) (hu : Rows2 Su w uv U) (hU : SubB P U) :
  Calls Tryz.prog 40 #[pv, uv] w (Ret w fun w' v => ∃ a n c, v = .tuple #[.slice a n c, .int .i64 0] ∧ RowsO w.heap.size w' (.slice a n c) (cseq P (nrP P (gU P U)))) := by
 have G := grp_of_r hr
 have hn6 := G.v.n6
 obtain ⟨vo, vp, vc, rfl, h3⟩ := hpv
 have hp00 := PresP.box h3 28
 have hg00 : Ext w (w.alloc (.cells #[vo, vp, vc] 28)) := World.grownBy_alloc _ _ _
 obtain ⟨au, capu, rfl, _, _⟩ := Sl.shape hu
 have hs00 : (w.alloc (.cells #[vo, vp, vc] 28)).heap.size = w.heap.size + 1 := by simp
 have hgu : Ext (w.alloc (.cells #[vo, vp, vc] 28)) ((w.alloc (.cells #[vo, vp, vc] 28)).alloc (.cells #[.slice au U.length capu] 25)) := World.grownBy_alloc _ _ _
 have hcu : ((w.alloc (.cells #[vo, vp, vc] 28)).alloc (.cells #[.slice au U.length capu] 25)).cell? ⟨w.heap.size + 1, 0, none⟩ = some (.slice au U.length capu) := by
  rw [← hs00, World.cell?_alloc_at _ _ _ _ rfl]; rfl
 have hsz : ((w.alloc (.cells #[vo, vp, vc] 28)).alloc (.cells #[.slice au U.length capu] 25)).heap.size = w.heap.size + 1 + 1 := by simp
 have hp0 := hp00.ext hgu
 have hg0 := grown_trans hg00 hgu
 have hu0 := Rows2.ext hu hg0
 have hl := rows3One hu0
 have hg1 : Ext ((w.alloc (.cells #[vo, vp, vc] 28)).alloc (.cells #[.slice au U.length capu] 25)) (((w.alloc (.cells #[vo, vp, vc] 28)).alloc (.cells #[.slice au U.length capu] 25)).alloc (.cells #[.slice au U.length capu] 25)) := World.grownBy_alloc _ _ _
 have hcon := areSubgroups_ok P _ _ _ [U] Any Any (hp0.ext hg1) hl
 rw [hsz] at hcon
 have S := G.subB hU
 have HH := Lib.hid (And.intro hr (And.intro hU S)); clear hr hl hu hs00 hp00 hg00 hgu hsz hU
 go_enter Tryz.func40, Tryz.ntmps40
 go_wp2_with fail
 refine Calls.mono hcon ?_
 rintro e1 w1 ⟨v1, rfl, hgA, r1, rfl, hr1⟩
 clear hcon
 obtain rfl : r1 = true := hr1.2 (by have := HH.out; simp only [List.mem_cons, List.mem_nil_iff, or_false]; exact ⟨this.1, fun u hu => by subst hu; exact this.2.1⟩)
 clear hr1
 have hg01 := grown_trans hg1 hgA
 generalize (w.alloc (.cells #[vo, vp, vc] 28)).alloc (.cells #[.slice au U.length capu] 25) = w0 at *
 clear hg1 hgA
 have hp1 := hp0.ext hg01
 have hc1 := hg01.cell hcu (by simp)
 have hu1 : Rows2 Su w1 (.slice au U.length capu) (cseq P (gU P U)) := by
  have h := Rows2.ext hu0 hg01
  have e : cseq P (gU P U) = U := HH.out.2.1.2.symm
  rw [e]; exact h
 have hnz := G.nr_of HH.out.2.2
 have hE := elementsWithN_ok P G w1 (.pointer (some ⟨w.heap.size, 0, none⟩)) (.pointer (some ⟨w.heap.size, 0, none⟩)) (.pointer (some ⟨w.heap.size + 1, 0, none⟩)) (fun x => ∀ y ∈ cseq P (gU P U), gU P U (rConj P y x)) Any hp1 (fun w' xv X Sx hg hx hX => nzrCl_ok P G w' _ _ xv (w.heap.size + 1) (gU P U) X Any Su Sx HH.out.2.2 (hp1.ext hg) (Rows2.ext hu1 hg) (hg.cell hc1 (by simp)) hx hX)
 rw [hnz, genP_idem (G.nr_sub HH.out.2.2)] at hE
 have HE := Lib.hid hE; clear hE hnz hu1 hc1 hcu
 go_wp2_with fail
 refine Calls.mono HE.out ?_
 rintro e2 w2 ⟨v2, rfl, hg2, hO⟩
 have hl2 := G.cseq_len (G.nr_sub HH.out.2.2)
 obtain ⟨ad, nd, capd, hvd⟩ : ∃ a n c, v2 = Value.slice a n c := by obtain ⟨a, c, e, _⟩ := SlD.shape (hO.toD (by omega)); exact ⟨_, _, _, e⟩
 subst hvd
 have HO := Lib.hid hO; clear hO
 go_wp2
 go_ret2
 exact ⟨_, rfl, grown_trans hg0 (grown_trans hg01 hg2), _, _, _, rfl, HO.out.weak (by have := hg01.size; have := hg0.size; omega)⟩
end Go.Proofs.YtdcobapnlpeaaaaGreat
namespace Go.Proofs.YtdcobapnlpeaaaaGreat
open Go.RowKit
noncomputable def cjU (P : Pr) (u : List (List Int)) (x : List Int) : List (List Int) := cseq P (genP P (fun z => z ∈ conjL P u x))
abbrev gP (P : Pr) (u : List (List Int)) : List Int → Prop := genP P (fun z => z ∈ u)
section
variable {P : Pr} (G : Grp P)
include G
theorem Grp.cjU_gen {u : List (List Int)} (hu : SubB P u) {x : List Int} (hx : Vec P.orders x) : genP P (fun z => z ∈ conjL P u x) = cjS P (gP P u) x := by
 have h := G.genP_conjL (G.subB hu) hx
 rw [← hu.2] at h
 exact h
theorem Grp.cjU_eq {u : List (List Int)} (hu : SubB P u) {x : List Int} (hx : Vec P.orders x) : cjU P u x = cseq P (cjS P (gP P u) x) := by
 unfold cjU; rw [G.cjU_gen hu hx]
end
end Go.Proofs.YtdcobapnlpeaaaaGreat
namespace Go.Proofs.YtdcobapnlpeaaaaGreat
open Go.RowKit
section
variable {P : Pr} {G : Grp P}
theorem cjU_order (G : Grp P) {u : List (List Int)} (hu : SubB P u) {g : List Int} (hg : Vec P.orders g) : prodU P (cjU P u g) (cjU P u g).length = prodU P u u.length := by
 have h0 := G.order_elems (G.cj_sub (G.subB hu) hg)
 have h1 := G.order_elems (G.subB hu)
 have e1 : cseq P (cjS P (genP P fun x => x ∈ u) g) = cjU P u g := (G.cjU_eq hu hg).symm
 have e2 : cseq P (genP P fun x => x ∈ u) = u := hu.2.symm
 rw [e1] at h0
 rw [e2] at h1
 rw [h0, h1]
 have h2 : ((elemsIn P (genP P fun x => x ∈ u)).map (fun y => rConj P y g)).Nodup := by
  refine List.nodup_iff_pairwise_ne.2 ?_
  rw [List.pairwise_map]
  refine (List.nodup_iff_pairwise_ne.1 (elemsIn_nodup G.v _)).imp_of_mem (fun {a b} ha hb hab e => hab ?_)
  have va := (G.subB hu).vec a ((elemsIn_mem G.v (G.subB hu).vec a).1 ha)
  have vb := (G.subB hu).vec b ((elemsIn_mem G.v (G.subB hu).vec b).1 hb)
  rw [← G.conj_back va hg, ← G.conj_back vb hg, e]
 have h3 := (List.perm_ext_iff_of_nodup (elemsIn_nodup G.v (cjS P (genP P fun x => x ∈ u) g)) h2).2 (fun x => by
  rw [elemsIn_mem G.v (G.cj_sub (G.subB hu) hg).vec, List.mem_map]
  constructor
  ·rintro ⟨z, hz, rfl⟩
   exact ⟨z, (elemsIn_mem G.v (G.subB hu).vec z).2 hz, rfl⟩
  ·rintro ⟨z, hz, rfl⟩
   exact ⟨z, (elemsIn_mem G.v (G.subB hu).vec z).1 hz, rfl⟩)
 rw [h3.length_eq, List.length_map]
end
end Go.Proofs.YtdcobapnlpeaaaaGreat
namespace Go.Proofs.YtdcobapnlpeaaaaGreat
open Go.RowKit
set_option maxRecDepth 100000 in
set_option maxHeartbeats 2000000 in
theorem iElAt_ok (P : Pr) (hr : rconsB P = true) (w : World) (pv : Value) (t : Int) (Sp : Nat → Prop) (hpv : PresV Sp w pv P) (h0 : 0 ≤ t) (h1 : t < ordP P) :
  Calls Tryz.prog 45 #[pv, .int .i64 t] w (Ret w fun w' v => ∃ a n c, v = .tuple #[.slice a n c, .int .i64 0] ∧ Own w.heap.size w' (.slice a n c) (elAt P t)) := by
 have G := grp_of_r hr
 have hP := G.v
 have hn6 := hP.n6
 have h729 : ordP P ≤ 729 := hP.le729
 obtain ⟨vo, vp, vc, rfl, h3⟩ := hpv
 have hp0 := PresP.box h3 28
 have hg0 : Ext w (w.alloc (.cells #[vo, vp, vc] 28)) := World.grownBy_alloc _ _ _
 obtain ⟨vo6, vp6, vc6, _, _, hc0, hc1, hc2, h36⟩ := hp0.at
 simp only [Nat.zero_add] at hc1 hc2
 have hE := isConsistent_ok P (w.alloc (.cells #[vo, vp, vc] 28)) (.agg #[vo6, vp6, vc6]) Any ⟨_, _, _, rfl, h36⟩
 have hv : iconsB P = true := by rw [icons_eq]; exact hr
 rw [hv] at hE
 have HR := Lib.hid hr; clear hr hv
 go_enter Tryz.func45, Tryz.ntmps45
 go_wp2_with fail
 clear hc0 hc1 hc2
 have hs0 : w.heap.size + 1 ≤ (w.alloc (.cells #[vo, vp, vc] 28)).heap.size := by simp
 generalize w.alloc (.cells #[vo, vp, vc] 28) = w0 at *
 refine Calls.mono hE ?_
 rintro e1 w1 ⟨v1, rfl, hg1, rfl⟩
 clear hE
 have hp1 := hp0.ext hg1
 have hor := orderOf_ok w1 _ P Any hP hp1
 have hin : inB t 0 (ordP P - 1) = true := by unfold inB; simp; omega
 have hww : IntKind.i64.wrap (ordP P - 1) = ordP P - 1 := IntWalk.i64_in _ (by omega)
 go_wp2_with fail
 refine Calls.mono hor ?_
 rintro _ _ ⟨rfl, rfl⟩
 clear hor
 go_wp2_with fail
 refine Calls.mono (inside_ok _ _ _ _) ?_
 rintro _ _ ⟨rfl, rfl⟩
 rw [hin]
 clear hin hww
 go_wp2_with fail
 refine Calls.mono (elementAt_ok P hP w1 _ t Any hp1 h0 (by omega)) ?_
 rintro e2 w2 ⟨v2, rfl, hg2, hO⟩
 have hV := elAt_vec hP t h0
 have hI := hO.ints (by rw [hV.1]; omega)
 obtain ⟨ad, nd, capd, hvd⟩ : ∃ a n c, v2 = Value.slice a n c := by obtain ⟨a, c, e, _⟩ := hI.shape; exact ⟨_, _, _, e⟩
 subst hvd
 have HO := Lib.hid hO; clear hO hI hV
 go_wp2
 go_ret2
 exact ⟨_, rfl, grown_trans hg0 (grown_trans hg1 hg2), _, _, _, rfl, HO.out.weak (by have := hg1.size; omega)⟩
end Go.Proofs.YtdcobapnlpeaaaaGreat
namespace Go.Proofs.YtdcobapnlpeaaaaGreat
open Go.RowKit
def FstI (q : Nat → Prop) (n : Nat) (r : Int) : Prop := (∃ k : Nat, r = k ∧ k < n ∧ q k ∧ ∀ j, j < k → ¬ q j) ∨ (r = -1 ∧ ∀ j, j < n → ¬ q j)
theorem FstI.one {q : Nat → Prop} {n : Nat} {r r' : Int} (h : FstI q n r) (h' : FstI q n r') : r = r' := by
 rcases h with ⟨k, rfl, hk, hq, hm⟩ | ⟨rfl, hm⟩
 ·rcases h' with ⟨k', rfl, hk', hq', hm'⟩ | ⟨rfl, hm'⟩
  ·rcases Nat.lt_trichotomy k k' with h1 | h1 | h1
   ·exact absurd hq (hm' k h1)
   ·rw [h1]
   ·exact absurd hq' (hm k' h1)
  ·exact absurd hq (hm' k hk)
 ·rcases h' with ⟨k', rfl, hk', hq', hm'⟩ | ⟨rfl, hm'⟩
  ·exact absurd hq' (hm k' hk')
  ·rfl
def mvQ (P : Pr) (U V : List (List Int)) (k : Nat) : Prop := prodU P U U.length = prodU P V V.length ∧ ∀ y ∈ U, gU P V (rConj P y (elAt P k))
open Classical in
noncomputable def cjR (P : Pr) (U V : List (List Int)) : Int := if h : ∃ r, FstI (mvQ P U V) (ordP P).toNat r then Classical.choose h else -1
theorem cjR_eq {P : Pr} {U V : List (List Int)} {r : Int} (h : FstI (mvQ P U V) (ordP P).toNat r) : cjR P U V = r := by
 have hh : ∃ r, FstI (mvQ P U V) (ordP P).toNat r := ⟨r, h⟩
 unfold cjR
 rw [dif_pos hh]
 exact (Classical.choose_spec hh).one h
open Classical in
noncomputable def sjC (P : Pr) (U V : List (List Int)) : Int := if twoOk P U V then (if cjR P U V = -1 then 4 else 0) else 1
open Classical in
noncomputable def sjL (P : Pr) (U V : List (List Int)) : List Int := if twoOk P U V ∧ cjR P U V ≠ -1 then elAt P (cjR P U V) else []
theorem sj_bad {P : Pr} {U V : List (List Int)} (h : ¬ twoOk P U V) : sjC P U V = 1 ∧ sjL P U V = [] := by
 unfold sjC sjL; rw [if_neg h, if_neg (fun hh => h hh.1)]; exact ⟨rfl, rfl⟩
theorem sj_no {P : Pr} {U V : List (List Int)} (h : twoOk P U V) (hr : FstI (mvQ P U V) (ordP P).toNat (-1)) : sjC P U V = 4 ∧ sjL P U V = [] := by
 unfold sjC sjL; rw [if_pos h, cjR_eq hr, if_pos rfl, if_neg (fun hh => hh.2 rfl)]; exact ⟨rfl, rfl⟩
theorem sj_yes {P : Pr} {U V : List (List Int)} (h : twoOk P U V) {k : Nat} (hr : FstI (mvQ P U V) (ordP P).toNat k) : sjC P U V = 0 ∧ sjL P U V = elAt P k := by
 have hne : ((k : Nat) : Int) ≠ -1 := by omega
 unfold sjC sjL; rw [if_pos h, cjR_eq hr, if_neg hne, if_pos ⟨h, hne⟩]; exact ⟨rfl, rfl⟩
set_option maxRecDepth 100000 in
set_option maxHeartbeats 4000000 in
theorem iSubCj_ok (P : Pr) (w : World) (pv uv vv : Value) (U V : List (List Int)) (Sp Su Sv : Nat → Prop) (hpv : PresV Sp w pv P) (hu : Rows2 Su w uv U) (hv : Rows2 Sv w vv V) :
  Calls Tryz.prog 38 #[pv, uv, vv] w (Ret w fun w' v => ∃ a n c, v = .tuple #[.slice a n c, .int .i64 (sjC P U V)] ∧ Ints Any w' (.slice a n c) (sjL P U V)) := by
 obtain ⟨vo, vp, vc, rfl, h3⟩ := hpv
 have hp0 := PresP.box h3 28
 have hg0 : Ext w (w.alloc (.cells #[vo, vp, vc] 28)) := World.grownBy_alloc _ _ _
 have hs0 : (w.alloc (.cells #[vo, vp, vc] 28)).heap.size = w.heap.size + 1 := by simp
 have hu0 := Rows2.ext hu hg0
 have hv0 := Rows2.ext hv hg0
 obtain ⟨au, capu, rfl, _, _⟩ := Sl.shape hu
 obtain ⟨av, capv, rfl, _, _⟩ := Sl.shape hv
 have hg1 : Ext (w.alloc (.cells #[vo, vp, vc] 28)) ((w.alloc (.cells #[vo, vp, vc] 28)).alloc (.cells #[.slice au U.length capu, .slice av V.length capv] 25)) := World.grownBy_alloc _ _ _
 have hl := rows3Two hu0 hv0
 have hcon := areSubgroups_ok P _ _ _ [U, V] Any Any (hp0.ext hg1) hl
 rw [hs0] at hcon
 clear hl hu hv
 go_enter Tryz.func38, Tryz.ntmps38
 go_wp2_with fail
 refine Calls.mono hcon ?_
 rintro e1 w1 ⟨v1, rfl, hgA, r1, rfl, hr1⟩
 clear hcon
 replace hr1 : r1 = true ↔ twoOk P U V := by rw [hr1]; unfold twoOk; simp
 have hg01 := grown_trans hg1 hgA
 have HS := Lib.hid hs0; clear hs0
 generalize hw0 : w.alloc (.cells #[vo, vp, vc] 28) = w0 at *
 clear hw0 hg1 hgA
 cases r1 with
 | false =>
  obtain ⟨hc, hL⟩ := sj_bad (P := P) (U := U) (V := V) (fun h => by have := hr1.2 h; cases this)
  have HC := Lib.hid (And.intro hc hL); clear hc hL hr1
  go_wp2
  go_ret2
  exact ⟨_, rfl, grown_trans hg0 hg01, none, 0, 0, by rw [HC.out.1]; rfl, by rw [HC.out.2]; exact ⟨none, 0, rfl, ⟨by simp, by simp, fun _ => rfl⟩, fun i hi => by simp at hi⟩⟩
 | true =>
  have hok := hr1.1 rfl
  have G := grp_of_r hok.1
  have hP := G.v
  have hn6 := hP.n6
  have h729 : ordP P ≤ 729 := hP.le729
  have hop := hP.ordP_pos
  have hul := G.sub_len hok.2.1
  have hvl := G.sub_len hok.2.2
  have SV := G.subB hok.2.2
  have hfU := (G.seq_facts (G.subB hok.2.1)).1
  have hfV := (G.seq_facts SV).1
  have hp1 := hp0.ext hg01
  have hu1 := Rows2.ext hu0 hg01
  have hv1 := Rows2.ext hv0 hg01
  have hqU : SeqOk P U := by have e : cseq P (gU P U) = U := hok.2.1.2.symm; rw [e] at hfU; exact hfU
  have hqV : SeqOk P V := by have e : cseq P (gU P V) = V := hok.2.2.2.symm; rw [e] at hfV; exact hfV
  have hvc : Rows2 Sv w1 (.slice av V.length capv) (cseq P (gU P V)) := by have e : cseq P (gU P V) = V := hok.2.2.2.symm; rw [e]; exact hv1
  have HC := Lib.hid (And.intro hok (And.intro SV (And.intro hqU (And.intro hqV hvc)))); clear hr1 hok SV hfU hfV hqU hqV hvc
  go_wp2_with fail
  refine Calls.mono (sizeOf_ok P hP w1 _ _ U Any Su hp1 hu1 HC.out.2.2.1 (by omega)) ?_
  rintro e2 w2 ⟨v2, rfl, hg2, rfl⟩
  have hp2 := hp1.ext hg2
  have hv2 := Rows2.ext hv1 hg2
  go_wp2_with fail
  refine Calls.mono (sizeOf_ok P hP w2 _ _ V Any Sv hp2 hv2 HC.out.2.2.2.1 (by omega)) ?_
  rintro e3 w3 ⟨v3, rfl, hg3, rfl⟩
  have hg13 := grown_trans hg2 hg3
  obtain ⟨x, hx⟩ : ∃ x, x = prodU P U U.length := ⟨_, rfl⟩
  obtain ⟨y, hy⟩ : ∃ y, y = prodU P V V.length := ⟨_, rfl⟩
  rw [← hx, ← hy]
  by_cases hxy : x = y
  ·have hb : (x == y) = true := by simp [hxy]
   have hsz : prodU P U U.length = prodU P V V.length := by rw [← hx, ← hy, hxy]
   have HZ := Lib.hid hsz; clear hsz hx hy hxy
   go_wp2_with fail
   refine Calls.mono (allElements_ok P hP w3 _ Any (hp1.ext hg13)) ?_
   rintro e4 w4 ⟨v4, rfl, hg4, hE⟩
   clear hb
   have hel : (allEl P).length = (ordP P).toNat := by simp [allEl]
   have hER : Rows2 (From w3.heap.size) w4 v4 (allEl P) := RowsD.rows (SlO.toD hE (by omega))
   obtain ⟨aE, capE, hvE, _, _⟩ := Sl.shape hER
   subst hvE
   have hg14 := grown_trans hg13 hg4
   obtain ⟨N, hN⟩ : ∃ N, N = (allEl P).length := ⟨_, rfl⟩
   rw [← hN]
   rw [← hN] at hER
   have hN7 : N ≤ 729 := by omega
   have hN8 : N ≤ 9223372036854775807 := by omega
   have HN := Lib.hid (And.intro hN (hN.trans hel)); clear hN hel hE
   go_wp2
   go_loopw [22] (fun iv wr => ∃ k : Nat, iv = .int .i64 k ∧ k ≤ N ∧ Ext w4 wr ∧ Hid (∀ j, j < k → ¬ mvQ P U V j)) (fun iv _ => N - (intOf iv).toNat)
   case atStart => exact ⟨0, rfl, by omega, grown_refl _ _, Lib.hid (fun j hj => by omega)⟩
   case round =>
    obtain ⟨k, rfl, hk, hg, hF⟩ := hrel
    have hg1r := grown_trans hg14 hg
    by_cases hlt : k < N
    ·have hlt' : (k : Int) < N := by omega
     have hEr := Rows2.ext hER hg
     rw [HN.out.1] at hEr
     obtain ⟨bx, ox, a2, cap2, hab, _, _, hcx, hrx⟩ := Rows2.at hEr k (by rw [← HN.out.1]; exact hlt)
     subst hab
     have hge : gt (allEl P) k = elAt P k := by
      unfold allEl
      rw [gt_map _ _ _ (by rw [List.length_range]; have := HN.out.2; omega)]
      simp [gt, show k < (ordP P).toNat by have := HN.out.2; omega]
     rw [hge] at hcx hrx
     have hzV := elAt_vec hP (k : Int) (by omega)
     have HZV := Lib.hid hzV; clear hzV hge
     rw [← HN.out.1] at hEr
     have hmv := movesInto_ok P G wr _ _ _ _ U (elAt P k) (gU P V) Any Su Sv _ HC.out.2.1 (hp1.ext hg1r) (Rows2.ext hu1 hg1r) (Rows2.ext HC.out.2.2.2.2 hg1r) hrx HC.out.1.2.1.1 HZV.out
     have HM := Lib.hid hmv; clear hmv
     go_wp2_with fail
     refine Calls.mono HM.out ?_
     rintro e5 w5 ⟨v5, rfl, hg5, r, rfl, hr⟩
     have hr' : r = true ↔ mvQ P U V k := by rw [hr]; unfold mvQ; exact ⟨fun h => ⟨HZ.out, h⟩, fun h => h.2⟩
     have HR := Lib.hid hr'; clear hr hr' HM hcx
     cases r with
     | false =>
      go_wp2
      go_roundw
      case rel => exact ⟨k + 1, by go_num, by omega, grown_trans hg hg5, Lib.hid (fun j hj => by
       rcases Nat.lt_succ_iff_lt_or_eq.1 hj with h | h
       ·exact hF.out j h
       ·rw [h]; intro hq; have := HR.out.2 hq; cases this)⟩
      case measure => simp [intOf]; omega
     | true =>
      have hq := sj_yes HC.out.1 (.inl ⟨k, rfl, by have := HN.out.2; omega, HR.out.1 rfl, hF.out⟩)
      have hI5 := Ints.sub (Ints.ext hrx hg5) (S' := Any) (fun _ _ _ => trivial)
      have HQ := Lib.hid (And.intro hq hI5); clear hq hI5
      go_wp2
      go_ret2
      exact ⟨_, rfl, grown_trans hg0 (grown_trans hg01 (grown_trans hg1r hg5)), _, _, _, by rw [HQ.out.1.1]; rfl, by rw [HQ.out.1.2]; exact HQ.out.2⟩
    ·have hke : k = N := by omega
     have hq := sj_no HC.out.1 (.inr ⟨rfl, fun j hj => hF.out j (by have := HN.out.2; omega)⟩)
     have HQ := Lib.hid hq; clear hq
     go_wp2
     go_ret2
     exact ⟨_, rfl, grown_trans hg0 (grown_trans hg01 hg1r), none, 0, 0, by rw [HQ.out.1]; rfl, by rw [HQ.out.2]; exact ⟨none, 0, rfl, ⟨by simp, by simp, fun _ => rfl⟩, fun i hi => by simp at hi⟩⟩
  ·have hb : (x == y) = false := by simp [hxy]
   have hq := sj_no HC.out.1 (.inr ⟨rfl, fun j _ h => hxy (by rw [hx, hy]; exact h.1)⟩)
   have HQ := Lib.hid hq; clear hq hx hy hxy
   go_wp2
   go_ret2
   exact ⟨_, rfl, grown_trans hg0 (grown_trans hg01 hg13), none, 0, 0, by rw [HQ.out.1]; rfl, by rw [HQ.out.2]; exact ⟨none, 0, rfl, ⟨by simp, by simp, fun _ => rfl⟩, fun i hi => by simp at hi⟩⟩
end Go.Proofs.YtdcobapnlpeaaaaGreat
namespace Go.Proofs.YtdcobapnlpeaaaaGreat
section
variable {P : Pr} (G : Grp P)
include G
theorem Grp.gU_conjL {U : List (List Int)} (hU : SubB P U) {g : List Int} (hg : Vec P.orders g) : gU P (conjL P U g) = cjS P (gU P U) g := by
 have S := G.subB hU
 have h := G.genP_conjL S hg
 have e : cseq P (gU P U) = U := hU.2.symm
 rw [e] at h
 exact h
end
end Go.Proofs.YtdcobapnlpeaaaaGreat
namespace Go.Proofs.YtdcobapnlpeaaaaGreat
open Go.RowKit
def czP (P : Pr) (U : List (List Int)) (x : List Int) : Prop := Vec P.orders x ∧ ∀ y ∈ U, rMul P y x = rMul P x y
theorem Grp.cz_sub {P : Pr} (G : Grp P) {U : List (List Int)} (hU : ∀ y ∈ U, Vec P.orders y) : Sub P (czP P U) := by
 refine ⟨fun _ h => h.1, ⟨G.oneV, fun y hy => by rw [G.grp.er _ (hU y hy), G.grp.el _ (hU y hy)]⟩, fun x z hx hz => ⟨G.mulV hx.1 hz.1, fun y hy => ?_⟩, fun x hx => ⟨G.invV hx.1, fun y hy => ?_⟩⟩
 ·have hyV := hU y hy
  rw [← G.ass hyV hx.1 hz.1, hx.2 y hy, G.ass hx.1 hyV hz.1, hz.2 y hy, G.ass hx.1 hz.1 hyV]
 ·have hyV := hU y hy
  have hi := G.invV hx.1
  have e : rMul P (rInv P x) (rMul P (rMul P y x) (rInv P x)) = rMul P (rInv P x) (rMul P (rMul P x y) (rInv P x)) := by rw [hx.2 y hy]
  rw [G.ass hyV hx.1 hi, G.mul_inv hx.1, G.grp.er _ hyV, G.ass hx.1 hyV hi, ← G.ass hi hx.1 (G.mulV hyV hi), G.inv_mul hx.1, G.grp.el _ (G.mulV hyV hi)] at e
  exact e.symm
theorem Grp.cz_nr {P : Pr} (G : Grp P) {H : List Int → Prop} (S : Sub P H) (x : List Int) (hx : czP P (cseq P H) x) : nrP P H x := by
 have hf := G.seq_facts S
 rw [← G.nr_of S]
 refine ⟨hx.1, fun y hy => ?_⟩
 have hyV := S.vec y (hf.2.1 y hy)
 have e : rConj P y x = y := by
  unfold rConj
  rw [hx.2 y hy, ← G.ass (G.invV hx.1) hx.1 hyV, G.inv_mul hx.1, G.grp.el _ hyV]
 rw [e]; exact hf.2.1 y hy
set_option maxRecDepth 100000 in
set_option maxHeartbeats 4000000 in
theorem czCl_ok (P : Pr) (G : Grp P) (w : World) (p uv xv : Value) (c1 c2 : Nat) (U : List (List Int)) (X : List Int) (Sp Su Sx : Nat → Prop) (hp : PresP Sp w p P) (hu : Rows2 Su w uv U) (h1 : w.cell? ⟨c1, 0, none⟩ = some uv) (h2 : w.cell? ⟨c2, 0, none⟩ = some p) (hx : Ints Sx w xv X) (hU : ∀ x ∈ U, Vec P.orders x) (hX : Vec P.orders X) :
  Calls Tryz.prog 234 #[xv, .pointer (some ⟨c1, 0, none⟩), .pointer (some ⟨c2, 0, none⟩)] w (Ret w fun _ v => ∃ r : Bool, v = .bool r ∧ (r = true ↔ ∀ y ∈ U, rMul P y X = rMul P X y)) := by
 have hP := G.v
 have hn6 := hP.n6
 obtain ⟨pb, po, rfl⟩ := hp.shape
 obtain ⟨au, capu, rfl, _, hul⟩ := Sl.shape hu
 obtain ⟨ax, capx, rfl, _, _⟩ := hx.shape
 have HU := Lib.hid (And.intro hU hX); clear hU hX
 go_enter Tryz.func234, Tryz.ntmps234
 go_wp2
 go_loopw [9] (fun iv wr => ∃ (i : Nat), iv = .int .i64 i ∧ i ≤ U.length ∧ Ext w wr ∧ Hid (∀ k, k < i → rMul P (gt U k) X = rMul P X (gt U k))) (fun iv _ => U.length - (intOf iv).toNat)
 case atStart => exact ⟨0, rfl, by omega, grown_refl _ _, Lib.hid (fun k hk => by omega)⟩
 case round =>
  clear h1
  obtain ⟨i, rfl, hi, hg, hH⟩ := hrel
  by_cases hlt : i < U.length
  ·have hlt' : (i : Int) < U.length := by omega
   obtain ⟨b, off, ay, capy, rfl, _, _, hc, hy⟩ := Rows2.at hu i hlt
   have hcr := hg.cell hc (by simp)
   have hyV := HU.out.1 _ (gtMem hlt)
   obtain ⟨y, hye⟩ : ∃ y, y = gt U i := ⟨_, rfl⟩
   rw [← hye] at hcr hy hyV
   have hy1 := Ints.ext hy hg
   have hx1 := Ints.ext hx hg
   have hp1 := hp.ext hg
   have m1 := G.mulV hyV HU.out.2
   have m2 := G.mulV HU.out.2 hyV
   have t1 := G.tv_eq hyV HU.out.2
   have t2 := G.tv_eq HU.out.2 hyV
   have HY := Lib.hid (And.intro hye (And.intro hyV (And.intro m1 (And.intro m2 (And.intro t1 t2))))); clear hye hyV hc m1 m2 t1 t2
   have f1 : ∀ w', Ext wr w' → w'.cell? ⟨c2, 0, none⟩ = some (.pointer (some ⟨pb, po, none⟩)) := fun w' h => (grown_trans hg h).cell h2 (by simp)
   go_wp2
   clear hcr
   go_region_held3 (fun w' => Ext wr w') (first | exact grown_drew _ _ | assumption)
    (first
     | (go_at_call 152; refine Calls.mono (Calls.rel2 (w0 := wr) (by assumption) (multiply_ok P hP _ _ _ _ y X Sp Su Sx (hp1.ext (by assumption)) (Ints.ext hy1 (by assumption)) (Ints.ext hx1 (by assumption)) HY.out.2.1 HU.out.2)) ?_; rintro eA wA ⟨vA, rfl, hgA, hgA2, hsA, hOA⟩; rw [HY.out.2.2.2.2.1] at hOA; have hAi := hOA.ints (by rw [HY.out.2.2.1.1]; omega))
     | (go_at_call 152; refine Calls.mono (Calls.rel2 (w0 := wr) (by assumption) (multiply_ok P hP _ _ _ _ X y Sp Sx Su (hp1.ext (by assumption)) (Ints.ext hx1 (by assumption)) (Ints.ext hy1 (by assumption)) HU.out.2 HY.out.2.1)) ?_; rintro eB wB ⟨vB, rfl, hgB, hgB2, hsB, hOB⟩; rw [HY.out.2.2.2.2.2] at hOB; have hBi := hOB.ints (by rw [HY.out.2.2.2.1.1]; omega); have hAB := Ints.ext hAi hgB2)
     | (go_at_call 151; refine Calls.mono (Calls.rel (w0 := wr) (by assumption) (sEqual_ok _ _ _ _ _ Any Any hAB hBi)) ?_; rintro eE wE ⟨vE, rfl, hgE, hsE, rfl⟩))
   clear f1
   by_cases he : rMul P y X = rMul P X y
   ·have hb : eqB (rMul P y X) (rMul P X y) = true := eqB_true.2 he
    have HE := Lib.hid he; clear he
    rw [hb]
    go_wp2
    go_roundw
    case rel => exact ⟨i + 1, by go_num, by omega, grown_trans hg hgE, Lib.hid (fun k hk => by
     rcases Nat.lt_succ_iff_lt_or_eq.1 hk with h | h
     ·exact hH.out k h
     ·rw [h, ← HY.out.1]; exact HE.out)⟩
    case measure => simp [intOf]; omega
   ·have hb : eqB (rMul P y X) (rMul P X y) = false := eqB_false.2 he
    have HE := Lib.hid he; clear he
    rw [hb]
    go_wp2
    go_ret
    exact ⟨_, rfl, grown_trans hg hgE, false, rfl, by
     constructor
     ·intro h; cases h
     ·intro h
      exact absurd (by rw [HY.out.1]; exact h _ (gtMem hlt)) HE.out⟩
  ·have hie : i = U.length := by omega
   have HF := Lib.hid (show ∀ y ∈ U, rMul P y X = rMul P X y from fun y hy => by
    obtain ⟨m, hm, rfl⟩ := mem_gt hy
    exact hH.out m (by omega))
   go_wp2
   go_ret
   first
    | exact ⟨_, rfl, hg, true, rfl, by simpa using HF.out⟩
    | exact ⟨_, rfl, hg, .inr ⟨rfl, HF.out⟩⟩
set_option maxRecDepth 100000 in
set_option maxHeartbeats 4000000 in
theorem centralizer_ok (P : Pr) (G : Grp P) (w : World) (p uv : Value) (U : List (List Int)) (Sp Su : Nat → Prop) (hp : PresP Sp w p P) (hu : Rows2 Su w uv U) (hU : ∀ x ∈ U, Vec P.orders x) :
  Calls Tryz.prog 144 #[p, uv] w (Ret w fun w' v => RowsO w.heap.size w' v (cseq P (czP P U))) := by
 have hn6 := G.v.n6
 obtain ⟨pb, po, rfl⟩ := hp.shape
 obtain ⟨au, capu, rfl, _, _⟩ := Sl.shape hu
 have hs0 : (w.alloc (.cells #[.pointer (some ⟨pb, po, none⟩)] 86)).heap.size = w.heap.size + 1 := by simp
 have hg0 : Ext w (w.alloc (.cells #[.pointer (some ⟨pb, po, none⟩)] 86)) := World.grownBy_alloc _ _ _
 have hg1 : Ext (w.alloc (.cells #[.pointer (some ⟨pb, po, none⟩)] 86)) ((w.alloc (.cells #[.pointer (some ⟨pb, po, none⟩)] 86)).alloc (.cells #[.slice au U.length capu] 25)) := World.grownBy_alloc _ _ _
 have hc0 : (w.alloc (.cells #[.pointer (some ⟨pb, po, none⟩)] 86)).cell? ⟨w.heap.size, 0, none⟩ = some (.pointer (some ⟨pb, po, none⟩)) := by rw [World.cell?_alloc_at _ _ _ _ rfl]; rfl
 have hc1 : ((w.alloc (.cells #[.pointer (some ⟨pb, po, none⟩)] 86)).alloc (.cells #[.slice au U.length capu] 25)).cell? ⟨w.heap.size + 1, 0, none⟩ = some (.slice au U.length capu) := by
  rw [← hs0, World.cell?_alloc_at _ _ _ _ rfl]; rfl
 have hc2 := hg1.cell hc0 (by simp)
 have hg01 := grown_trans hg0 hg1
 go_enter Tryz.func144, Tryz.ntmps144
 go_wp2_with fail
 clear hc0 hg0 hg1 hs0
 generalize (w.alloc (.cells #[.pointer (some ⟨pb, po, none⟩)] 86)).alloc (.cells #[.slice au U.length capu] 25) = w1 at *
 have hp1 := hp.ext hg01
 have hu1 := Rows2.ext hu hg01
 have hE := elementsWithC_ok P G w1 (.pointer (some ⟨pb, po, none⟩)) (.pointer (some ⟨w.heap.size + 1, 0, none⟩)) (.pointer (some ⟨w.heap.size, 0, none⟩)) (fun x => ∀ y ∈ U, rMul P y x = rMul P x y) Sp hp1 (fun w' xv X Sx hg hx hX => czCl_ok P G w' _ _ xv (w.heap.size + 1) w.heap.size U X Sp Su Sx (hp1.ext hg) (Rows2.ext hu1 hg) (hg.cell hc1 (by simp)) (hg.cell hc2 (by simp)) hx hU hX)
 have hcz : genP P (fun y => Vec P.orders y ∧ ∀ z ∈ U, rMul P z y = rMul P y z) = czP P U := genP_idem (G.cz_sub hU)
 rw [hcz] at hE
 have HE := Lib.hid hE; clear hE hcz hc1 hc2 hU
 refine Calls.mono HE.out ?_
 rintro e2 w2 ⟨v2, rfl, hg2, hO⟩
 have HO := Lib.hid hO; clear hO
 go_wp2
 go_ret
 exact ⟨_, rfl, grown_trans hg01 hg2, HO.out.weak hg01.size⟩
end Go.Proofs.YtdcobapnlpeaaaaGreat
namespace Go.Proofs.YtdcobapnlpeaaaaGreat
theorem FstI_ex (q : Nat → Prop) (n : Nat) : ∃ r, FstI q n r := by
 induction n with
 | zero => exact ⟨-1, .inr ⟨rfl, fun j hj => by omega⟩⟩
 | succ n ih =>
  obtain ⟨r, h⟩ := ih
  rcases h with ⟨k, rfl, hk, hq, hm⟩ | ⟨rfl, hm⟩
  ·exact ⟨k, .inl ⟨k, rfl, by omega, hq, hm⟩⟩
  ·by_cases h : q n
   ·exact ⟨n, .inl ⟨n, rfl, by omega, h, fun j hj => hm j hj⟩⟩
   ·exact ⟨-1, .inr ⟨rfl, fun j hj hq => by
     rcases Nat.lt_succ_iff_lt_or_eq.1 hj with h1 | h1
     ·exact hm j h1 hq
     ·rw [h1] at hq; exact h hq⟩⟩
section
variable {P : Pr} (G : Grp P)
include G
theorem Grp.sub_full {A B : List Int → Prop} (SA : Sub P A) (SB : Sub P B) (h : ∀ x, A x → B x) (e : szP P A = szP P B) (x : List Int) (hx : B x) : A x := by
 have e1 : cd (toE G A) = cd (toE G B) := by
  have h1 := order_cd SA (G := G)
  have h2 := order_cd SB (G := G)
  have h3 : prodU P (cseq P A) (cseq P A).length = prodU P (cseq P B) (cseq P B).length := e
  rw [h1, h2] at h3
  omega
 by_cases ha : A x
 ·exact ha
 ·exfalso
  have hv := SB.vec x hx
  have h1 := nodup_sub_len ((⟨x, hv⟩ : El G) :: elsIn (toE G A)) (elsIn (toE G B)) (List.nodup_cons.2 ⟨fun hm => ha (elsIn_mem.1 hm), elsIn_nodup _⟩) (fun y hy => by
   rcases List.mem_cons.1 hy with rfl | hy1
   ·exact elsIn_mem.2 hx
   ·exact elsIn_mem.2 (h _ (elsIn_mem.1 hy1)))
  have h2 : (elsIn (toE G A)).length = (elsIn (toE G B)).length := e1
  exact Nat.not_succ_le_self _ (Nat.le_trans (Nat.le_of_eq (congrArg Nat.succ h2.symm)) h1)
theorem Grp.mv_eq {U V : List (List Int)} (hU : SubB P U) (hV : SubB P V) {x : List Int} (hx : Vec P.orders x) (h : prodU P U U.length = prodU P V V.length) (hm : ∀ y ∈ U, gU P V (rConj P y x)) : cseq P (gU P (conjL P U x)) = V := by
 have SU := G.subB hU
 have SV := G.subB hV
 have SC := G.cj_sub SU hx
 have e0 := G.gU_conjL hU hx
 have hle : ∀ z, cjS P (gU P U) x z → gU P V z := by
  rw [← e0]
  intro z hz
  exact genP_le SV (fun a ha => by
   obtain ⟨y, hy, rfl⟩ := List.mem_map.1 ha
   exact hm y hy) hz
 have e1 : szP P (cjS P (gU P U) x) = szP P (gU P V) := by
  have h1 := cjU_order G hU hx
  have h2 : cjU P U x = cseq P (cjS P (gU P U) x) := by show cseq P (gU P (conjL P U x)) = _; rw [e0]
  rw [h2, h] at h1
  show prodU P (cseq P (cjS P (gU P U) x)) (cseq P (cjS P (gU P U) x)).length = prodU P (cseq P (gU P V)) (cseq P (gU P V)).length
  rw [h1, ← show V = cseq P (gU P V) from hV.2]
 have e2 : cjS P (gU P U) x = gU P V := funext fun z => propext ⟨hle z, G.sub_full SC SV hle e1 z⟩
 rw [e0, e2]
 exact hV.2.symm
theorem Grp.cz_le_nr {U : List (List Int)} (hU : SubB P U) (x : List Int) (hx : czP P U x) : nrP P (gU P U) x := by
 have e : cseq P (gU P U) = U := hU.2.symm
 exact G.cz_nr (G.subB hU) x (by rw [e]; exact hx)
end
theorem fdL_len (P : Pr) (H : List Int → Prop) (t : Nat) : (fdL P H t).length ≤ t := by
 induction t with
 | zero => exact Nat.le_refl _
 | succ t ih =>
  by_cases h : cseq P (cjS P H (elAt P t)) ∈ fdL P H t
  ·rw [fdL_yes h]; omega
  ·rw [fdL_no h, List.length_append, List.length_singleton]; omega
end Go.Proofs.YtdcobapnlpeaaaaGreat
namespace Go.Proofs.YtdcobapnlpeaaaaGreat
open Go.RowKit
set_option maxRecDepth 100000 in
set_option maxHeartbeats 4000000 in
theorem l18Carries_ok (P : Pr) (G : Grp P) (w : World) (pv uv xv vv : Value) (U : List (List Int)) (X : List Int) (H : List Int → Prop) (Sp Su Sv Sx : Nat → Prop) (S : Sub P H) (hpv : PresV Sp w pv P) (hu : Rows2 Su w uv U) (hv : Rows2 Sv w vv (cseq P H)) (hx : Ints Sx w xv X) (hU : ∀ x ∈ U, Vec P.orders x) (hX : Vec P.orders X) :
  Calls Tryz.prog 233 #[pv, uv, xv, vv] w (Ret w fun _ v => ∃ r : Bool, v = .bool r ∧ (r = true ↔ ∀ y ∈ U, H (rConj P y X))) := by
 have hP := G.v
 have hn6 := hP.n6
 obtain ⟨vo, vp, vc, rfl, h3⟩ := hpv
 have hp0 := PresP.box h3 28
 have hg0 : Ext w (w.alloc (.cells #[vo, vp, vc] 28)) := World.grownBy_alloc _ _ _
 have hu0 : Rows2 Any (w.alloc (.cells #[vo, vp, vc] 28)) uv U := Rows2.sub (Rows2.ext hu hg0) (fun _ _ _ => trivial)
 have hv0 := Rows2.ext hv hg0
 have hx0 := Ints.ext hx hg0
 obtain ⟨au, capu, rfl, _, _⟩ := Sl.shape hu
 obtain ⟨av, nv, capv, hvv⟩ : ∃ a n c, vv = Value.slice a n c := by obtain ⟨a, c, e, _⟩ := Sl.shape hv; exact ⟨_, _, _, e⟩
 subst hvv
 obtain ⟨ax, capx, rfl, _, _⟩ := hx.shape
 obtain ⟨vo6, vp6, vc6, _, _, hc0, hc1, hc2, h36⟩ := hp0.at
 simp only [Nat.zero_add] at hc1 hc2
 have hbx : ∀ w', Ext (w.alloc (.cells #[vo, vp, vc] 28)) w' → w'.cell? ⟨w.heap.size, 0, none⟩ = some vo6 ∧ w'.cell? ⟨w.heap.size, 1, none⟩ = some vp6 ∧ w'.cell? ⟨w.heap.size, 2, none⟩ = some vc6 := fun w' h => ⟨h.cell hc0 (by simp), h.cell hc1 (by simp), h.cell hc2 (by simp)⟩
 have HB := Lib.hid hbx; clear hbx hp0 hu hv hx
 have HU := Lib.hid (And.intro hU hX); clear hU hX
 go_enter Tryz.func233, Tryz.ntmps233
 go_wp2
 clear hc0 hc1 hc2
 generalize w.alloc (.cells #[vo, vp, vc] 28) = w0 at *
 go_loopw [9] (fun iv wr => ∃ (i : Nat), iv = .int .i64 i ∧ i ≤ U.length ∧ Ext w0 wr ∧ Hid (∀ k, k < i → H (rConj P (gt U k) X))) (fun iv _ => U.length - (intOf iv).toNat)
 case atStart => exact ⟨0, rfl, by omega, grown_refl _ _, Lib.hid (fun k hk => by omega)⟩
 case round =>
  obtain ⟨i, rfl, hi, hg, hH⟩ := hrel
  by_cases hlt : i < U.length
  ·have hlt' : (i : Int) < U.length := by omega
   obtain ⟨b, off, ay, capy, rfl, _, _, hc, hy⟩ := Rows2.at hu0 i hlt
   have hyV := HU.out.1 _ (gtMem hlt)
   obtain ⟨y, hye⟩ : ∃ y, y = gt U i := ⟨_, rfl⟩
   rw [← hye] at hc hy hyV
   have hcV := G.conjV hyV HU.out.2
   have HY := Lib.hid (And.intro hye (And.intro hyV hcV)); clear hye hyV hcV
   have f1 : ∀ w', Ext wr w' → w'.cell? ⟨w.heap.size, 0, none⟩ = some vo6 := fun w' h => (HB.out w' (grown_trans hg h)).1
   have f2 : ∀ w', Ext wr w' → w'.cell? ⟨w.heap.size, 1, none⟩ = some vp6 := fun w' h => (HB.out w' (grown_trans hg h)).2.1
   have f3 : ∀ w', Ext wr w' → w'.cell? ⟨w.heap.size, 2, none⟩ = some vc6 := fun w' h => (HB.out w' (grown_trans hg h)).2.2
   have f4 : ∀ w', Ext wr w' → w'.cell? ⟨b, off + i, none⟩ = some (.slice ay y.length capy) := fun w' h => (grown_trans hg h).cell hc (by simp)
   have h3r := Pres3.ext h36 hg
   have hyr := Ints.ext hy hg
   have hxr := Ints.ext hx0 hg
   have hvr := Rows2.ext hv0 hg
   clear hc
   go_wp2
   go_region_held3 (fun w' => Ext wr w') (first | exact grown_drew _ _ | assumption)
    (first
     | (go_at_call 150; refine Calls.mono (Calls.rel (w0 := wr) (by assumption) (l10Conj_ok P hP _ _ _ _ y X Any Any Sx ⟨_, _, _, rfl, Pres3.ext h3r (by assumption)⟩ (Ints.ext hyr (by assumption)) (Ints.ext hxr (by assumption)) HY.out.2.1 HU.out.2)) ?_; rintro eC wC ⟨vC, rfl, hgC, _, hOC⟩; have hCI := hOC.ints (by rw [HY.out.2.2.1]; omega))
     | (go_at_call 278; refine Calls.mono (Calls.rel (w0 := wr) (by assumption) (l12Has_ok P G _ _ _ _ H (rConj P y X) Any Sv _ S ⟨_, _, _, rfl, Pres3.ext h3r (by assumption)⟩ (Rows2.ext hvr (by assumption)) hCI HY.out.2.2)) ?_; rintro eM wM ⟨vM, rfl, hgM, _, r, rfl, hr⟩; have HR := Lib.hid hr; clear hr))
   clear f1 f2 f3 f4
   cases r with
   | true =>
    go_wp2
    go_roundw
    case rel => exact ⟨i + 1, by go_num, by omega, grown_trans hg hgM, Lib.hid (fun k hk => by
     rcases Nat.lt_succ_iff_lt_or_eq.1 hk with h | h
     ·exact hH.out k h
     ·rw [h, ← HY.out.1]; exact HR.out.1 (by simp))⟩
    case measure => simp [intOf]; omega
   | false =>
    go_wp2
    go_ret
    exact ⟨_, rfl, grown_trans hg0 (grown_trans hg hgM), false, rfl, by
     constructor
     ·intro h; cases h
     ·intro h
      have := HR.out.2 (by rw [HY.out.1]; exact h _ (gtMem hlt))
      cases this⟩
  ·have HF := Lib.hid (show ∀ y ∈ U, H (rConj P y X) from fun y hy => by
    obtain ⟨m, hm, rfl⟩ := mem_gt hy
    exact hH.out m (by omega))
   go_wp2
   go_ret
   first
    | exact ⟨_, rfl, grown_trans hg0 hg, true, rfl, by simpa using HF.out⟩
    | exact ⟨_, rfl, grown_trans hg0 hg, .inr ⟨rfl, HF.out⟩⟩
def MvR (P : Pr) (U V : List (List Int)) (w' : World) (v : Value) : Prop :=
 ∃ a n c f, v = .tuple #[.slice a n c, .bool f] ∧ ((f = true ∧ ∃ k : Nat, FstI (mvQ P U V) (ordP P).toNat k ∧ Ints Any w' (.slice a n c) (elAt P k)) ∨ (f = false ∧ FstI (mvQ P U V) (ordP P).toNat (-1)))
set_option maxRecDepth 100000 in
set_option maxHeartbeats 4000000 in
theorem l18Mover_ok (P : Pr) (G : Grp P) (w : World) (pv uv vv : Value) (U V : List (List Int)) (Sp Su Sv : Nat → Prop) (hpv : PresV Sp w pv P) (hu : Rows2 Su w uv U) (hv : Rows2 Sv w vv V) (hU : SubB P U) (hV : SubB P V) :
  Calls Tryz.prog 141 #[pv, uv, vv] w (Ret w (MvR P U V)) := by
 have hP := G.v
 have hn6 := hP.n6
 have h729 : ordP P ≤ 729 := hP.le729
 have hop := hP.ordP_pos
 have hul := G.sub_len hU
 have hvl := G.sub_len hV
 have SV := G.subB hV
 have hfU := (G.seq_facts (G.subB hU)).1
 have hfV := (G.seq_facts SV).1
 have hqU : SeqOk P U := by have e : cseq P (gU P U) = U := hU.2.symm; rw [e] at hfU; exact hfU
 have hqV : SeqOk P V := by have e : cseq P (gU P V) = V := hV.2.symm; rw [e] at hfV; exact hfV
 obtain ⟨vo, vp, vc, rfl, h3⟩ := hpv
 have hp0 := PresP.box h3 28
 have hg0 : Ext w (w.alloc (.cells #[vo, vp, vc] 28)) := World.grownBy_alloc _ _ _
 have hu0 := Rows2.ext hu hg0
 have hv0 := Rows2.ext hv hg0
 have hvc : Rows2 Sv (w.alloc (.cells #[vo, vp, vc] 28)) vv (cseq P (gU P V)) := by have e : cseq P (gU P V) = V := hV.2.symm; rw [e]; exact hv0
 obtain ⟨au, capu, rfl, _, _⟩ := Sl.shape hu
 obtain ⟨av, capv, rfl, _, _⟩ := Sl.shape hv
 obtain ⟨vo6, vp6, vc6, _, _, hc0, hc1, hc2, h36⟩ := hp0.at
 simp only [Nat.zero_add] at hc1 hc2
 have hbx : ∀ w', Ext (w.alloc (.cells #[vo, vp, vc] 28)) w' → w'.cell? ⟨w.heap.size, 0, none⟩ = some vo6 ∧ w'.cell? ⟨w.heap.size, 1, none⟩ = some vp6 ∧ w'.cell? ⟨w.heap.size, 2, none⟩ = some vc6 := fun w' h => ⟨h.cell hc0 (by simp), h.cell hc1 (by simp), h.cell hc2 (by simp)⟩
 have HB := Lib.hid hbx; clear hbx hp0 hu hv
 have HU := Lib.hid (And.intro hU.1 (And.intro SV (And.intro hqU (And.intro hqV hvc)))); clear hU hV SV hfU hfV hqU hqV hvc
 obtain ⟨x, hx⟩ : ∃ x, x = prodU P U U.length := ⟨_, rfl⟩
 obtain ⟨y, hy⟩ : ∃ y, y = prodU P V V.length := ⟨_, rfl⟩
 have HXY := Lib.hid (And.intro hx hy); clear hx hy
 go_enter Tryz.func141, Tryz.ntmps141
 go_wp2
 clear hc0 hc1 hc2
 generalize w.alloc (.cells #[vo, vp, vc] 28) = w0 at *
 go_loopw [8] (fun iv wr => ∃ (k : Nat), iv = .int .i64 k ∧ (k : Int) ≤ ordP P ∧ Ext w0 wr ∧ Hid (∀ j, j < k → ¬ mvQ P U V j)) (fun iv _ => (ordP P).toNat - (intOf iv).toNat)
 case atStart => exact ⟨0, rfl, by omega, grown_refl _ _, Lib.hid (fun j hj => by omega)⟩
 case round =>
  obtain ⟨k, rfl, hk, hg, hF⟩ := hrel
  obtain ⟨wo, rfl⟩ : ∃ wo : World, wo = wr := ⟨_, rfl⟩
  have f1 : ∀ w', Ext wo w' → w'.cell? ⟨w.heap.size, 0, none⟩ = some vo6 := fun w' h => (HB.out w' (grown_trans hg h)).1
  have f2 : ∀ w', Ext wo w' → w'.cell? ⟨w.heap.size, 1, none⟩ = some vp6 := fun w' h => (HB.out w' (grown_trans hg h)).2.1
  have f3 : ∀ w', Ext wo w' → w'.cell? ⟨w.heap.size, 2, none⟩ = some vc6 := fun w' h => (HB.out w' (grown_trans hg h)).2.2
  have h3r := Pres3.ext h36 hg
  have hur := Rows2.ext hu0 hg
  have hvr := Rows2.ext hv0 hg
  by_cases hlt : (k : Int) < ordP P
  ·go_wp2
   go_region_held3 (fun w' => Ext wo w') (first | exact grown_drew _ _ | assumption)
    (first
     | (go_at_call 105; refine Calls.mono (Calls.rel (w0 := wo) (by assumption) (l10Order_ok _ _ P Any hP ⟨_, _, _, rfl, Pres3.ext h3r (by assumption)⟩)) ?_; rintro eA wA ⟨vA, rfl, hgA, _, rfl⟩)
     | (go_at_call 232; refine Calls.mono (Calls.rel (w0 := wo) (by assumption) (l12Order_ok P hP _ _ _ U Any Su ⟨_, _, _, rfl, Pres3.ext h3r (by assumption)⟩ (Rows2.ext hur (by assumption)) HU.out.2.2.1 (by omega))) ?_; rintro eB wB ⟨vB, rfl, hgB, _, rfl⟩; rw [← HXY.out.1])
     | (go_at_call 232; refine Calls.mono (Calls.rel (w0 := wo) (by assumption) (l12Order_ok P hP _ _ _ V Any Sv ⟨_, _, _, rfl, Pres3.ext h3r (by assumption)⟩ (Rows2.ext hvr (by assumption)) HU.out.2.2.2.1 (by omega))) ?_; rintro eC wC ⟨vC, rfl, hgC, _, rfl⟩; rw [← HXY.out.2]))
   clear f1 f2 f3
   by_cases hxy : x = y
   ·have hb : (x == y) = true := by simp [hxy]
    have hsz : prodU P U U.length = prodU P V V.length := by rw [← HXY.out.1, ← HXY.out.2, hxy]
    have HZ := Lib.hid hsz; clear hsz hxy
    have hgoC := grown_trans hg hgC
    obtain ⟨hb0, hb1, hb2⟩ := HB.out wC hgoC
    go_wp2_with fail
    clear hb0 hb1 hb2
    refine Calls.mono (l10At_ok P hP wC _ (k : Int) Any ⟨_, _, _, rfl, Pres3.ext h36 hgoC⟩ (by omega) (by omega)) ?_
    rintro eZ wZ ⟨vZ, rfl, hgZ, hOZ⟩
    have hzV := elAt_vec hP (k : Int) (by omega)
    have hZI := hOZ.ints (by rw [hzV.1]; omega)
    obtain ⟨az, nz, cz, hvz⟩ : ∃ a n c, vZ = Value.slice a n c := by obtain ⟨a, c, e, _⟩ := hZI.shape; exact ⟨_, _, _, e⟩
    subst hvz
    have HZV := Lib.hid hzV; clear hzV hOZ
    have hgoZ := grown_trans hgoC hgZ
    obtain ⟨hb0, hb1, hb2⟩ := HB.out wZ hgoZ
    have hcr := l18Carries_ok P G wZ (.agg #[vo6, vp6, vc6]) _ _ _ U (elAt P k) (gU P V) Any Su Sv _ HU.out.2.1 ⟨_, _, _, rfl, Pres3.ext h36 hgoZ⟩ (Rows2.ext hu0 hgoZ) (Rows2.ext HU.out.2.2.2.2 hgoZ) hZI HU.out.1 HZV.out
    have HCR := Lib.hid hcr; clear hcr
    go_wp2_with fail
    clear hb0 hb1 hb2
    refine Calls.mono HCR.out ?_
    rintro eK wK ⟨vK, rfl, hgK, r, rfl, hr⟩
    have hr' : r = true ↔ mvQ P U V k := by rw [hr]; unfold mvQ; exact ⟨fun h => ⟨HZ.out, h⟩, fun h => h.2⟩
    have HR := Lib.hid hr'; clear hr hr' HCR
    have hgoK := grown_trans hgoZ hgK
    cases r with
    | false =>
     go_wp2
     go_roundw
     case rel => exact ⟨k + 1, by go_num, by omega, hgoK, Lib.hid (fun j hj => by
      rcases Nat.lt_succ_iff_lt_or_eq.1 hj with h | h
      ·exact hF.out j h
      ·rw [h]; intro hq; have := HR.out.2 hq; cases this)⟩
     case measure => simp [intOf]; omega
    | true =>
     have hq : FstI (mvQ P U V) (ordP P).toNat (k : Nat) := .inl ⟨k, rfl, by omega, HR.out.1 rfl, hF.out⟩
     have hI5 := Ints.sub (Ints.ext hZI hgK) (S' := Any) (fun _ _ _ => trivial)
     have HQ := Lib.hid (And.intro hq hI5); clear hq hI5 hZI
     go_wp2
     go_ret2
     exact ⟨_, rfl, grown_trans hg0 hgoK, _, _, _, true, rfl, .inl ⟨rfl, k, HQ.out.1, HQ.out.2⟩⟩
   ·have hb : (x == y) = false := by simp [hxy]
    have hq : FstI (mvQ P U V) (ordP P).toNat (-1) := .inr ⟨rfl, fun j _ h => hxy (by rw [HXY.out.1, HXY.out.2]; exact h.1)⟩
    have HQ := Lib.hid hq; clear hq hxy
    go_wp2
    go_ret2
    exact ⟨_, rfl, grown_trans hg0 (grown_trans hg hgC), _, _, _, false, rfl, .inr ⟨rfl, HQ.out⟩⟩
  ·have hq : FstI (mvQ P U V) (ordP P).toNat (-1) := .inr ⟨rfl, fun j hj => hF.out j (by omega)⟩
   have HQ := Lib.hid hq; clear hq
   go_wp2
   have hd1 : ((k : Int) < ordP P) = False := by simp; omega
   have hd2 : decide ((k : Int) < ordP P) = false := by simp; omega
   refine wp_region_held_drew (S := (fun w' => Ext wo w')) (by kernel_rfl) (by first | exact grown_drew _ _ | assumption) (fun hHeld => ?_)
   refine wpAnyH_take (i := 0) (v := ?v0) rfl (by kernel_rfl) (by kernel_rfl) (by kernel_rfl) (fun _ _ _ h => h) (Or.inl ⟨by rfl, ?hy0⟩) (by assumption) ?rest0
   case hy0 => (intro w hSw; (try dsimp only at hSw); go_simp; try with_reducible rfl)
   try simp only [Act.put, List.getElem_toArray, List.getElem_cons_succ, List.getElem_cons_zero, List.setIfInBounds_toArray, List.set_cons_zero, List.set_cons_succ]
   refine wpAnyH_take (i := 1) (v := ?v1) rfl (by kernel_rfl) (by kernel_rfl) (by kernel_rfl) (fun _ _ _ h => h) (Or.inl ⟨by rfl, ?hy1⟩) (by assumption) ?rest1
   case hy1 => (intro w hSw; (try dsimp only at hSw); go_simp; try with_reducible rfl)
   try simp only [Act.put, List.getElem_toArray, List.getElem_cons_succ, List.getElem_cons_zero, List.setIfInBounds_toArray, List.set_cons_zero, List.set_cons_succ]
   refine wpAnyH_ready (rs := [2]) (by kernel_rfl) (by simp) ?_
   refine AllReadyH.cons rfl (fun Kc hKc => ?_) AllReadyH.nil
   go_simp
   go_at_call 105
   refine Calls.mono (Calls.rel (w0 := wo) (by assumption) (l10Order_ok _ _ P Any hP ⟨_, _, _, rfl, Pres3.ext h3r (by assumption)⟩)) ?_
   rintro eA wA ⟨vA, rfl, hgA, _, rfl⟩
   go_wp2_with fail
   refine hKc.out _ _ ?_ (fun hHeld => ?_)
   ·first | exact grown_drew _ _ | assumption
   clear hKc Kc
   try simp only [Act.put, List.getElem_toArray, List.getElem_cons_succ, List.getElem_cons_zero, List.setIfInBounds_toArray, List.set_cons_zero, List.set_cons_succ]
   refine wpAnyH_take (i := 3) (v := ?v3) rfl (by kernel_rfl) (by kernel_rfl) (by kernel_rfl) (fun _ _ _ h => h) (Or.inl ⟨by rfl, ?hy3⟩) (by assumption) ?rest3
   case hy3 => (intro w hSw; (try dsimp only at hSw); go_simp; try with_reducible rfl)
   try simp only [Act.put, List.getElem_toArray, List.getElem_cons_succ, List.getElem_cons_zero, List.setIfInBounds_toArray, List.set_cons_zero, List.set_cons_succ]
   refine wpAnyH_take (i := 4) (v := ?v4) rfl (by kernel_rfl) (by kernel_rfl) (by kernel_rfl) (fun _ _ _ h => h) (Or.inl ⟨by rfl, ?hy4⟩) (by assumption) ?rest4
   case hy4 => (intro w hSw; (try dsimp only at hSw); go_simp; try with_reducible rfl)
   try simp only [Act.put, List.getElem_toArray, List.getElem_cons_succ, List.getElem_cons_zero, List.setIfInBounds_toArray, List.set_cons_zero, List.set_cons_succ]
   refine wpAnyH_take (i := 5) (v := undef) rfl (by kernel_rfl) (by kernel_rfl) (by kernel_rfl) (fun _ _ _ h => h) (Or.inr ⟨by rfl, rfl⟩) (by assumption) ?_
   try simp only [Act.put, List.getElem_toArray, List.getElem_cons_succ, List.getElem_cons_zero, List.setIfInBounds_toArray, List.set_cons_zero, List.set_cons_succ]
   refine wpAnyH_take (i := 6) (v := undef) rfl (by kernel_rfl) (by kernel_rfl) (by kernel_rfl) (fun _ _ _ h => h) (Or.inr ⟨by rfl, rfl⟩) (by assumption) ?_
   try simp only [Act.put, List.getElem_toArray, List.getElem_cons_succ, List.getElem_cons_zero, List.setIfInBounds_toArray, List.set_cons_zero, List.set_cons_succ]
   refine wpAnyH_take (i := 7) (v := undef) rfl (by kernel_rfl) (by kernel_rfl) (by kernel_rfl) (fun _ _ _ h => h) (Or.inr ⟨by rfl, rfl⟩) (by assumption) ?_
   try simp only [Act.put, List.getElem_toArray, List.getElem_cons_succ, List.getElem_cons_zero, List.setIfInBounds_toArray, List.set_cons_zero, List.set_cons_succ]
   refine wpAnyH_take (i := 8) (v := undef) rfl (by kernel_rfl) (by kernel_rfl) (by kernel_rfl) (fun _ _ _ h => h) (Or.inr ⟨by rfl, rfl⟩) (by assumption) ?_
   try simp only [Act.put, List.getElem_toArray, List.getElem_cons_succ, List.getElem_cons_zero, List.setIfInBounds_toArray, List.set_cons_zero, List.set_cons_succ]
   refine wpAnyH_take (i := 9) (v := undef) rfl (by kernel_rfl) (by kernel_rfl) (by kernel_rfl) (fun _ _ _ h => h) (Or.inr ⟨by rfl, rfl⟩) (by assumption) ?_
   try simp only [Act.put, List.getElem_toArray, List.getElem_cons_succ, List.getElem_cons_zero, List.setIfInBounds_toArray, List.set_cons_zero, List.set_cons_succ]
   refine wpAnyH_take (i := 10) (v := undef) rfl (by kernel_rfl) (by kernel_rfl) (by kernel_rfl) (fun _ _ _ h => h) (Or.inr ⟨by rfl, rfl⟩) (by assumption) ?_
   try simp only [Act.put, List.getElem_toArray, List.getElem_cons_succ, List.getElem_cons_zero, List.setIfInBounds_toArray, List.set_cons_zero, List.set_cons_succ]
   refine wpAnyH_take (i := 11) (v := undef) rfl (by kernel_rfl) (by kernel_rfl) (by kernel_rfl) (fun _ _ _ h => h) (Or.inr ⟨by rfl, rfl⟩) (by assumption) ?_
   try simp only [Act.put, List.getElem_toArray, List.getElem_cons_succ, List.getElem_cons_zero, List.setIfInBounds_toArray, List.set_cons_zero, List.set_cons_succ]
   refine wpAnyH_take (i := 12) (v := ?v12) rfl (by kernel_rfl) (by kernel_rfl) (by kernel_rfl) (fun _ _ _ h => h) (Or.inl ⟨by rfl, ?hy12⟩) (by assumption) ?rest12
   case hy12 => (intro w hSw; (try dsimp only at hSw); go_simp; try with_reducible rfl)
   try simp only [Act.put, List.getElem_toArray, List.getElem_cons_succ, List.getElem_cons_zero, List.setIfInBounds_toArray, List.set_cons_zero, List.set_cons_succ]
   refine wpAnyH_done (by kernel_rfl) ?_ _
   clear f1 f2 f3 hd1
   go_wp2
   go_ret2
   exact ⟨_, rfl, grown_trans hg0 (grown_trans hg hgA), _, _, _, false, rfl, .inr ⟨rfl, HQ.out⟩⟩
set_option maxRecDepth 100000 in
set_option maxHeartbeats 4000000 in
theorem sSubCj_ok (P : Pr) (w : World) (pv uv vv : Value) (U V : List (List Int)) (Sp Su Sv : Nat → Prop) (hpv : PresV Sp w pv P) (hu : Rows2 Su w uv U) (hv : Rows2 Sv w vv V) :
  Calls Tryz.prog 39 #[pv, uv, vv] w (Ret w fun w' v => ∃ a n c, v = .tuple #[.slice a n c, .int .i64 (sjC P U V)] ∧ Ints Any w' (.slice a n c) (sjL P U V)) := by
 obtain ⟨vo, vp, vc, rfl, h3⟩ := hpv
 have hp0 := PresP.box h3 28
 have hg0 : Ext w (w.alloc (.cells #[vo, vp, vc] 28)) := World.grownBy_alloc _ _ _
 have hu0 := Rows2.ext hu hg0
 have hv0 := Rows2.ext hv hg0
 obtain ⟨au, capu, rfl, _, _⟩ := Sl.shape hu
 obtain ⟨av, capv, rfl, _, _⟩ := Sl.shape hv
 obtain ⟨vo6, vp6, vc6, _, _, hc0, hc1, hc2, h36⟩ := hp0.at
 simp only [Nat.zero_add] at hc1 hc2
 have hbx : ∀ w', Ext (w.alloc (.cells #[vo, vp, vc] 28)) w' → w'.cell? ⟨w.heap.size, 0, none⟩ = some vo6 ∧ w'.cell? ⟨w.heap.size, 1, none⟩ = some vp6 ∧ w'.cell? ⟨w.heap.size, 2, none⟩ = some vc6 := fun w' h => ⟨h.cell hc0 (by simp), h.cell hc1 (by simp), h.cell hc2 (by simp)⟩
 have HB := Lib.hid hbx; clear hbx
 have hE := l13Two_ok P (w.alloc (.cells #[vo, vp, vc] 28)) _ _ _ U V Any Su Sv ⟨_, _, _, rfl, h36⟩ hu0 hv0
 clear hp0 hu hv
 go_enter Tryz.func39, Tryz.ntmps39
 go_wp2_with fail
 clear hc0 hc1 hc2
 generalize hw0 : w.alloc (.cells #[vo, vp, vc] 28) = w0 at *
 clear hw0
 refine Calls.mono hE ?_
 rintro e1 w1 ⟨v1, rfl, hg1, r1, rfl, hr1⟩
 clear hE
 obtain ⟨hb0, hb1, hb2⟩ := HB.out w1 hg1
 cases r1 with
 | false =>
  have hbad : ¬ twoOk P U V := fun h => by have := hr1.2 h; cases this
  obtain ⟨hc, hL⟩ := sj_bad hbad
  clear hbad
  have HC := Lib.hid (And.intro hc hL); clear hc hL hr1
  go_wp2
  go_ret2
  exact ⟨_, rfl, grown_trans hg0 hg1, none, 0, 0, by rw [HC.out.1]; rfl, by rw [HC.out.2]; exact ⟨none, 0, rfl, ⟨by simp, by simp, fun _ => rfl⟩, fun i hi => by simp at hi⟩⟩
 | true =>
  have hok : twoOk P U V := hr1.1 rfl
  have G := grp_of_r hok.1
  have HC := Lib.hid hok; clear hok hr1
  go_wp2_with fail
  clear hb0 hb1 hb2
  refine Calls.mono (l18Mover_ok P G w1 _ _ _ U V Any Su Sv ⟨_, _, _, rfl, Pres3.ext h36 hg1⟩ (Rows2.ext hu0 hg1) (Rows2.ext hv0 hg1) HC.out.2.1 HC.out.2.2) ?_
  rintro e2 w2 ⟨v2, rfl, hg2, az, nz, cz, f, rfl, hM⟩
  cases f with
  | true =>
   obtain ⟨-, k, hk, hI⟩ : true = true ∧ ∃ k : Nat, FstI (mvQ P U V) (ordP P).toNat k ∧ Ints Any w2 (.slice az nz cz) (elAt P k) := hM.elim id (fun h => by cases h.1)
   have hq := sj_yes HC.out hk
   have HQ := Lib.hid (And.intro hq hI); clear hq hI hM hk
   go_wp2
   go_ret2
   exact ⟨_, rfl, grown_trans hg0 (grown_trans hg1 hg2), _, _, _, by rw [HQ.out.1.1]; rfl, by rw [HQ.out.1.2]; exact HQ.out.2⟩
  | false =>
   have hk : FstI (mvQ P U V) (ordP P).toNat (-1) := hM.elim (fun h => by cases h.1) (fun h => h.2)
   have hq := sj_no HC.out hk
   have HQ := Lib.hid hq; clear hq hM hk
   go_wp2
   go_ret2
   exact ⟨_, rfl, grown_trans hg0 (grown_trans hg1 hg2), none, 0, 0, by rw [HQ.out.1]; rfl, by rw [HQ.out.2]; exact ⟨none, 0, rfl, ⟨by simp, by simp, fun _ => rfl⟩, fun i hi => by simp at hi⟩⟩
end Go.Proofs.YtdcobapnlpeaaaaGreat
namespace Go.Proofs.YtdcobapnlpeaaaaGreat
open Go.RowKit
set_option maxRecDepth 100000 in
set_option maxHeartbeats 4000000 in
theorem iCens_ok (P : Pr) (hr : rconsB P = true) (w : World) (pv uv : Value) (U : List (List Int)) (Sp Su : Nat → Prop) (hpv : PresV Sp w pv P) (hu : Rows2 Su w uv U) (hU : SubB P U) :
  Calls Tryz.prog 41 #[pv, uv] w (Ret w fun w' v => ∃ a n c, v = .tuple #[.slice a n c, .int .i64 0] ∧ RowsO w.heap.size w' (.slice a n c) (cseq P (czP P U))) := by
 have G := grp_of_r hr
 have hn6 := G.v.n6
 obtain ⟨vo, vp, vc, rfl, h3⟩ := hpv
 have hp0 := PresP.box h3 28
 have hg0 : Ext w (w.alloc (.cells #[vo, vp, vc] 28)) := World.grownBy_alloc _ _ _
 have hs0 : (w.alloc (.cells #[vo, vp, vc] 28)).heap.size = w.heap.size + 1 := by simp
 have hu0 := Rows2.ext hu hg0
 obtain ⟨au, capu, rfl, _, _⟩ := Sl.shape hu
 have hg1 : Ext (w.alloc (.cells #[vo, vp, vc] 28)) ((w.alloc (.cells #[vo, vp, vc] 28)).alloc (.cells #[.slice au U.length capu] 25)) := World.grownBy_alloc _ _ _
 have hl := rows3One hu0
 have hcon := areSubgroups_ok P _ _ _ [U] Any Any (hp0.ext hg1) hl
 rw [hs0] at hcon
 clear hl hu
 have hulU : U.length ≤ P.orders.length := G.sub_len hU
 have HH := Lib.hid (And.intro hr (And.intro hU ((trivial : True)))); clear hr hU
 go_enter Tryz.func41, Tryz.ntmps41
 go_wp2_with fail
 refine Calls.mono hcon ?_
 rintro e1 w1 ⟨v1, rfl, hgA, r1, rfl, hr1⟩
 clear hcon
 obtain rfl : r1 = true := hr1.2 (by have := HH.out; simp only [List.mem_cons, List.mem_nil_iff, or_false]; exact ⟨this.1, fun u hu => by subst hu; exact this.2.1⟩)
 clear hr1
 have hg01 := grown_trans hg1 hgA
 have HS := Lib.hid hs0; clear hs0
 generalize hw0 : (w.alloc (.cells #[vo, vp, vc] 28)) = w0 at *
 clear hw0 hg1 hgA
 have hp1 := hp0.ext hg01
 have hu1 := Rows2.ext hu0 hg01
 have hcn := centralizer_ok P G w1 _ _ U Any Su hp1 hu1 HH.out.2.1.1
 have HC := Lib.hid hcn; clear hcn
 go_wp2_with fail
 refine Calls.mono HC.out ?_
 rintro e2 w2 ⟨v2, rfl, hg2, hO⟩
 have hl2 := G.cseq_len (G.cz_sub HH.out.2.1.1)
 obtain ⟨ad, nd, capd, hvd⟩ : ∃ a n c, v2 = Value.slice a n c := by obtain ⟨a, c, e, _⟩ := SlD.shape (hO.toD (by omega)); exact ⟨_, _, _, e⟩
 subst hvd
 have HO := Lib.hid hO; clear hO HC
 go_wp2
 go_ret2
 exact ⟨_, rfl, grown_trans hg0 (grown_trans hg01 hg2), _, _, _, rfl, HO.out.weak (by have := hg01.size; have := hg0.size; omega)⟩
end Go.Proofs.YtdcobapnlpeaaaaGreat
namespace Go.Proofs.YtdcobapnlpeaaaaGreat
open Go.Proofs Go.Shelf Go.RowKit Go.Lib
def Tryz.growRows_ren : Go.Shelf.Ren := ⟨fun | 4 => 253 | n => n, fun | 22 => 25 | 25 => 24 | 3 => 3 | 4 => 4 | 9 => 9 | 20 => 20 | 0 => 0 | n => n, fun | n => n⟩
theorem Tryz.growRows : Go.Proofs.Lays8.n4 Tryz.prog Tryz.growRows_ren := {
  mixed := by kernel_rfl
  f4 := ⟨Tryz.f253.name, by decide, Tryz.func253.trans (congrArg some (by kernel_rfl))⟩
  t0 := Tryz.underlying0
  a0 := Tryz.isAgg0
  z0 := Tryz.sizeOf0
  v0 := Tryz.zeroValue0
  t3 := Tryz.underlying3
  a3 := Tryz.isAgg3
  z3 := Tryz.sizeOf3
  v3 := Tryz.zeroValue3
  t4 := Tryz.underlying4
  a4 := Tryz.isAgg4
  z4 := Tryz.sizeOf4
  v4 := Tryz.zeroValue4
  t9 := Tryz.underlying9
  a9 := Tryz.isAgg9
  z9 := Tryz.sizeOf9
  v9 := Tryz.zeroValue9
  t20 := Tryz.underlying20
  a20 := Tryz.isAgg20
  z20 := Tryz.sizeOf20
  v20 := Tryz.zeroValue20
  t22 := Tryz.underlying25
  a22 := Tryz.isAgg25
  z22 := Tryz.sizeOf25
  v22 := Tryz.zeroValue25 }
end Go.Proofs.YtdcobapnlpeaaaaGreat
namespace Go.Proofs.YtdcobapnlpeaaaaGreat
open Go.RowKit
end Go.Proofs.YtdcobapnlpeaaaaGreat
namespace Go.Proofs.YtdcobapnlpeaaaaGreat
open Go.RowKit
set_option maxRecDepth 100000 in
set_option maxHeartbeats 4000000 in
theorem isSubset_ok (P : Pr) (G : Grp P) (w : World) (p uv vv : Value) (U : List (List Int)) (H : List Int → Prop) (Sp Su Sv : Nat → Prop) (S : Sub P H) (hp : PresP Sp w p P) (hu : Rows2 Su w uv U) (hv : Rows2 Sv w vv (cseq P H)) (hU : ∀ x ∈ U, Vec P.orders x) :
  Calls Tryz.prog 145 #[p, uv, vv] w (Ret w fun _ v => ∃ r : Bool, v = .bool r ∧ (r = true ↔ ∀ x ∈ U, H x)) := by
 obtain ⟨pb, po, rfl⟩ := hp.shape
 obtain ⟨au, capu, rfl, _, hul⟩ := Sl.shape hu
 obtain ⟨av, capv, hvv, _, _⟩ := Sl.shape hv
 obtain ⟨nv, hnv⟩ : ∃ nv, nv = (cseq P H).length := ⟨_, rfl⟩
 rw [← hnv] at hvv
 subst hvv
 have HU := Lib.hid hU; clear hU
 have HN := Lib.hid hnv; clear hnv
 go_enter Tryz.func145, Tryz.ntmps145
 go_wp2
 go_loopw [8, 11] (fun _ iv wr => ∃ (i : Nat), iv = .int .i64 i ∧ i ≤ U.length ∧ Ext w wr ∧ Hid (∀ k, k < i → H (gt U k))) (fun _ iv _ => U.length - (intOf iv).toNat)
 case atStart => exact ⟨0, rfl, by omega, grown_refl _ _, Lib.hid (fun k hk => by omega)⟩
 case round =>
  obtain ⟨i, rfl, hi, hg, hH⟩ := hrel
  by_cases hlt : i < U.length
  ·obtain ⟨b, off, ax, capx, rfl, hbS, hbl, hcb, hxI⟩ := Rows2.at hu i hlt
   have hcr := hg.cell hcb (by simp)
   have hxr := Ints.ext hxI hg
   have hpr := hp.ext hg
   have hvr := Rows2.ext hv hg
   have hxV : Vec P.orders (gt U i) := HU.out _ (gt_mem hlt)
   have hli : (i : Int) < (U.length : Nat) := by omega
   clear hcb hxI
   obtain ⟨x, hx⟩ : ∃ x, x = gt U i := ⟨_, rfl⟩
   rw [← hx] at hcr hxr hxV
   have HX := Lib.hid hx; clear hx
   go_wp2_with fail
   refine Calls.mono (isMember_ok P G wr _ _ _ H x Sp Sv Su S hpr hvr hxr hxV) ?_
   rintro e1 w1 ⟨v1, rfl, hg1, r, rfl, hr⟩
   have HR := Lib.hid hr; clear hr
   cases r with
   | true =>
    go_wp2
    go_roundw
    case rel => exact ⟨i + 1, by go_num, by omega, grown_trans hg hg1, Lib.hid (fun k hk => by
     rcases Nat.lt_or_ge k i with h | h
     ·exact hH.out k h
     ·have : k = i := by omega
      subst this; rw [← HX.out]; have := HR.out; simpa using this)⟩
    case measure => simp [intOf]; omega
   | false =>
    go_wp2
    go_ret
    exact ⟨_, rfl, grown_trans hg hg1, false, rfl, by
     constructor
     ·intro h; cases h
     ·intro h
      have := HR.out.2 (by rw [HX.out]; exact h _ (gt_mem hlt))
      cases this⟩
  ·have hie : i = U.length := by omega
   have hli : ¬ (i : Int) < (U.length : Nat) := by omega
   go_wp2
   go_ret
   exact ⟨_, rfl, hg, .inr ⟨rfl, fun y hy => by
    obtain ⟨m, hm, rfl⟩ := mem_gt hy
    exact hH.out m (by omega)⟩⟩
end Go.Proofs.YtdcobapnlpeaaaaGreat
namespace Go.Proofs.YtdcobapnlpeaaaaGreat
open Go.RowKit
set_option maxRecDepth 100000 in
set_option maxHeartbeats 4000000 in
theorem iSubset_ok (P : Pr) (hr : rconsB P = true) (w : World) (pv uv vv : Value) (U V : List (List Int)) (Sp Su Sv : Nat → Prop) (hpv : PresV Sp w pv P) (hu : Rows2 Su w uv U) (hv : Rows2 Sv w vv V) (hU : SubB P U) (hV : SubB P V) :
  Calls Tryz.prog 42 #[pv, uv, vv] w (Ret w fun _ v => ∃ r : Bool, v = .tuple #[.bool r, .int .i64 0] ∧ (r = true ↔ ∀ x ∈ U, gU P V x)) := by
 have G := grp_of_r hr
 have hn6 := G.v.n6
 obtain ⟨vo, vp, vc, rfl, h3⟩ := hpv
 have hp0 := PresP.box h3 28
 have hg0 : Ext w (w.alloc (.cells #[vo, vp, vc] 28)) := World.grownBy_alloc _ _ _
 have hs0 : (w.alloc (.cells #[vo, vp, vc] 28)).heap.size = w.heap.size + 1 := by simp
 have hu0 := Rows2.ext hu hg0
 have hv0 := Rows2.ext hv hg0
 obtain ⟨au, capu, rfl, _, _⟩ := Sl.shape hu
 obtain ⟨av, capv, rfl, _, _⟩ := Sl.shape hv
 have hg1 : Ext (w.alloc (.cells #[vo, vp, vc] 28)) ((w.alloc (.cells #[vo, vp, vc] 28)).alloc (.cells #[.slice au U.length capu, .slice av V.length capv] 25)) := World.grownBy_alloc _ _ _
 have hl := rows3Two hu0 hv0
 have hcon := areSubgroups_ok P _ _ _ [U, V] Any Any (hp0.ext hg1) hl
 rw [hs0] at hcon
 clear hl hu hv
 have hulU : U.length ≤ P.orders.length := G.sub_len hU
 have hulV : V.length ≤ P.orders.length := G.sub_len hV
 have HH := Lib.hid (And.intro hr (And.intro hU ( And.intro hV ((trivial : True))))); clear hr hU hV
 go_enter Tryz.func42, Tryz.ntmps42
 go_wp2_with fail
 refine Calls.mono hcon ?_
 rintro e1 w1 ⟨v1, rfl, hgA, r1, rfl, hr1⟩
 clear hcon
 obtain rfl : r1 = true := hr1.2 (by have := HH.out; simp only [List.mem_cons, List.mem_nil_iff, or_false]; exact ⟨this.1, fun u hu => by rcases hu with rfl | rfl; exact this.2.1; exact this.2.2.1⟩)
 clear hr1
 have hg01 := grown_trans hg1 hgA
 have HS := Lib.hid hs0; clear hs0
 generalize hw0 : (w.alloc (.cells #[vo, vp, vc] 28)) = w0 at *
 clear hw0 hg1 hgA
 have hp1 := hp0.ext hg01
 have hu1 := Rows2.ext hu0 hg01
 have hv1 := Rows2.ext hv0 hg01
 have hv2 : Rows2 Sv w1 (.slice av V.length capv) (cseq P (gU P V)) := by rw [← HH.out.2.2.1.2]; exact hv1
 have hcn := isSubset_ok P G w1 _ _ _ U (gU P V) Any Su Sv (G.subB HH.out.2.2.1) hp1 hu1 hv2 HH.out.2.1.1
 have HC := Lib.hid hcn; clear hcn hv2
 go_wp2_with fail
 refine Calls.mono HC.out ?_
 rintro e2 w2 ⟨v2, rfl, hg2, r, rfl, hri⟩
 have HRI := Lib.hid hri; clear hri HC
 go_wp2
 go_ret2
 exact ⟨_, rfl, grown_trans hg0 (grown_trans hg01 hg2), r, rfl, HRI.out⟩
end Go.Proofs.YtdcobapnlpeaaaaGreat
namespace Go.Proofs.YtdcobapnlpeaaaaGreat
open Go.RowKit
attribute [local go_sem ↓] Go.wp_at_zero Go.wp_at_succ
theorem und_rows3n : Tryz.prog.underlying 26 = some (.slice 25) := by kernel_rfl
theorem Tryz.infoRow2n : (Tryz.prog.info? 25).map (fun i => (i.zero, i.size, i.bytes)) = some (some (.slice none 0 0), 1, 24) := by kernel_rfl
abbrev Rows3N (B : Nat) (w : World) (v : Value) (xs : List (List (List Int))) : Prop := SlO (fun F w u (x : List (List Int)) => RowsD F w u x) 25 B w v xs
theorem SlO.nil0 {α : Type} [Inhabited α] (El : (Nat → Prop) → World → Value → α → Prop) (E B : Nat) (w : World) (hB : B ≤ w.heap.size) : SlO El E B (w.alloc (.cells #[] E)) (.slice (some ⟨w.heap.size, 0, none⟩) 0 0) ([] : List α) :=
 ⟨[], fun _ _ => False, rfl, World.ownsRow_lit w #[] 0 hB (by decide) rfl, by simp, by simp, by simp⟩
theorem take_mem_succ {L : List (List (List Int))} {C : List (List Int)} {i : Nat} (hi : i < L.length) : C ∈ L.take (i + 1) ↔ (C ∈ L.take i ∨ gt L i = C) := by
 have hg : gt L i = L[i] := by simp [gt, hi]
 rw [hg, List.take_succ_eq_append_getElem hi, List.mem_append, List.mem_singleton]
 exact ⟨fun h => h.imp id Eq.symm, fun h => h.imp id Eq.symm⟩
set_option maxRecDepth 100000 in
set_option maxHeartbeats 8000000 in
theorem lawNz_ok (w : World) (cv : Value) (bs : List Int) (S : Nat → Prop) (hb : Bytes S w cv bs) :
  Calls Tryz.prog 6 #[cv] w (Ret w fun _ v => v = .bool true) := by
 obtain ⟨ca, cc, rfl, _, _⟩ := Sl.shape hb
 go_enter Tryz.func6, Tryz.ntmps6
 go_wp2_with fail
 refine Calls.mono (big_ok w _ bs S hb) ?_
 rintro _ _ ⟨rfl, rfl⟩
 by_cases hbg : 4096 < bs.length
 ·have hd : decide (4096 < bs.length) = true := by simp [hbg]
  rw [hd]
  go_wp2
  go_ret
  exact ⟨_, rfl, grown_refl _ _, rfl⟩
 have hbl : bs.length ≤ 4096 := by omega
 have hd : decide (4096 < bs.length) = false := by simp [hbg]
 rw [hd]; clear hd hbg
 go_wp2_with fail
 refine Calls.mono (DrawSubgroupConjugator_ok w _ bs S hb) ?_
 rintro e1 w1 ⟨v1, rfl, hg1, vo, vp, vc, rv, sv, P, rfl, hPl, hP, ⟨U, _, _, hU⟩, ⟨V, _, _, hV⟩⟩
 obtain ⟨a1, n1, c1, hy1⟩ : ∃ a n c, vo = .slice a n c := by obtain ⟨a, c, e, _⟩ := hP.o.shape; exact ⟨_, _, _, e⟩
 obtain ⟨a2, n2, c2, hy2⟩ : ∃ a n c, vp = .slice a n c := by obtain ⟨a, c, e, _⟩ := Sl.shape hP.p; exact ⟨_, _, _, e⟩
 obtain ⟨a3, n3, c3, hy3⟩ : ∃ a n c, vc = .slice a n c := by obtain ⟨a, c, e, _⟩ := Sl.shape hP.c; exact ⟨_, _, _, e⟩
 subst hy1 hy2 hy3
 obtain ⟨ra, rn, rc, hrr⟩ : ∃ a n c, rv = .slice a n c := by obtain ⟨a, c, e, _⟩ := Sl.shape hU; exact ⟨_, _, _, e⟩
 subst hrr
 obtain ⟨sa, sn, sc, hrs⟩ : ∃ a n c, sv = .slice a n c := by obtain ⟨a, c, e, _⟩ := Sl.shape hV; exact ⟨_, _, _, e⟩
 subst hrs
 have hgX : Ext w1 (w1.alloc (.cells #[.slice a1 n1 c1, .slice a2 n2 c2, .slice a3 n3 c3] 28)) := World.grownBy_alloc _ _ _
 have hX := Box3.made w1 28 (.slice a1 n1 c1) (.slice a2 n2 c2) (.slice a3 n3 c3)
 have hPX := hP.ext hgX
 have hUX := Rows2.ext hU hgX
 have hVX := Rows2.ext hV hgX
 have hgw := grown_trans hg1 hgX
 have hbX := Bytes.ext hb hgw
 have HA0 := Lib.hid (And.intro hPX (And.intro hUX (And.intro hVX (And.intro hgw hbX)))); clear hPX hUX hVX hgw hbX hgX hP hU hV hg1 hb
 obtain ⟨pb, hpb⟩ : ∃ pb, pb = w1.heap.size := ⟨_, rfl⟩
 rw [← hpb] at hX
 have HP := Lib.hid hpb; clear hpb
 go_wp2_with fail
 rw [← HP.out]
 generalize w1.alloc (.cells #[.slice a1 n1 c1, .slice a2 n2 c2, .slice a3 n3 c3] 28) = w2 at *
 clear HP
 have hall : ∀ w', Ext w2 w' → Box3 w' pb (.slice a1 n1 c1) (.slice a2 n2 c2) (.slice a3 n3 c3) ∧ PresV (From w.heap.size) w' (.agg #[.slice a1 n1 c1, .slice a2 n2 c2, .slice a3 n3 c3]) P ∧ Rows2 (From w.heap.size) w' (.slice ra rn rc) U ∧ Rows2 (From w.heap.size) w' (.slice sa sn sc) V ∧ Bytes S w' (.slice ca bs.length cc) bs :=
  fun w' h => ⟨hX.ext h, ⟨_, _, _, rfl, HA0.out.1.ext h⟩, Rows2.ext HA0.out.2.1 h, Rows2.ext HA0.out.2.2.1 h, Bytes.ext HA0.out.2.2.2.2 h⟩
 have HA := Lib.hid hall; clear hall hX
 have hgw := grown_refl w2 none
 obtain ⟨b0_, b1_, b2_, b3_, _⟩ := id (HA.out w2 hgw).1
 go_wp2_with fail
 clear b0_ b1_ b2_ b3_
 refine Calls.mono (iSubCj_ok P w2 _ _ _ U V _ _ _ (HA.out w2 hgw).2.1 (HA.out w2 hgw).2.2.1 (HA.out w2 hgw).2.2.2.1) ?_
 rintro e3 w3 ⟨v3, rfl, hg_, za, zn, zc, rfl, hZ_⟩
 replace hgw := grown_trans hgw hg_
 have hZr : Ints Any w3 (.slice za zn zc) (sjL P U V) := hZ_
 have hZx : ∀ w', Ext w3 w' → Ints Any w' (.slice za zn zc) (sjL P U V) := fun w' h => Ints.ext hZr h
 have HZ := Lib.hid hZx; clear hZr hZx
 have hgZ := grown_refl w3 none
 clear hZ_
 clear hg_
 obtain ⟨b0_, b1_, b2_, b3_, _⟩ := id (HA.out w3 hgw).1
 go_wp2_with fail
 clear b0_ b1_ b2_ b3_
 refine Calls.mono (sSubCj_ok P w3 _ _ _ U V _ _ _ (HA.out w3 hgw).2.1 (HA.out w3 hgw).2.2.1 (HA.out w3 hgw).2.2.2.1) ?_
 rintro e4 w4 ⟨v4, rfl, hg_, ta, tn, tc, rfl, hT_⟩
 replace hgw := grown_trans hgw hg_
 replace hgZ := grown_trans hgZ hg_
 have hTr : Ints Any w4 (.slice ta tn tc) (sjL P U V) := hT_
 have hTx : ∀ w', Ext w4 w' → Ints Any w' (.slice ta tn tc) (sjL P U V) := fun w' h => Ints.ext hTr h
 have HT := Lib.hid hTx; clear hTr hTx
 have hgT := grown_refl w4 none
 clear hT_
 clear hg_
 go_wp2_with fail
 refine Calls.mono (likeInts_ok _ _ (sjL P U V) (sjL P U V) w4 Any Any (HZ.out w4 hgZ) (HT.out w4 hgT)) ?_
 rintro e5 w5 ⟨v5, rfl, hg_, rfl⟩
 replace hgw := grown_trans hgw hg_
 replace hgZ := grown_trans hgZ hg_
 replace hgT := grown_trans hgT hg_
 rw [show eqB (sjL P U V) (sjL P U V) = true from eqB_true.2 rfl]
 clear HT hgT
 clear hg_
 by_cases h1 : twoOk P U V
 case neg =>
  rw [(sj_bad h1).1]
  go_wp2
  go_ret
  exact ⟨_, rfl, grown_trans HA0.out.2.2.2.1 hgw, rfl⟩
 have hr := h1.1
 have hUB := h1.2.1
 have hVB := h1.2.2
 have G := grp_of_r hr
 have hn6 := G.v.n6
 have SU := G.subB hUB
 have SN := G.nr_sub SU
 have SNB := G.subB_cseq SN
 have SZ := G.cz_sub hUB.1
 have SZB := G.subB_cseq SZ
 have eN : gU P (cseq P (nrP P (gU P U))) = nrP P (gU P U) := G.genP_cseq SN
 have sN1 := G.sz_pos SN
 have sN2 := G.sz_729 SN
 have sNe : prodU P (cseq P (nrP P (gU P U))) (cseq P (nrP P (gU P U))).length = szP P (nrP P (gU P U)) := rfl
 have i1 : ∀ x ∈ U, gU P (cseq P (nrP P (gU P U))) x := by rw [eN]; exact fun x hx => G.nr_ge SU x (genP_mem hx)
 have i2 : ∀ x ∈ cseq P (czP P U), gU P (cseq P (nrP P (gU P U))) x := by
  rw [eN]; exact fun x hx => G.cz_le_nr hUB x ((G.seq_facts SZ).2.1 x hx)
 have hcnt := G.fd_count SU
 have hlN : (cseq P (nrP P (gU P U))).length ≤ P.orders.length := G.cseq_len SN
 have hlZ : (cseq P (czP P U)).length ≤ P.orders.length := G.cseq_len SZ
 have HH := Lib.hid (And.intro SU (And.intro SNB (And.intro SZB (And.intro sN1 (And.intro sN2 (And.intro sNe (And.intro i1 (And.intro i2 hcnt)))))))); clear SU SN SZ SNB SZB eN sN1 sN2 sNe i1 i2 hcnt
 have HL := Lib.hid (And.intro hlN hlZ); clear hlN hlZ
 obtain ⟨rr, hrr⟩ := FstI_ex (mvQ P U V) (ordP P).toNat
 have hcase : (sjC P U V = 4) ∨ ∃ k : Nat, k < (ordP P).toNat ∧ mvQ P U V k ∧ sjC P U V = 0 ∧ sjL P U V = elAt P k := by
  rcases hrr with ⟨k, rfl, hk, hq, hm⟩ | ⟨rfl, hm⟩
  ·obtain ⟨e1, e2⟩ := sj_yes h1 (.inl ⟨k, rfl, hk, hq, hm⟩)
   exact .inr ⟨k, hk, hq, e1, e2⟩
  ·exact .inl (sj_no h1 (.inr ⟨rfl, hm⟩)).1
 clear hrr
 rcases hcase with hc4 | ⟨kz, hkz, hqz, hc0, hcl⟩
 ·rw [hc4]; clear hc4
  clear HZ hgZ
  obtain ⟨b0_, b1_, b2_, b3_, _⟩ := id (HA.out w5 hgw).1
  go_wp2_with fail
  clear b0_ b1_ b2_ b3_
  refine Calls.mono (iNzer_ok P hr w5 _ _ U _ _ (HA.out w5 hgw).2.1 (HA.out w5 hgw).2.2.1 hUB) ?_
  rintro e6 w6 ⟨v6, rfl, hg_, na, nn, nc, rfl, hN_⟩
  replace hgw := grown_trans hgw hg_
  have hNr : Rows2 Any w6 (.slice na nn nc) (cseq P (nrP P (gU P U))) := Rows2.sub (RowsD.rows (SlO.toD hN_ (by have := HL.out.1; omega))) (fun _ _ _ => trivial)
  have hNx : ∀ w', Ext w6 w' → Rows2 Any w' (.slice na nn nc) (cseq P (nrP P (gU P U))) := fun w' h => Rows2.ext hNr h
  have HN := Lib.hid hNx; clear hNr hNx
  have hgN := grown_refl w6 none
  clear hN_
  clear hg_
  obtain ⟨b0_, b1_, b2_, b3_, _⟩ := id (HA.out w6 hgw).1
  go_wp2_with fail
  clear b0_ b1_ b2_ b3_
  refine Calls.mono (iCens_ok P hr w6 _ _ U _ _ (HA.out w6 hgw).2.1 (HA.out w6 hgw).2.2.1 hUB) ?_
  rintro e7 w7 ⟨v7, rfl, hg_, ca, cn, cc0, rfl, hC_⟩
  replace hgw := grown_trans hgw hg_
  replace hgN := grown_trans hgN hg_
  have hCr : Rows2 Any w7 (.slice ca cn cc0) (cseq P (czP P U)) := Rows2.sub (RowsD.rows (SlO.toD hC_ (by have := HL.out.2; omega))) (fun _ _ _ => trivial)
  have hCx : ∀ w', Ext w7 w' → Rows2 Any w' (.slice ca cn cc0) (cseq P (czP P U)) := fun w' h => Rows2.ext hCr h
  have HC := Lib.hid hCx; clear hCr hCx
  have hgC := grown_refl w7 none
  clear hC_
  clear hg_
  obtain ⟨b0_, b1_, b2_, b3_, _⟩ := id (HA.out w7 hgw).1
  go_wp2_with fail
  clear b0_ b1_ b2_ b3_
  refine Calls.mono (iSubset_ok P hr w7 _ _ _ U _ _ _ _ (HA.out w7 hgw).2.1 (HA.out w7 hgw).2.2.1 (HN.out w7 hgN) hUB HH.out.2.1) ?_
  rintro e8 w8 ⟨v8, rfl, hg_, r_, rfl, hr_⟩
  replace hgw := grown_trans hgw hg_
  replace hgN := grown_trans hgN hg_
  replace hgC := grown_trans hgC hg_
  obtain rfl : r_ = true := hr_.2 HH.out.2.2.2.2.2.2.1
  clear hr_
  clear hg_
  obtain ⟨b0_, b1_, b2_, b3_, _⟩ := id (HA.out w8 hgw).1
  go_wp2_with fail
  clear b0_ b1_ b2_ b3_
  refine Calls.mono (iSubset_ok P hr w8 _ _ _ _ _ _ _ _ (HA.out w8 hgw).2.1 (HC.out w8 hgC) (HN.out w8 hgN) HH.out.2.2.1 HH.out.2.1) ?_
  rintro e9 w9 ⟨v9, rfl, hg_, q_, rfl, hq_⟩
  replace hgw := grown_trans hgw hg_
  replace hgN := grown_trans hgN hg_
  replace hgC := grown_trans hgC hg_
  obtain rfl : q_ = true := hq_.2 HH.out.2.2.2.2.2.2.2.1
  clear hq_ HC hgC
  clear hg_
  obtain ⟨b0_, b1_, b2_, b3_, _⟩ := id (HA.out w9 hgw).1
  go_wp2_with fail
  clear b0_ b1_ b2_ b3_
  refine Calls.mono (iOrder_ok P hr w9 _ _ _ _ _ (HA.out w9 hgw).2.1 (HN.out w9 hgN) HH.out.2.1) ?_
  rintro e10 w10 ⟨v10, rfl, hg_, rfl⟩
  replace hgw := grown_trans hgw hg_
  replace hgN := grown_trans hgN hg_
  rw [HH.out.2.2.2.2.2.1]
  clear HN hgN
  have hs1 : 1 ≤ szP P (nrP P (gU P U)) := HH.out.2.2.2.1
  have hs2 : ¬ szP P (nrP P (gU P U)) < 1 := by omega
  generalize hSz : szP P (nrP P (gU P U)) = sz at *
  have HSz := Lib.hid hSz; clear hSz
  clear hg_
  obtain ⟨b0_, b1_, b2_, b3_, _⟩ := id (HA.out w10 hgw).1
  go_wp2_with fail
  clear b0_ b1_ b2_ b3_
  refine Calls.mono (size9_ok P hr w10 _ _ (HA.out w10 hgw).2.1) ?_
  rintro e11 w11 ⟨v11, rfl, hg_, rfl⟩
  replace hgw := grown_trans hgw hg_
  clear hs1 hs2
  clear hg_
  by_cases h24 : 24 < ordP P
  case pos =>
   go_wp2
   go_ret
   exact ⟨_, rfl, grown_trans HA0.out.2.2.2.1 hgw, rfl⟩
  have hop := G.v.ordP_pos
  go_wp2
  go_loopw [22, 23] (fun v kv wr => ∃ k : Nat, kv = .int .i64 k ∧ k ≤ (ordP P).toNat ∧ Ext w11 wr ∧ Rows3N w11.heap.size wr v (fdL P (gU P U) k)) (fun _ kv _ => (ordP P).toNat - (intOf kv).toNat)
  case atStart => exact ⟨0, rfl, by omega, World.grownBy_alloc _ _ _, SlO.nil0 _ _ _ _ (Nat.le_refl _)⟩
  case round =>
   obtain ⟨k, rfl, hk, hg, hL⟩ := hrel
   obtain ⟨wo, rfl⟩ : ∃ wo : World, wo = wr := ⟨_, rfl⟩
   have hLl := fdL_len P (gU P U) k
   have hLd := Rows3D.rows (hL.toD (by omega))
   obtain ⟨aL, capL, rfl, _, _⟩ := Sl.shape hLd
   obtain ⟨L, hLe⟩ : ∃ L, L = fdL P (gU P U) k := ⟨_, rfl⟩
   rw [← hLe] at hL hLd hLl
   rw [← hLe]
   have HLe := Lib.hid hLe; clear hLe
   have hgo := grown_trans hgw hg
   obtain ⟨b0_, b1_, b2_, b3_, _⟩ := id (HA.out wo hgo).1
   go_wp2_with fail
   clear b0_ b1_ b2_ b3_
   refine Calls.mono (size9_ok P hr wo _ _ (HA.out wo hgo).2.1) ?_
   rintro eS wS ⟨vS, rfl, hgS, rfl⟩
   have hgoS := grown_trans hgo hgS
   by_cases hlt : k < (ordP P).toNat
   ·have hlt' : (k : Int) < ordP P := by omega
    have hEV := elAt_vec G.v (k : Int) (by omega)
    obtain ⟨b0_, b1_, b2_, b3_, _⟩ := id (HA.out wS hgoS).1
    go_wp2_with fail
    clear b0_ b1_ b2_ b3_
    refine Calls.mono (iElAt_ok P hr wS _ (k : Int) _ (HA.out wS hgoS).2.1 (by omega) hlt') ?_
    rintro eE wE ⟨vE, rfl, hgE, ea, en, ec, rfl, hE⟩
    have hEi := hE.ints (by rw [hEV.1]; omega)
    have hgoE := grown_trans hgoS hgE
    have eC := G.gU_conjL hUB hEV
    have SC := G.cj_sub HH.out.1 hEV
    have hCl : (cseq P (cjS P (gU P U) (elAt P (k : Int)))).length ≤ P.orders.length := G.cseq_len SC
    have HE := Lib.hid hEV; clear hEV
    have HEC := Lib.hid (And.intro eC SC); clear eC SC
    obtain ⟨b0_, b1_, b2_, b3_, _⟩ := id (HA.out wE hgoE).1
    go_wp2_with fail
    clear b0_ b1_ b2_ b3_
    refine Calls.mono (iConjSub_ok P hr wE _ _ _ U (elAt P (k : Int)) _ _ _ (HA.out wE hgoE).2.1 (HA.out wE hgoE).2.2.1 hEi hUB HE.out) ?_
    rintro eM wM ⟨vM, rfl, hgM, ma, mn, mc, rfl, hM⟩
    rw [HEC.out.1] at hM
    have hMd : RowsD (From wE.heap.size) wM (.slice ma mn mc) (cseq P (cjS P (gU P U) (elAt P (k : Int)))) := hM.toD (by omega)
    have hMr : Rows2 Any wM (.slice ma mn mc) (cseq P (cjS P (gU P U) (elAt P (k : Int)))) := Rows2.sub hMd.rows (fun _ _ _ => trivial)
    have HMD := Lib.hid hMd; clear hMd
    obtain ⟨C, hCe⟩ : ∃ C, C = cseq P (cjS P (gU P U) (elAt P (k : Int))) := ⟨_, rfl⟩
    have hEM := grown_trans (grown_trans hgS hgE) hgM
    rw [← hCe] at hMr HMD
    have HC2 := Lib.hid hCe; clear hCe hM hCl
    have hgoM := grown_trans hgoE hgM
    clear hEi hE
    have hgwM := grown_trans hg hEM
    have hLM := hLd.ext hEM
    go_wp2
    go_loopw [28, 29] (fun bv iv wr => ∃ i : Nat, iv = .int .i64 i ∧ i ≤ L.length ∧ bv = .bool (decide (C ∈ L.take i)) ∧ Ext wM wr) (fun _ iv _ => L.length - (intOf iv).toNat)
    case atStart => exact ⟨0, rfl, by omega, by simp, Ext.refl _⟩
    case round =>
     obtain ⟨i, rfl, hi, rfl, hgi⟩ := hrel
     by_cases hil : i < L.length
     ·obtain ⟨be, oe, ae2, cape2, he1, _, _, hce, hie⟩ := Rows3.at (Rows3.ext hLM hgi) i hil
      subst he1
      have hts := take_mem_succ (C := C) hil
      by_cases hin : C ∈ L.take i
      ·have hd : decide (C ∈ L.take i) = true := decide_eq_true hin
       have hd2 : decide (C ∈ L.take (i + 1)) = true := decide_eq_true (hts.2 (.inl hin))
       have HD2 := Lib.hid hd2; clear hd2 hts hin hie
       rw [hd]; clear hd
       go_wp2
       go_roundw
       case rel => exact ⟨i + 1, by go_num, by omega, by rw [HD2.out], hgi⟩
       case measure => simp [intOf]; omega
      ·have hd : decide (C ∈ L.take i) = false := decide_eq_false hin
       have hd2 : decide (C ∈ L.take (i + 1)) = eqB (gt L i) C := by
        cases he : eqB (gt L i) C with
        | true => exact decide_eq_true (hts.2 (.inr (eqB_true.1 he)))
        | false => exact decide_eq_false (fun h => by
          rcases hts.1 h with h | h
          ·exact hin h
          ·rw [eqB_true.2 h] at he; cases he)
       have HD2 := Lib.hid hd2; clear hd2 hts hin
       rw [hd]; clear hd
       go_wp2_with fail
       refine Calls.mono (like29_ok _ _ (gt L i) C wr _ Any hie (Rows2.ext hMr hgi)) ?_
       rintro eQ wQ ⟨vQ, rfl, hgQ, rfl⟩
       go_wp2
       go_roundw
       case rel => exact ⟨i + 1, by go_num, by omega, by rw [HD2.out], grown_trans hgi hgQ⟩
       case measure => simp [intOf]; omega
     ·have hie : i = L.length := by omega
      subst hie
      have ht : L.take L.length = L := List.take_length
      rw [ht]; clear ht
      have hgwi := grown_trans hgwM hgi
      have hLi := hL.ext rdRows (grown_trans hEM hgi)
      by_cases hin : C ∈ L
      ·have hd : decide (C ∈ L) = true := decide_eq_true hin
       rw [hd]; clear hd
       have hst : fdL P (gU P U) (k + 1) = L := by rw [HLe.out]; exact fdL_yes (by rw [← HLe.out, ← HC2.out]; exact hin)
       have HST := Lib.hid hst; clear hst hin
       go_wp2
       go_roundw
       case rel => exact ⟨k + 1, by go_num, by omega, hgwi, by rw [HST.out]; exact hLi⟩
       case measure => simp [intOf]; omega
      ·have hd : decide (C ∈ L) = false := decide_eq_false hin
       rw [hd]; clear hd
       have hst : fdL P (gU P U) (k + 1) = L ++ [C] := by rw [HLe.out, HC2.out]; exact fdL_no (by rw [← HLe.out, ← HC2.out]; exact hin)
       have HST := Lib.hid hst; clear hst hin
       have hMi : RowsD (From wo.heap.size) wr (.slice ma mn mc) C := rdRows.mono HMD.out (fun b hb hlb => ⟨Nat.le_trans (grown_trans hgS hgE).size hb, Nat.lt_of_lt_of_le hlb hgi.size, hgi.block b hlb (by simp)⟩)
       go_wp2_with (at_builtin; go_must (refine wp_app_one rdRows 26 25 (.slice none 0 0) 24 und_rows3n Tryz.infoRow2n rfl (by decide) rfl _ _ rfl w11.heap.size wo wr _ _ _ C rfl hL (grown_trans hEM hgi) hMi rfl rfl (by omega) hg.size ?_); intro v5 w5 hL5 hg5 hg6)
       have hgx := hL.extw hg (Nat.le_refl _) hg5
       go_roundw
       case rel => exact ⟨k + 1, by go_num, by omega, hgx, by rw [HST.out]; exact hL5⟩
       case measure => simp [intOf]; omega
   ·have hke : k = (ordP P).toNat := by omega
    subst hke
    have hfin : (L.length : Int) * sz = ordP P := by rw [HLe.out]; exact HH.out.2.2.2.2.2.2.2.2
    have hwr : IntKind.i64.wrap ((L.length : Int) * sz) = ordP P := by rw [hfin]; exact IntWalk.i64_in _ (by omega)
    obtain ⟨b0_, b1_, b2_, b3_, _⟩ := id (HA.out wS hgoS).1
    go_wp2_with fail
    clear b0_ b1_ b2_ b3_
    refine Calls.mono (size9_ok P hr wS _ _ (HA.out wS hgoS).2.1) ?_
    rintro eT wT ⟨vT, rfl, hgT, rfl⟩
    go_wp2
    go_ret
    exact ⟨_, rfl, grown_trans HA0.out.2.2.2.1 (grown_trans hgoS hgT), by simp⟩
 ·rw [hc0]; rw [hcl] at HZ; clear hc0 hcl
  have hop0 := G.v.ordP_pos
  have hzV := elAt_vec G.v (kz : Int) (by omega)
  have hmv := G.mv_eq hUB hVB hzV hqz.1 hqz.2
  have HZV := Lib.hid hzV; clear hzV hqz
  have HMV := Lib.hid hmv; clear hmv
  obtain ⟨b0_, b1_, b2_, b3_, _⟩ := id (HA.out w5 hgw).1
  go_wp2_with fail
  clear b0_ b1_ b2_ b3_
  refine Calls.mono (iConjSub_ok P hr w5 _ _ _ U (elAt P (kz : Int)) _ _ _ (HA.out w5 hgw).2.1 (HA.out w5 hgw).2.2.1 (HZ.out w5 hgZ) hUB HZV.out) ?_
  rintro e6 w6 ⟨v6, rfl, hg_, va, vn, vc9, rfl, hV_⟩
  replace hgw := grown_trans hgw hg_
  replace hgZ := grown_trans hgZ hg_
  rw [HMV.out] at hV_
  have hVl : V.length ≤ P.orders.length := G.sub_len hVB
  have hYr : Rows2 Any w6 (.slice va vn vc9) (V) := Rows2.sub (RowsD.rows (SlO.toD hV_ (by omega))) (fun _ _ _ => trivial)
  have hYx : ∀ w', Ext w6 w' → Rows2 Any w' (.slice va vn vc9) (V) := fun w' h => Rows2.ext hYr h
  have HY := Lib.hid hYx; clear hYr hYx
  have hgY := grown_refl w6 none
  clear hV_ hVl HZ hgZ
  clear hg_
  go_wp2_with fail
  refine Calls.mono (like29_ok _ _ V V w6 Any _ (HY.out w6 hgY) (HA.out w6 hgw).2.2.2.1) ?_
  rintro e7 w7 ⟨v7, rfl, hg_, rfl⟩
  replace hgw := grown_trans hgw hg_
  replace hgY := grown_trans hgY hg_
  rw [show eqB V V = true from eqB_true.2 rfl]
  clear HY hgY
  clear hg_
  obtain ⟨b0_, b1_, b2_, b3_, _⟩ := id (HA.out w7 hgw).1
  go_wp2_with fail
  clear b0_ b1_ b2_ b3_
  refine Calls.mono (iNzer_ok P hr w7 _ _ U _ _ (HA.out w7 hgw).2.1 (HA.out w7 hgw).2.2.1 hUB) ?_
  rintro e8 w8 ⟨v8, rfl, hg_, na, nn, nc, rfl, hN_⟩
  replace hgw := grown_trans hgw hg_
  have hNr : Rows2 Any w8 (.slice na nn nc) (cseq P (nrP P (gU P U))) := Rows2.sub (RowsD.rows (SlO.toD hN_ (by have := HL.out.1; omega))) (fun _ _ _ => trivial)
  have hNx : ∀ w', Ext w8 w' → Rows2 Any w' (.slice na nn nc) (cseq P (nrP P (gU P U))) := fun w' h => Rows2.ext hNr h
  have HN := Lib.hid hNx; clear hNr hNx
  have hgN := grown_refl w8 none
  clear hN_
  clear hg_
  obtain ⟨b0_, b1_, b2_, b3_, _⟩ := id (HA.out w8 hgw).1
  go_wp2_with fail
  clear b0_ b1_ b2_ b3_
  refine Calls.mono (iCens_ok P hr w8 _ _ U _ _ (HA.out w8 hgw).2.1 (HA.out w8 hgw).2.2.1 hUB) ?_
  rintro e9 w9 ⟨v9, rfl, hg_, ca, cn, cc0, rfl, hC_⟩
  replace hgw := grown_trans hgw hg_
  replace hgN := grown_trans hgN hg_
  have hCr : Rows2 Any w9 (.slice ca cn cc0) (cseq P (czP P U)) := Rows2.sub (RowsD.rows (SlO.toD hC_ (by have := HL.out.2; omega))) (fun _ _ _ => trivial)
  have hCx : ∀ w', Ext w9 w' → Rows2 Any w' (.slice ca cn cc0) (cseq P (czP P U)) := fun w' h => Rows2.ext hCr h
  have HC := Lib.hid hCx; clear hCr hCx
  have hgC := grown_refl w9 none
  clear hC_
  clear hg_
  obtain ⟨b0_, b1_, b2_, b3_, _⟩ := id (HA.out w9 hgw).1
  go_wp2_with fail
  clear b0_ b1_ b2_ b3_
  refine Calls.mono (iSubset_ok P hr w9 _ _ _ U _ _ _ _ (HA.out w9 hgw).2.1 (HA.out w9 hgw).2.2.1 (HN.out w9 hgN) hUB HH.out.2.1) ?_
  rintro e10 w10 ⟨v10, rfl, hg_, r_, rfl, hr_⟩
  replace hgw := grown_trans hgw hg_
  replace hgN := grown_trans hgN hg_
  replace hgC := grown_trans hgC hg_
  obtain rfl : r_ = true := hr_.2 HH.out.2.2.2.2.2.2.1
  clear hr_
  clear hg_
  obtain ⟨b0_, b1_, b2_, b3_, _⟩ := id (HA.out w10 hgw).1
  go_wp2_with fail
  clear b0_ b1_ b2_ b3_
  refine Calls.mono (iSubset_ok P hr w10 _ _ _ _ _ _ _ _ (HA.out w10 hgw).2.1 (HC.out w10 hgC) (HN.out w10 hgN) HH.out.2.2.1 HH.out.2.1) ?_
  rintro e11 w11 ⟨v11, rfl, hg_, q_, rfl, hq_⟩
  replace hgw := grown_trans hgw hg_
  replace hgN := grown_trans hgN hg_
  replace hgC := grown_trans hgC hg_
  obtain rfl : q_ = true := hq_.2 HH.out.2.2.2.2.2.2.2.1
  clear hq_ HC hgC
  clear hg_
  obtain ⟨b0_, b1_, b2_, b3_, _⟩ := id (HA.out w11 hgw).1
  go_wp2_with fail
  clear b0_ b1_ b2_ b3_
  refine Calls.mono (iOrder_ok P hr w11 _ _ _ _ _ (HA.out w11 hgw).2.1 (HN.out w11 hgN) HH.out.2.1) ?_
  rintro e12 w12 ⟨v12, rfl, hg_, rfl⟩
  replace hgw := grown_trans hgw hg_
  replace hgN := grown_trans hgN hg_
  rw [HH.out.2.2.2.2.2.1]
  clear HN hgN
  have hs1 : 1 ≤ szP P (nrP P (gU P U)) := HH.out.2.2.2.1
  have hs2 : ¬ szP P (nrP P (gU P U)) < 1 := by omega
  generalize hSz : szP P (nrP P (gU P U)) = sz at *
  have HSz := Lib.hid hSz; clear hSz
  clear hg_
  obtain ⟨b0_, b1_, b2_, b3_, _⟩ := id (HA.out w12 hgw).1
  go_wp2_with fail
  clear b0_ b1_ b2_ b3_
  refine Calls.mono (size9_ok P hr w12 _ _ (HA.out w12 hgw).2.1) ?_
  rintro e13 w13 ⟨v13, rfl, hg_, rfl⟩
  replace hgw := grown_trans hgw hg_
  clear hs1 hs2
  clear hg_
  by_cases h24 : 24 < ordP P
  case pos =>
   go_wp2
   go_ret
   exact ⟨_, rfl, grown_trans HA0.out.2.2.2.1 hgw, rfl⟩
  have hop := G.v.ordP_pos
  go_wp2
  go_loopw [22, 23] (fun v kv wr => ∃ k : Nat, kv = .int .i64 k ∧ k ≤ (ordP P).toNat ∧ Ext w13 wr ∧ Rows3N w13.heap.size wr v (fdL P (gU P U) k)) (fun _ kv _ => (ordP P).toNat - (intOf kv).toNat)
  case atStart => exact ⟨0, rfl, by omega, World.grownBy_alloc _ _ _, SlO.nil0 _ _ _ _ (Nat.le_refl _)⟩
  case round =>
   obtain ⟨k, rfl, hk, hg, hL⟩ := hrel
   obtain ⟨wo, rfl⟩ : ∃ wo : World, wo = wr := ⟨_, rfl⟩
   have hLl := fdL_len P (gU P U) k
   have hLd := Rows3D.rows (hL.toD (by omega))
   obtain ⟨aL, capL, rfl, _, _⟩ := Sl.shape hLd
   obtain ⟨L, hLe⟩ : ∃ L, L = fdL P (gU P U) k := ⟨_, rfl⟩
   rw [← hLe] at hL hLd hLl
   rw [← hLe]
   have HLe := Lib.hid hLe; clear hLe
   have hgo := grown_trans hgw hg
   obtain ⟨b0_, b1_, b2_, b3_, _⟩ := id (HA.out wo hgo).1
   go_wp2_with fail
   clear b0_ b1_ b2_ b3_
   refine Calls.mono (size9_ok P hr wo _ _ (HA.out wo hgo).2.1) ?_
   rintro eS wS ⟨vS, rfl, hgS, rfl⟩
   have hgoS := grown_trans hgo hgS
   by_cases hlt : k < (ordP P).toNat
   ·have hlt' : (k : Int) < ordP P := by omega
    have hEV := elAt_vec G.v (k : Int) (by omega)
    obtain ⟨b0_, b1_, b2_, b3_, _⟩ := id (HA.out wS hgoS).1
    go_wp2_with fail
    clear b0_ b1_ b2_ b3_
    refine Calls.mono (iElAt_ok P hr wS _ (k : Int) _ (HA.out wS hgoS).2.1 (by omega) hlt') ?_
    rintro eE wE ⟨vE, rfl, hgE, ea, en, ec, rfl, hE⟩
    have hEi := hE.ints (by rw [hEV.1]; omega)
    have hgoE := grown_trans hgoS hgE
    have eC := G.gU_conjL hUB hEV
    have SC := G.cj_sub HH.out.1 hEV
    have hCl : (cseq P (cjS P (gU P U) (elAt P (k : Int)))).length ≤ P.orders.length := G.cseq_len SC
    have HE := Lib.hid hEV; clear hEV
    have HEC := Lib.hid (And.intro eC SC); clear eC SC
    obtain ⟨b0_, b1_, b2_, b3_, _⟩ := id (HA.out wE hgoE).1
    go_wp2_with fail
    clear b0_ b1_ b2_ b3_
    refine Calls.mono (iConjSub_ok P hr wE _ _ _ U (elAt P (k : Int)) _ _ _ (HA.out wE hgoE).2.1 (HA.out wE hgoE).2.2.1 hEi hUB HE.out) ?_
    rintro eM wM ⟨vM, rfl, hgM, ma, mn, mc, rfl, hM⟩
    rw [HEC.out.1] at hM
    have hMd : RowsD (From wE.heap.size) wM (.slice ma mn mc) (cseq P (cjS P (gU P U) (elAt P (k : Int)))) := hM.toD (by omega)
    have hMr : Rows2 Any wM (.slice ma mn mc) (cseq P (cjS P (gU P U) (elAt P (k : Int)))) := Rows2.sub hMd.rows (fun _ _ _ => trivial)
    have HMD := Lib.hid hMd; clear hMd
    obtain ⟨C, hCe⟩ : ∃ C, C = cseq P (cjS P (gU P U) (elAt P (k : Int))) := ⟨_, rfl⟩
    have hEM := grown_trans (grown_trans hgS hgE) hgM
    rw [← hCe] at hMr HMD
    have HC2 := Lib.hid hCe; clear hCe hM hCl
    have hgoM := grown_trans hgoE hgM
    clear hEi hE
    have hgwM := grown_trans hg hEM
    have hLM := hLd.ext hEM
    go_wp2
    go_loopw [28, 29] (fun bv iv wr => ∃ i : Nat, iv = .int .i64 i ∧ i ≤ L.length ∧ bv = .bool (decide (C ∈ L.take i)) ∧ Ext wM wr) (fun _ iv _ => L.length - (intOf iv).toNat)
    case atStart => exact ⟨0, rfl, by omega, by simp, Ext.refl _⟩
    case round =>
     obtain ⟨i, rfl, hi, rfl, hgi⟩ := hrel
     by_cases hil : i < L.length
     ·obtain ⟨be, oe, ae2, cape2, he1, _, _, hce, hie⟩ := Rows3.at (Rows3.ext hLM hgi) i hil
      subst he1
      have hts := take_mem_succ (C := C) hil
      by_cases hin : C ∈ L.take i
      ·have hd : decide (C ∈ L.take i) = true := decide_eq_true hin
       have hd2 : decide (C ∈ L.take (i + 1)) = true := decide_eq_true (hts.2 (.inl hin))
       have HD2 := Lib.hid hd2; clear hd2 hts hin hie
       rw [hd]; clear hd
       go_wp2
       go_roundw
       case rel => exact ⟨i + 1, by go_num, by omega, by rw [HD2.out], hgi⟩
       case measure => simp [intOf]; omega
      ·have hd : decide (C ∈ L.take i) = false := decide_eq_false hin
       have hd2 : decide (C ∈ L.take (i + 1)) = eqB (gt L i) C := by
        cases he : eqB (gt L i) C with
        | true => exact decide_eq_true (hts.2 (.inr (eqB_true.1 he)))
        | false => exact decide_eq_false (fun h => by
          rcases hts.1 h with h | h
          ·exact hin h
          ·rw [eqB_true.2 h] at he; cases he)
       have HD2 := Lib.hid hd2; clear hd2 hts hin
       rw [hd]; clear hd
       go_wp2_with fail
       refine Calls.mono (like29_ok _ _ (gt L i) C wr _ Any hie (Rows2.ext hMr hgi)) ?_
       rintro eQ wQ ⟨vQ, rfl, hgQ, rfl⟩
       go_wp2
       go_roundw
       case rel => exact ⟨i + 1, by go_num, by omega, by rw [HD2.out], grown_trans hgi hgQ⟩
       case measure => simp [intOf]; omega
     ·have hie : i = L.length := by omega
      subst hie
      have ht : L.take L.length = L := List.take_length
      rw [ht]; clear ht
      have hgwi := grown_trans hgwM hgi
      have hLi := hL.ext rdRows (grown_trans hEM hgi)
      by_cases hin : C ∈ L
      ·have hd : decide (C ∈ L) = true := decide_eq_true hin
       rw [hd]; clear hd
       have hst : fdL P (gU P U) (k + 1) = L := by rw [HLe.out]; exact fdL_yes (by rw [← HLe.out, ← HC2.out]; exact hin)
       have HST := Lib.hid hst; clear hst hin
       go_wp2
       go_roundw
       case rel => exact ⟨k + 1, by go_num, by omega, hgwi, by rw [HST.out]; exact hLi⟩
       case measure => simp [intOf]; omega
      ·have hd : decide (C ∈ L) = false := decide_eq_false hin
       rw [hd]; clear hd
       have hst : fdL P (gU P U) (k + 1) = L ++ [C] := by rw [HLe.out, HC2.out]; exact fdL_no (by rw [← HLe.out, ← HC2.out]; exact hin)
       have HST := Lib.hid hst; clear hst hin
       have hMi : RowsD (From wo.heap.size) wr (.slice ma mn mc) C := rdRows.mono HMD.out (fun b hb hlb => ⟨Nat.le_trans (grown_trans hgS hgE).size hb, Nat.lt_of_lt_of_le hlb hgi.size, hgi.block b hlb (by simp)⟩)
       go_wp2_with (at_builtin; go_must (refine wp_app_one rdRows 26 25 (.slice none 0 0) 24 und_rows3n Tryz.infoRow2n rfl (by decide) rfl _ _ rfl w13.heap.size wo wr _ _ _ C rfl hL (grown_trans hEM hgi) hMi rfl rfl (by omega) hg.size ?_); intro v5 w5 hL5 hg5 hg6)
       have hgx := hL.extw hg (Nat.le_refl _) hg5
       go_roundw
       case rel => exact ⟨k + 1, by go_num, by omega, hgx, by rw [HST.out]; exact hL5⟩
       case measure => simp [intOf]; omega
   ·have hke : k = (ordP P).toNat := by omega
    subst hke
    have hfin : (L.length : Int) * sz = ordP P := by rw [HLe.out]; exact HH.out.2.2.2.2.2.2.2.2
    have hwr : IntKind.i64.wrap ((L.length : Int) * sz) = ordP P := by rw [hfin]; exact IntWalk.i64_in _ (by omega)
    obtain ⟨b0_, b1_, b2_, b3_, _⟩ := id (HA.out wS hgoS).1
    go_wp2_with fail
    clear b0_ b1_ b2_ b3_
    refine Calls.mono (size9_ok P hr wS _ _ (HA.out wS hgoS).2.1) ?_
    rintro eT wT ⟨vT, rfl, hgT, rfl⟩
    go_wp2
    go_ret
    exact ⟨_, rfl, grown_trans HA0.out.2.2.2.1 (grown_trans hgoS hgT), by simp⟩
end Go.Proofs.YtdcobapnlpeaaaaGreat
