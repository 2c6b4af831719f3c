/-
  The reference's inverse, conjugate and power: spec.l10From, l10Inv, l10Conj, l08Repeat.
  Plain: depths; every subgroup has a canonical sequence, and every element a representative.
  Plain: the steps of (*impl.sequence).add on the invariant of SubAdd; how often it can go round.
  append of a whole list of rows, in a region that draws; l01Own2 hands back a list that is not nil.
  Drawing: spec.l12Pair and spec.l13Draw.
  Drawing: spec.DrawCommutatorSubgroup (printed by gen_drawfn.py).
  impl.conjugates, impl.conjugateSubgroup.
  Plain: the greatest normal subgroup within a subgroup.
  Plain: the smallest subgroup above one that is closed under the conjugation by given elements.
  The library's sort at [][]int64, laid from the shelf.
  The reference's test of a sequence: spec.l10Element, l10Elements, l01Same2, l12Is, IsSubgroup, l13Two.
  impl.productSize: the size of a product set.
  The subgroup of a list.
  ProductSize, SubgroupMeet, DoubleCosetSize on both sides.
  Plain: the commutator subgroup of two lists.
  spec.l13Stable, l13Normal.
  slices.Grow at rows, laid from the shelf.
  slices.Concat at rows: the rows of all lists, in order.
  spec.l13Comm.
  Plain: the closure of a list under the conjugation by another one, as the program makes it: pass by pass over a table.
  impl.closure: the smallest subgroup above a list that is closed under the conjugation by another list.
  DoubleCosetSize on both sides.
  What the program's public subgroup functions answer on subgroups (printed by gen_auxw.py).
  impl.commutatorSubgroup.
  CommutatorSubgroup on both sides (printed by gen_cmt.py).
  The laws' comparisons: laws.eqInt64SS, eqInt64SSS, eqPresentation.
  laws.likeInts, like29, like39: whether two lists are alike (printed by gen_like.py).
  impl.areElements.
  impl.Multiply, Inverse, Commutator on elements (printed by gen_elw.py).
  laws.FnCommutatorSubgroups answers true (printed by gen_lcm.py).
-/
import Derived.Test.YtdcobapnlpeaaaaGreatK10
import Derived.Test.YtdcobapnlpeaaaaGreatK1
import Derived.Test.YtdcobapnlpeaaaaGreatK2
import Derived.Test.YtdcobapnlpeaaaaGreatK3
import Derived.Test.YtdcobapnlpeaaaaGreatK4
import Derived.Test.YtdcobapnlpeaaaaGreatK5
import Derived.Test.YtdcobapnlpeaaaaGreatK6
import Derived.Test.YtdcobapnlpeaaaaGreatK7
import Derived.Test.YtdcobapnlpeaaaaGreatK8
import Derived.Test.YtdcobapnlpeaaaaGreatK9
import Derived.Laws.BitsAllLaws
import Derived.Sort.OwnSortedInts
import Derived.BigRegion
import Derived.Shelf.SlSortCmp.NoneTotal
import Derived.Shelf.Spec.SlicesGrow
import Derived.Deep.RegionHeld3
namespace Go.Proofs.YtdcobapnlpeaaaaGreat
open Go.RowKit
theorem rMul_vec {P : Pr} (hP : Valid P) (A B : List Int) (hA : Vec P.orders A) (hB : Vec P.orders B) : Vec P.orders (rMul P A B) := rAt_vec hP _ 0 A B (by omega) hA hB
set_option maxHeartbeats 2000000 in
theorem l10Conj_ok (P : Pr) (hP : Valid P) (w : World) (pv a b : Value) (A B : List Int) (Sp Sa Sb : Nat → Prop) (hp : PresV Sp w pv P) (ha : Ints Sa w a A) (hb : Ints Sb w b B) (hA : Vec P.orders A) (hB : Vec P.orders B) :
  Calls Tryz.prog 150 #[pv, a, b] w (Ret w fun w' v => Own w.heap.size w' v (rConj P A B)) := by
 obtain ⟨vo, vp, vc, rfl, h3⟩ := hp
 have hn6 := hP.n6
 have hl1 := (rInv_vec hP B hB).1
 have hl2 := (rMul_vec hP A B hA hB).1
 have HL1 := Lib.hid hl1; have HL2 := Lib.hid hl2; clear hl1 hl2
 have hg0 : Ext w (w.alloc (.cells #[vo, vp, vc] 28)) := World.grownBy_alloc _ _ _
 have hBx := PresP.box h3 28
 have ha0 := ha.ext hg0
 have hb0 := hb.ext hg0
 have hs0 : (w.alloc (.cells #[vo, vp, vc] 28)).heap.size = w.heap.size + 1 := by simp
 have HS := Lib.hid hs0; clear hs0 ha hb
 go_enter Tryz.func150, Tryz.ntmps150
 go_wp2
 generalize hw0 : w.alloc (.cells #[vo, vp, vc] 28) = w0 at *
 clear hw0
 obtain ⟨vo6, vp6, vc6, _, _, hc0, hc1, hc2, h36⟩ := hBx.at
 have e1 : ∀ w', Ext w0 w' → w'.cell? ⟨w.heap.size, 0, none⟩ = some vo6 := fun w' h => h.cell hc0 (by simp)
 have e2 : ∀ w', Ext w0 w' → w'.cell? ⟨w.heap.size, 1, none⟩ = some vp6 := fun w' h => h.cell (by simpa using hc1) (by simp)
 have e3 : ∀ w', Ext w0 w' → w'.cell? ⟨w.heap.size, 2, none⟩ = some vc6 := fun w' h => h.cell (by simpa using hc2) (by simp)
 clear hc0 hc1 hc2
 go_region_held3 (fun w' => Ext w0 w') (first | exact grown_drew _ _ | assumption)
  (first
   | (go_at_call 211; refine Calls.mono (Calls.rel (w0 := w0) (by assumption) (l10Inv_ok P hP _ _ _ _ Any Any ⟨_, _, _, rfl, Pres3.ext h36 (by assumption)⟩ (Ints.sub (Ints.ext hb0 (by assumption)) (fun _ _ _ => trivial)) hB)) ?_; rintro eA wA ⟨vA, rfl, hgA, hsA, hOA⟩)
   | (go_at_call_of 240 (a); refine Calls.mono (Calls.rel2 (w0 := w0) (by assumption) (l08Mul_ok P hP _ _ _ _ _ _ Any Sa Sb ⟨_, _, _, rfl, Pres3.ext h36 (by assumption)⟩ (Ints.ext ha0 (by assumption)) (Ints.ext hb0 (by assumption)) hA hB)) ?_; rintro eF wF ⟨vF, rfl, hgF, hgF2, hsF, hOF⟩; have hOA2 := (hOA.ext0 hgF2).ints (by rw [HL1.out]; omega); have hOF2 := hOF.ints (by rw [HL2.out]; omega))
   | (go_at_call 240; refine Calls.mono (Calls.rel (w0 := w0) (by assumption) (l08Mul_ok P hP _ _ _ _ _ _ Any Any Any ⟨_, _, _, rfl, Pres3.ext h36 (by assumption)⟩ hOA2 hOF2 (rInv_vec hP B hB) (rMul_vec hP A B hA hB))) ?_; rintro eB wB ⟨vB, rfl, hgB, hsB, hOB⟩))
 clear e1 e2 e3
 go_wp2
 go_ret
 exact ⟨_, rfl, grown_trans hg0 hgB, hOB.weak (by have := HS.out; omega)⟩
end Go.Proofs.YtdcobapnlpeaaaaGreat
namespace Go.Proofs.YtdcobapnlpeaaaaGreat
section
variable {P : Pr} (G : Grp P)
include G
theorem Grp.rep_ex {H : List Int → Prop} {b : Nat → List Int} (I : Ind P H b) {x : List Int} (hx : Vec P.orders x) : ∃ y, Rep P H b x y := by
 obtain ⟨y, h, h1, h2, h3, h4, h5⟩ := G.rep_from I P.orders.length 0 x (by omega) hx
 refine ⟨y, h4, ?_, fun e he hb => h5 e (by omega) he hb⟩
 rw [h3, ← G.ass (G.invV hx) hx h2.1, G.inv_mul hx, G.grp.el _ h2.1]; exact h1
end
/-! ### a sequence as a list -/
def depsOf (n : Nat) (r : Nat → List Int) : List Nat := (List.range n).filter (fun d => decide (r d ≠ []))
theorem seqOf_map (n : Nat) (r : Nat → List Int) : seqOf n r = (depsOf n r).map r := by
 unfold seqOf depsOf
 induction n with
 | zero => rfl
 | succ n ih =>
  rw [List.range_succ, List.filterMap_append, List.filter_append, List.map_append, ih]
  by_cases h : r n = [] <;> simp [h]
theorem depsOf_mem {n : Nat} {r : Nat → List Int} {d : Nat} : d ∈ depsOf n r ↔ d < n ∧ r d ≠ [] := by unfold depsOf; simp
end Go.Proofs.YtdcobapnlpeaaaaGreat
namespace Go.Proofs.YtdcobapnlpeaaaaGreat
section
variable {P : Pr} (G : Grp P)
include G
theorem Grp.ind_same {H H' : List Int → Prop} {b : Nat → List Int} (I : Ind P H b) (I' : Ind P H' b) (hle : ∀ x, H x → H' x) (x : List Int) (hx : H' x) : H x := by
 have hxV := I'.sub.vec x hx
 have hxi := G.invV hxV
 obtain ⟨y, hy⟩ := G.rep_ex I hxV
 obtain ⟨hyV, h1, h2⟩ := hy
 have e1 : rMul P x (rMul P (rInv P x) y) = y := by rw [← G.ass hxV hxi hyV, G.mul_inv hxV, G.grp.el _ hyV]
 have hyH : H' y := by rw [← e1]; exact I'.sub.mul _ _ hx (hle _ h1)
 by_cases h0 : y = zeros P.orders.length
 ·rw [h0, G.grp.er _ hxi] at h1
  have := I.sub.inv _ h1
  rwa [G.inv_inv hxV] at this
 ·obtain ⟨d, hd, hT, hyd⟩ := depth_ex hyV h0
  exact absurd (h2 d hd (I'.piv y hyH d hd hT hyd)) hyd
end
end Go.Proofs.YtdcobapnlpeaaaaGreat
namespace Go.Proofs.YtdcobapnlpeaaaaGreat
open Go.RowKit
theorem step_app_rows {ops : Array Oper} {o : Oper} {a : Act} {K : Act → World → Prop} {Q : Exit → Act → World → Prop} {Ex : Prop} {w : World} (hgd : o.guard = none) (s x : Operand)
  (ho : o.op = Op.call { callee := Callee.builtin Builtin.append, args := #[s, x], argTypes := #[25, 25] }) (B g cap : Nat) (xs ys : List (List Int)) (hs : a.eval s = .slice (some ⟨g, 0, none⟩) xs.length cap)
  (hown : RowsO B w (.slice (some ⟨g, 0, none⟩) xs.length cap) xs) (v : Value) (S : Nat → Prop) (hv : Rows2 S w v ys) (hS : ∀ k, S k → k < w.heap.size → k < B) (hx : a.eval x = v) (hlen : xs.length + ys.length ≤ 1000000) (hbase : B ≤ w.heap.size)
  (h : ∀ v' w', Rows2 Any w' v' (xs ++ ys) → w.grownBy w' (some g) → K (a.put o.dst v') w') :
  if Region.wanted o (yielded ops a.tmps) = true then Oper.wp Tryz.prog o a w K Q else Ex := by
 obtain ⟨sa, c, rfl, _, _⟩ := Sl.shape hv
 obtain ⟨vs2, hvl2, hvs2⟩ := Sl.vals hv
 have hnil : sa = none → c = 0 := by
  obtain ⟨a', cap', he, hl', _⟩ := hv
  cases he; exact hl'.2.2
 obtain ⟨vs, G, hvl, hO, hG, _, hE⟩ := hown
 have hgB := (hO.lt g rfl).1
 rw [← hvl] at hs hO
 refine step_app_many 25 24 (.slice none 0 0) 24 und_rows Tryz.infoRow rfl (by decide) hgd s x ho B g cap vs hs hO sa ys.length c vs2 hx hvl2 hnil (fun j hj => ?_) (fun u hu => ?_) (by omega) hbase (fun v' w' k1 k2 => ?_)
 ·obtain ⟨⟨b, off, h1, h2⟩, _⟩ := hvs2 j hj
  exact ⟨b, off, h1, h2⟩
 ·obtain ⟨j, hj, rfl⟩ := List.getElem_of_mem hu
  rw [← gt_eq vs2 j hj]
  exact rdInts.one (hvs2 j (by omega)).2
 ·refine h v' w' ?_ k2
  have hrow : ∀ i, i < (xs ++ ys).length → Ints Any w' (gt (vs ++ vs2) i) (gt (xs ++ ys) i) := fun i hi => by
   by_cases hlt : i < xs.length
   ·rw [gt_append_left _ _ _ (by omega), gt_append_left _ _ _ hlt]
    exact Ints.mono (hE i hlt).ints (fun k hk hkl => ⟨trivial, Nat.lt_of_lt_of_le hkl k2.size, k2.block k hkl (fun e => (hG i k hlt hk).2.1 (by cases e; rfl))⟩)
   ·have hi2 : i - xs.length < ys.length := by simp only [List.length_append] at hi; omega
    have e1 : gt (vs ++ vs2) i = gt vs2 (i - xs.length) := by
     rw [← hvl]
     simp only [gt, List.getD_eq_getElem?_getD]
     rw [List.getElem?_append_right (by omega)]
    have e2 : gt (xs ++ ys) i = gt ys (i - xs.length) := by
     simp only [gt, List.getD_eq_getElem?_getD]
     rw [List.getElem?_append_right (by omega)]
    rw [e1, e2]
    exact Ints.mono (hvs2 _ hi2).2 (fun k hk hkl => ⟨trivial, Nat.lt_of_lt_of_le hkl k2.size, k2.block k hkl (fun e => by cases e; have := hS g hk hkl; omega)⟩)
  have hll : (vs ++ vs2).length = (xs ++ ys).length := by simp [hvl, hvl2]
  rcases k1.form with ⟨rfl, h0⟩ | ⟨g', cp, rfl, hcp, _, hgs⟩
  ·have h9 : xs ++ ys = [] := List.eq_nil_of_length_eq_zero (by rw [← hll, h0]; rfl)
   rw [h9]
   exact ⟨none, 0, rfl, ⟨by simp, by simp, fun _ => rfl⟩, fun i hi => by simp at hi⟩
  ·refine ⟨_, cp, by rw [hll], ⟨by rw [← hll]; exact hcp, by rw [List.length_append]; omega, fun h => by cases h⟩, fun i hi => ⟨g', 0, gt (vs ++ vs2) i, rfl, trivial, hgs, ?_, hrow i hi⟩⟩
   rw [Nat.zero_add]; exact k1.cell i (by rw [hll]; exact hi)
end Go.Proofs.YtdcobapnlpeaaaaGreat
namespace Go.Proofs.YtdcobapnlpeaaaaGreat
open Go.RowKit
attribute [local go_sem ↓] Go.wp_at_zero Go.wp_at_succ
def TripA (M B : Nat) (w' : World) (v : Value) : Prop := ∃ vo vp vc rv sv P, v = .tuple #[.agg #[vo, vp, vc], rv, sv] ∧ P.orders.length ≤ M ∧ Pres3 (From B) w' vo vp vc P ∧ RowsDr B w' rv ∧ RowsDr B w' sv
theorem trip_ret {w wX : World} {sb B0 M B : Nat} {x y z rv sv : Value} {Q : Pr} (hgw : w.grownBy wX (some sb)) (hB : w.heap.size < B) (hsrc : Src B0 wX sb) (hB0 : B0 ≤ w.heap.size) (hM : Q.orders.length ≤ M) (hP : Pres3 (From B) wX x y z Q) (hr : RowsDr B wX rv) (hr2 : RowsDr B wX sv) :
  Mut w (some sb) (DrawR B0 sb (TripA M w.heap.size)) (.returned (.tuple #[.agg #[x, y, z], rv, sv])) (((wX.setCell ⟨w.heap.size, 0, none⟩ x).setCell ⟨w.heap.size, 1, none⟩ y).setCell ⟨w.heap.size, 2, none⟩ z) := by
 have hT := grown_set3 wX w.heap.size x y z
 exact ⟨_, rfl, grown_own hgw hT (fun j hj hlt => by cases hj; omega), ⟨x, y, z, rv, sv, Q, rfl, hM, (hP.keptB hT (fun k hk => by cases hk; omega)).low (by omega), (hr.kept hT (fun k hk => by cases hk; omega)).low (by omega), (hr2.kept hT (fun k hk => by cases hk; omega)).low (by omega)⟩, hsrc.own hT (fun k hk => by cases hk; exact hB0)⟩
set_option maxRecDepth 100000 in
set_option maxHeartbeats 8000000 in
theorem l13Draw_ok (B0 : Nat) (w : World) (sb : Nat) (hB0 : B0 ≤ w.heap.size) (hs : Src B0 w sb) :
  Calls Tryz.prog 128 #[.pointer (some ⟨sb, 0, none⟩)] w (Mut w (some sb) (DrawR B0 sb (TripA 7 w.heap.size))) := by
 have hsb := hs.lt
 have hbB := Box3.made w 28 (.slice none 0 0) (.slice none 0 0) (.slice none 0 0)
 have hg0 : Ext w (w.alloc (.cells #[.slice none 0 0, .slice none 0 0, .slice none 0 0] 28)) := World.grownBy_alloc _ _ _
 have hs0 : (w.alloc (.cells #[.slice none 0 0, .slice none 0 0, .slice none 0 0] 28)).heap.size = w.heap.size + 1 := by simp
 have hsW := Lib.hid (hs.ext hg0); clear hs
 go_enter Tryz.func128, Tryz.ntmps128
 go_wp2_with fail
 generalize w.alloc (.cells #[.slice none 0 0, .slice none 0 0, .slice none 0 0] 28) = w0 at *
 have hs00 : w.heap.size + 1 ≤ w0.heap.size := by omega
 clear hs0
 refine Calls.mono (l12Pair_ok B0 w0 sb 108 (by omega) hsW.out) ?_
 rintro e1 w1 ⟨v1, rfl, hg1, ⟨vo, vp, vc, rv, Q, rfl, hQl, hQ, hR1⟩, hs1⟩
 obtain ⟨a1, n1, c1, hy1⟩ : ∃ a n c, vo = .slice a n c := by obtain ⟨a, c, e, _⟩ := hQ.o.shape; exact ⟨_, _, _, e⟩
 obtain ⟨a2, n2, c2, hy2⟩ : ∃ a n c, vp = .slice a n c := by obtain ⟨a, c, e, _⟩ := Sl.shape hQ.p; exact ⟨_, _, _, e⟩
 obtain ⟨a3, n3, c3, hy3⟩ : ∃ a n c, vc = .slice a n c := by obtain ⟨a, c, e, _⟩ := Sl.shape hQ.c; exact ⟨_, _, _, e⟩
 obtain ⟨ra, rn, rc, rfl⟩ := hR1.shape
 subst hy1 hy2 hy3
 have hgq : Ext w1 (w1.alloc (.cells #[.slice a1 n1 c1, .slice a2 n2 c2, .slice a3 n3 c3] 28)) := World.grownBy_alloc _ _ _
 have hbQ := Box3.made w1 28 (.slice a1 n1 c1) (.slice a2 n2 c2) (.slice a3 n3 c3)
 obtain ⟨pb, hpb⟩ : ∃ pb, pb = w1.heap.size := ⟨_, rfl⟩
 rw [← hpb] at hbQ
 have hs1' := hg1.size
 have hQ2 := hQ.ext hgq
 have hR2 := hR1.kept hgq (fun k hk => by cases hk)
 have hb1 := hbB.moved hg1 (by omega)
 have hb2 := hb1.ext hgq
 have hs2 := hs1.ext hgq
 have hgw2 := grown_trans (grown_of_ext (some sb) hg0) (grown_trans hg1 (grown_of_ext (some sb) hgq))
 have hzq : w1.heap.size ≤ (w1.alloc (.cells #[.slice a1 n1 c1, .slice a2 n2 c2, .slice a3 n3 c3] 28)).heap.size := hgq.size
 have HP := Lib.hid hpb
 have HQ := Lib.hid (And.intro hQ2 (And.intro hs2 (And.intro hgw2 (And.intro hQl hR2)))); clear hQ hQ2 hs2 hs1 hg1 hbB hg0 hsW hb1 hgq hgw2 hQl hR1 hR2
 go_wp2_with fail
 rw [← HP.out]
 generalize w1.alloc (.cells #[.slice a1 n1 c1, .slice a2 n2 c2, .slice a3 n3 c3] 28) = w2 at *
 have hpw : w0.heap.size ≤ pb := by omega
 clear hpb HP
 obtain ⟨q0, q1, q2, q3, q4⟩ := id hbQ
 have e0 : ∀ w', NearS w2 sb w.heap.size w' → w'.cell? ⟨pb, 0, none⟩ = some (.slice a1 n1 c1) := fun w' h => h.cell q1 (by simp; omega) (by simp; omega)
 have e1 : ∀ w', NearS w2 sb w.heap.size w' → w'.cell? ⟨pb, 1, none⟩ = some (.slice a2 n2 c2) := fun w' h => h.cell q2 (by simp; omega) (by simp; omega)
 have e2 : ∀ w', NearS w2 sb w.heap.size w' → w'.cell? ⟨pb, 2, none⟩ = some (.slice a3 n3 c3) := fun w' h => h.cell q3 (by simp; omega) (by simp; omega)
 clear q0 q1 q2 q3 q4 hbQ
 go_region_held3 (fun w' => NearS w2 sb w.heap.size w') (first | exact NearS.ext (grown_drew _ _) | exact NearS.of (by assumption) | exact NearS.two hg3 (grown_set3 _ _ _ _ _) | assumption)
  (first
   | (go_at_call 138; refine Calls.mono (l12Draw_ok B0 w2.drew sb _ Q _ (by have := (grown_drew w2 none).size; omega) (HQ.out.2.1.ext (grown_drew _ _)) ⟨_, _, _, rfl, HQ.out.1.ext (grown_drew _ _)⟩ (fun k hk e => by have hk : w0.heap.size ≤ k := hk; omega) (by have := HQ.out.2.2.2.1; omega)) ?_; rintro e3 w3 ⟨sv, rfl, hg3a, hR, hs3⟩; have hg3 : w2.grownBy w3 (some sb) := grown_trans (grown_of_ext (some sb) (grown_drew _ _)) hg3a; obtain ⟨sa, sn, sc, rfl⟩ := hR.shape; have hb3 := hb2.moved hg3 (by omega); obtain ⟨b0, b1, b2, b3, b4⟩ := id hb3))
 have hdz := (grown_drew w2 none).size
 have hZ := hb3.all (.slice a1 n1 c1) (.slice a2 n2 c2) (.slice a3 n3 c3)
 obtain ⟨-, z0, z1, z2, -⟩ := id hZ
 have hP3 := HQ.out.1.keptB hg3 (fun k hk => by have := Option.some.inj hk; omega)
 have hR3 := HQ.out.2.2.2.2.kept hg3 (fun k hk => by have := Option.some.inj hk; omega)
 have HF := Lib.hid (And.intro (grown_trans HQ.out.2.2.1 hg3) (And.intro hR (And.intro hs3 (And.intro hP3 (And.intro HQ.out.2.2.2.1 hR3))))); clear hR hs3 hP3 HQ hg3 hg3a hb2 hb3 hZ hR3 e0 e1 e2
 go_wp2_with fail
 refine bodyPost_ret (v := .tuple #[.agg #[.slice a1 n1 c1, .slice a2 n2 c2, .slice a3 n3 c3], .slice ra rn rc, .slice sa sn sc]) (by simp [results, Tryz.results128, go_sem, z0, z1, z2]) rfl ?_
 exact trip_ret HF.out.1 (B := w0.heap.size) (by omega) HF.out.2.2.1 hB0 HF.out.2.2.2.2.1 HF.out.2.2.2.1 HF.out.2.2.2.2.2 (HF.out.2.1.low (by omega))
end Go.Proofs.YtdcobapnlpeaaaaGreat
namespace Go.Proofs.YtdcobapnlpeaaaaGreat
open Go.RowKit
attribute [local go_sem ↓] Go.wp_at_zero Go.wp_at_succ
set_option maxRecDepth 100000 in
set_option maxHeartbeats 400000 in
theorem DrawCommutatorSubgroup_ok (w : World) (cv : Value) (bs : List Int) (S : Nat → Prop) (hb : Bytes S w cv bs) :
  Calls Tryz.prog 32 #[cv] w (Ret w (TripA 7 w.heap.size)) := by
 obtain ⟨a, cap, rfl, _, _⟩ := Sl.shape hb
 have hbB := Box3.made w 28 (.slice none 0 0) (.slice none 0 0) (.slice none 0 0)
 have hg0 : Ext w (w.alloc (.cells #[.slice none 0 0, .slice none 0 0, .slice none 0 0] 28)) := World.grownBy_alloc _ _ _
 have hs0 : (w.alloc (.cells #[.slice none 0 0, .slice none 0 0, .slice none 0 0] 28)).heap.size = w.heap.size + 1 := by simp
 have hb0 := Bytes.ext hb hg0
 go_enter Tryz.func32, Tryz.ntmps32
 go_wp2_with fail
 generalize w.alloc (.cells #[.slice none 0 0, .slice none 0 0, .slice none 0 0] 28) = w0 at *
 have hs00 : w.heap.size + 1 ≤ w0.heap.size := by omega
 clear hs0
 refine Calls.mono (l01From_ok w0 _ bs S hb0) ?_
 rintro e1 w1 ⟨v1, rfl, hg1, rfl, hs1⟩
 have hz1 : w0.heap.size + 1 ≤ w1.heap.size := by have := hs1.lt; omega
 have hb1 := hbB.ext hg1
 clear hbB hb0
 go_wp2_with fail
 refine Calls.mono (l13Draw_ok (w0.heap.size + 1) w1 w0.heap.size (by omega) hs1) ?_
 rintro e2 w2 ⟨v2, rfl, hg2, ⟨vo, vp, vc, rv, sv, Q, rfl, hQl, hQ, hR1, hR2⟩, hs2⟩
 obtain ⟨a1, n1, c1, hy1⟩ : ∃ a n c, vo = .slice a n c := by obtain ⟨a, c, e, _⟩ := hQ.o.shape; exact ⟨_, _, _, e⟩
 obtain ⟨a2, n2, c2, hy2⟩ : ∃ a n c, vp = .slice a n c := by obtain ⟨a, c, e, _⟩ := Sl.shape hQ.p; exact ⟨_, _, _, e⟩
 obtain ⟨a3, n3, c3, hy3⟩ : ∃ a n c, vc = .slice a n c := by obtain ⟨a, c, e, _⟩ := Sl.shape hQ.c; exact ⟨_, _, _, e⟩
 obtain ⟨ra, rn, rc, rfl⟩ := hR1.shape
 obtain ⟨sa, sn, sc, rfl⟩ := hR2.shape
 subst hy1 hy2 hy3
 have hgw2 : Ext w w2 := grown_own (grown_trans hg0 hg1) hg2 (fun j hj hlt => by have := Option.some.inj hj; omega)
 have hb2 := hb1.moved hg2 (by omega)
 obtain ⟨b0, b1, b2, b3, b4⟩ := id hb2
 have hT := grown_set3 w2 w.heap.size (.slice a1 n1 c1) (.slice a2 n2 c2) (.slice a3 n3 c3)
 have hA := World.grownBy_alloc (((w2.setCell ⟨w.heap.size, 0, none⟩ (.slice a1 n1 c1)).setCell ⟨w.heap.size, 1, none⟩ (.slice a2 n2 c2)).setCell ⟨w.heap.size, 2, none⟩ (.slice a3 n3 c3)) (.cells #[.slice a1 n1 c1, .slice a2 n2 c2, .slice a3 n3 c3] 28) none
 have hZ := (hb2.all (.slice a1 n1 c1) (.slice a2 n2 c2) (.slice a3 n3 c3)).ext hA
 obtain ⟨-, z0, z1, z2, -⟩ := id hZ
 have hin : ∀ k, some w.heap.size = some k → k < w1.heap.size := fun k hk => by have := Option.some.inj hk; omega
 have hend : Ret w (TripA 7 w.heap.size) (.returned (.tuple #[.agg #[.slice a1 n1 c1, .slice a2 n2 c2, .slice a3 n3 c3], .slice ra rn rc, .slice sa sn sc])) ((((w2.setCell ⟨w.heap.size, 0, none⟩ (.slice a1 n1 c1)).setCell ⟨w.heap.size, 1, none⟩ (.slice a2 n2 c2)).setCell ⟨w.heap.size, 2, none⟩ (.slice a3 n3 c3)).alloc (.cells #[.slice a1 n1 c1, .slice a2 n2 c2, .slice a3 n3 c3] 28)) :=
  ⟨_, rfl, grown_trans (grown_own hgw2 hT (fun j hj hlt => by have := Option.some.inj hj; omega)) hA, _, _, _, _, _, Q, rfl, hQl, ((hQ.keptB hT hin).ext hA).low (by omega), ((hR1.kept hT hin).kept hA (fun k hk => by cases hk)).low (by omega), ((hR2.kept hT hin).kept hA (fun k hk => by cases hk)).low (by omega)⟩
 have HE := Lib.hid hend; clear hend hT hA hZ hb2 hb1 hQ hR1 hR2 hgw2 hg1 hg2 hg0 hs1 hs2 hin
 go_wp2_with fail
 refine bodyPost_ret (v := .tuple #[.agg #[.slice a1 n1 c1, .slice a2 n2 c2, .slice a3 n3 c3], .slice ra rn rc, .slice sa sn sc]) (by simp [results, Tryz.results32, go_sem, z0, z1, z2]) rfl ?_
 exact HE.out
end Go.Proofs.YtdcobapnlpeaaaaGreat
namespace Go.Proofs.YtdcobapnlpeaaaaGreat
open Go.RowKit
def conjL (P : Pr) (L : List (List Int)) (X : List Int) : List (List Int) := L.map (fun y => rConj P y X)
set_option maxHeartbeats 1000000 in
theorem conjugates_ok (P : Pr) (G : Grp P) (w : World) (p lv xv : Value) (L : List (List Int)) (X : List Int) (Sp Sr Sx : Nat → Prop) (hp : PresP Sp w p P) (hl : Rows2 Sr w lv L) (hL : ∀ y ∈ L, Vec P.orders y) (hlen : L.length ≤ 10000) (hx : Ints Sx w xv X) (hX : Vec P.orders X) :
  Calls Tryz.prog 230 #[p, lv, xv] w (Ret w fun w' v => RowsO w.heap.size w' v (conjL P L X)) := by
 have hP := G.v
 have hn6 := hP.n6
 obtain ⟨pb, po, rfl⟩ := hp.shape
 obtain ⟨al, capl, rfl, _, _⟩ := Sl.shape hl
 obtain ⟨ax, capx, rfl, _, _⟩ := hx.shape
 have HL := Lib.hid (And.intro hL hX); clear hL hX
 have hcl : (conjL P L X).length = L.length := by unfold conjL; rw [List.length_map]
 have HCL := Lib.hid hcl; clear hcl
 go_enter Tryz.func230, Tryz.ntmps230
 go_wp2
 go_loopw [7, 12] (fun ov iv wr => ∃ (k : Nat) (v4 : Value), v4 = ov ∧ iv = .int .i64 k ∧ k ≤ L.length ∧ Ext w wr ∧ RowsO w.heap.size wr v4 ((conjL P L X).take k)) (fun _ iv _ => L.length - (intOf iv).toNat)
 case atStart => exact ⟨0, _, rfl, rfl, by omega, Ext.refl _, SlO.nil _ _ _ _⟩
 case round =>
  obtain ⟨k, v4, rfl, rfl, hk, hg, hO⟩ := hrel
  by_cases hlt : k < L.length
  ·have hlt' : (k : Int) < L.length := by omega
   obtain ⟨b, off, a2, cap2, rfl, _, _, hc, hi⟩ := Rows2.at (Rows2.ext hl hg) k hlt
   have hyV := HL.out.1 _ (gtMem hlt)
   have hstep : (conjL P L X).take (k + 1) = (conjL P L X).take k ++ [rConj P (gt L k) X] := by
    rw [take_succ_gt _ k (by rw [HCL.out]; exact hlt)]
    unfold conjL
    rw [gt_map _ _ _ hlt]
   have htl : ((conjL P L X).take k).length ≤ 1000000 := by rw [List.length_take]; have := HCL.out; omega
   have HS := Lib.hid (And.intro hstep hyV); clear hstep hyV
   go_wp2_with fail
   refine Calls.mono (conjugate_ok P hP wr _ _ _ (gt L k) X Sp Sr Sx (hp.ext hg) hi (hx.ext hg) HS.out.2 HL.out.2) ?_
   rintro eC wC ⟨vC, rfl, hgC, hOC⟩
   rw [G.iConj_eq HS.out.2 HL.out.2] at hOC
   have hcV := G.conjV HS.out.2 HL.out.2
   have hYO : OwnIn (From wr.heap.size) wC vC (rConj P (gt L k) X) := OwnIn.of hOC (by rw [hcV.1]; omega) (fun j h1 _ => h1)
   obtain ⟨ay, capy, hvy, _, _⟩ := hYO.ints.shape
   subst hvy
   clear hc hcV
   go_wp2_with (first | (at_builtin; refine wp_app_row rfl _ _ rfl w.heap.size wr wC v4 _ ((conjL P L X).take k) (rConj P (gt L k) X) rfl hO hgC hYO rfl rfl htl hg.size ?_; intro v5 w5 hO5 hg5 hg6; have hgw5 := hO.extw hg (Nat.le_refl _) hg5) | fail)
   go_roundw
   case rel => exact ⟨k + 1, v5, rfl, by go_num, by omega, hgw5, by rw [HS.out.1]; exact hO5⟩
   case measure => simp [intOf]; omega
  ·have hke : k = L.length := by omega
   subst hke
   rw [List.take_of_length_le (by rw [HCL.out]; exact Nat.le_refl _)] at hO
   obtain ⟨az, capz, hvz, _, _⟩ := SlD.shape (hO.toD (by rw [HCL.out]; omega))
   subst hvz
   go_wp2
   go_ret
   exact ⟨_, rfl, hg, hO⟩
set_option maxHeartbeats 400000 in
theorem conjugateSubgroup_ok (P : Pr) (G : Grp P) (w : World) (p lv xv : Value) (L : List (List Int)) (X : List Int) (Sp Sr Sx : Nat → Prop) (hp : PresP Sp w p P) (hl : Rows2 Sr w lv L) (hL : ∀ y ∈ L, Vec P.orders y) (hlen : L.length ≤ 10000) (hx : Ints Sx w xv X) (hX : Vec P.orders X) :
  Calls Tryz.prog 132 #[p, lv, xv] w (Ret w fun w' v => RowsO w.heap.size w' v (cseq P (genP P (fun z => z ∈ conjL P L X)))) := by
 have hcl : (conjL P L X).length = L.length := by unfold conjL; rw [List.length_map]
 have hcon := conjugates_ok P G w p lv xv L X Sp Sr Sx hp hl hL hlen hx hX
 obtain ⟨pb, po, rfl⟩ := hp.shape
 obtain ⟨al, capl, rfl, _, _⟩ := Sl.shape hl
 obtain ⟨ax, capx, rfl, _, _⟩ := hx.shape
 have hCV : ∀ z ∈ conjL P L X, Vec P.orders z := fun z hz => by
  unfold conjL at hz
  obtain ⟨y, hy, rfl⟩ := List.mem_map.1 hz
  exact G.conjV (hL y hy) hX
 have HC := Lib.hid (And.intro hCV hcl); clear hCV hcl
 go_enter Tryz.func132, Tryz.ntmps132
 go_wp2_with fail
 refine Calls.mono hcon ?_
 rintro e1 w1 ⟨v1, rfl, hg1, hO⟩
 clear hcon
 have hR := RowsD.rows (hO.toD (by rw [HC.out.2]; omega))
 obtain ⟨a1, cap1, hv1, _, _⟩ := Sl.shape hR
 subst hv1
 go_wp2_with fail
 refine Calls.mono (generated_ok P G w1 _ _ (conjL P L X) Sp _ (hp.ext hg1) hR HC.out.1 (by rw [HC.out.2]; omega)) ?_
 rintro e2 w2 ⟨v2, rfl, hg2, hO2⟩
 go_wp2
 go_ret
 exact ⟨_, rfl, grown_trans hg1 hg2, hO2.weak hg1.size⟩
end Go.Proofs.YtdcobapnlpeaaaaGreat
namespace Go.Proofs.YtdcobapnlpeaaaaGreat
def cjS (P : Pr) (K : List Int → Prop) (g x : List Int) : Prop := ∃ y, K y ∧ x = rConj P y g
section
variable {P : Pr} (G : Grp P)
include G
theorem Grp.conj_zeros {g : List Int} (hg : Vec P.orders g) : rConj P (zeros P.orders.length) g = zeros P.orders.length := by
 unfold rConj
 rw [G.grp.el _ hg, G.inv_mul hg]
theorem Grp.conj_inv {x g : List Int} (hx : Vec P.orders x) (hg : Vec P.orders g) : rConj P (rInv P x) g = rInv P (rConj P x g) := by
 refine G.inv_of (G.conjV hx hg) (G.conjV (G.invV hx) hg) ?_
 rw [← G.conj_hom hx (G.invV hx) hg, G.mul_inv hx, G.conj_zeros hg]
theorem Grp.pull_sub {H : List Int → Prop} (S : Sub P H) {g : List Int} (hg : Vec P.orders g) : Sub P (fun y => Vec P.orders y ∧ H (rConj P y g)) :=
 ⟨fun _ h => h.1, ⟨G.oneV, by rw [G.conj_zeros hg]; exact S.one⟩, fun x y hx hy => ⟨G.mulV hx.1 hy.1, by rw [G.conj_hom hx.1 hy.1 hg]; exact S.mul _ _ hx.2 hy.2⟩,
  fun x hx => ⟨G.invV hx.1, by rw [G.conj_inv hx.1 hg]; exact S.inv _ hx.2⟩⟩
theorem Grp.cj_sub {K : List Int → Prop} (S : Sub P K) {g : List Int} (hg : Vec P.orders g) : Sub P (cjS P K g) := by
 refine ⟨?_, ⟨_, S.one, (G.conj_zeros hg).symm⟩, ?_, ?_⟩
 ·rintro x ⟨y, hy, rfl⟩; exact G.conjV (S.vec y hy) hg
 ·rintro x x' ⟨y, hy, rfl⟩ ⟨y', hy', rfl⟩
  exact ⟨_, S.mul _ _ hy hy', (G.conj_hom (S.vec y hy) (S.vec y' hy') hg).symm⟩
 ·rintro x ⟨y, hy, rfl⟩
  exact ⟨_, S.inv _ hy, (G.conj_inv (S.vec y hy) hg).symm⟩
theorem Grp.genP_conjL {K : List Int → Prop} (S : Sub P K) {g : List Int} (hg : Vec P.orders g) : genP P (fun z => z ∈ conjL P (cseq P K) g) = cjS P K g := by
 have hf := (G.seq_facts S).2.1
 have hV : ∀ z, z ∈ conjL P (cseq P K) g → Vec P.orders z := fun z hz => by
  unfold conjL at hz
  obtain ⟨y, hy, rfl⟩ := List.mem_map.1 hz
  exact G.conjV (S.vec y (hf y hy)) hg
 have S2 := G.genP_sub (Q := fun z => z ∈ conjL P (cseq P K) g) hV
 refine funext fun x => propext ⟨fun h => h _ (G.cj_sub S hg) (fun z hz => ?_), ?_⟩
 ·unfold conjL at hz
  obtain ⟨y, hy, rfl⟩ := List.mem_map.1 hz
  exact ⟨y, hf y hy, rfl⟩
 ·rintro ⟨y, hy, rfl⟩
  have h1 : genP P (fun z => z ∈ cseq P K) y := by rw [G.genP_cseq S]; exact hy
  exact (h1 _ (G.pull_sub S2 hg) (fun z hz => ⟨S.vec z (hf z hz), genP_mem (List.mem_map.2 ⟨z, hz, rfl⟩)⟩)).2
theorem Grp.len_le {K' K : List Int → Prop} (S' : Sub P K') (S : Sub P K) (h : ∀ x, K' x → K x) : (cseq P K').length ≤ (cseq P K).length ∧ ((cseq P K').length = (cseq P K).length → ∀ x, K x → K' x) := by
 obtain ⟨r', hR', he'⟩ := G.cseq_spec S'
 obtain ⟨r, hR, he⟩ := G.cseq_spec S
 have hl' : (cseq P K').length = (depsOf P.orders.length r').length := by rw [he', seqOf_map, List.length_map]
 have hl : (cseq P K).length = (depsOf P.orders.length r).length := by rw [he, seqOf_map, List.length_map]
 have himp : ∀ d, d < P.orders.length → r' d ≠ [] → r d ≠ [] := fun d hd hne => by
  obtain ⟨m1, m2, m3⟩ := hR'.mem d hd hne
  exact hR.piv _ (h _ m1) d hd m2 (by rw [m3]; decide)
 have hff : (depsOf P.orders.length r').length = ((depsOf P.orders.length r).filter (fun d => decide (r' d ≠ []))).length := by
  unfold depsOf
  rw [List.filter_filter]
  congr 1
  refine List.filter_congr (fun d hd => ?_)
  have hd := List.mem_range.1 hd
  by_cases h1 : r' d = []
  ·simp [h1]
  ·simp [h1, himp d hd h1]
 rw [hl', hl, hff]
 refine ⟨List.length_filter_le _ _, fun heq x hx => ?_⟩
 have hall := List.length_filter_eq_length_iff.1 heq
 have I' : Ind P K (r') := ⟨S, fun d hd hne => ⟨h _ (hR'.mem d hd hne).1, (hR'.mem d hd hne).2⟩, fun y hy d hd hT h0 => by
  have h1 := hR.piv y hy d hd hT h0
  have h2 := hall d (depsOf_mem.2 ⟨hd, h1⟩)
  exact of_decide_eq_true h2⟩
 exact G.ind_same hR'.toInd I' h x hx
end
end Go.Proofs.YtdcobapnlpeaaaaGreat
namespace Go.Proofs.YtdcobapnlpeaaaaGreat
def stP (P : Pr) (H : List Int → Prop) (B : List (List Int)) (x : List Int) : Prop := ∀ K, Sub P K → (∀ y, H y → K y) → (∀ b ∈ B, ∀ y, K y → K (rConj P y b)) → K x
def allC (P : Pr) (L B : List (List Int)) : Nat → List (List Int)
 | 0 => L
 | j + 1 => allC P L B j ++ conjL P L (gt B j)
theorem conjL_len (P : Pr) (L : List (List Int)) (X : List Int) : (conjL P L X).length = L.length := by unfold conjL; rw [List.length_map]
theorem allC_len (P : Pr) (L B : List (List Int)) (j : Nat) : (allC P L B j).length = L.length * (j + 1) := by
 induction j with
 | zero => simp [allC]
 | succ j ih => rw [allC, List.length_append, ih, conjL_len, Nat.mul_succ L.length (j + 1)]
theorem allC_mem {P : Pr} {L B : List (List Int)} {j : Nat} {x : List Int} : x ∈ allC P L B j ↔ x ∈ L ∨ ∃ k, k < j ∧ x ∈ conjL P L (gt B k) := by
 induction j with
 | zero => simp [allC]
 | succ j ih =>
  rw [allC, List.mem_append, ih]
  constructor
  ·rintro ((h | ⟨k, hk, h⟩) | h)
   ·exact Or.inl h
   ·exact Or.inr ⟨k, by omega, h⟩
   ·exact Or.inr ⟨j, by omega, h⟩
  ·rintro (h | ⟨k, hk, h⟩)
   ·exact Or.inl (Or.inl h)
   ·rcases Nat.lt_succ_iff_lt_or_eq.1 hk with h1 | h1
    ·exact Or.inl (Or.inr ⟨k, h1, h⟩)
    ·exact Or.inr (h1 ▸ h)
def StSt (P : Pr) (H : List Int → Prop) (B : List (List Int)) (K : List Int → Prop) : Prop := Sub P K ∧ (∀ x, H x → K x) ∧ ∀ x, K x → stP P H B x
section
variable {P : Pr} (G : Grp P)
include G
theorem Grp.vecSub : Sub P (Vec P.orders) := ⟨fun _ h => h, G.oneV, fun _ _ a b => G.mulV a b, fun _ a => G.invV a⟩
theorem Grp.stP_sub {H : List Int → Prop} (S : Sub P H) {B : List (List Int)} (hB : ∀ b ∈ B, Vec P.orders b) : Sub P (stP P H B) :=
 ⟨fun _ h => h _ G.vecSub S.vec (fun b hb _ hy => G.conjV hy (hB b hb)), fun _ hK _ _ => hK.one,
  fun _ _ hx hy K hK hH hC => hK.mul _ _ (hx K hK hH hC) (hy K hK hH hC), fun _ hx K hK hH hC => hK.inv _ (hx K hK hH hC)⟩
theorem Grp.allC_vec {K : List Int → Prop} (S : Sub P K) {B : List (List Int)} (hB : ∀ b ∈ B, Vec P.orders b) (j : Nat) (hj : j ≤ B.length) : ∀ x ∈ allC P (cseq P K) B j, Vec P.orders x := by
 have hf := (G.seq_facts S).2.1
 intro x hx
 rcases allC_mem.1 hx with h | ⟨k, hk, h⟩
 ·exact S.vec x (hf x h)
 ·unfold conjL at h
  obtain ⟨y, hy, rfl⟩ := List.mem_map.1 h
  exact G.conjV (S.vec y (hf y hy)) (hB _ (gtMem (by omega)))
omit G in
theorem stP_conj {H : List Int → Prop} {B : List (List Int)} {b x : List Int} (hb : b ∈ B) (h : stP P H B x) : stP P H B (rConj P x b) := fun K hK hH hC => hC b hb _ (h K hK hH hC)
theorem Grp.st_round {H K : List Int → Prop} (S : Sub P H) {B : List (List Int)} (hB : ∀ b ∈ B, Vec P.orders b) (h : StSt P H B K) :
  StSt P H B (genP P (fun z => z ∈ allC P (cseq P K) B B.length)) ∧ (∀ x, K x → genP P (fun z => z ∈ allC P (cseq P K) B B.length) x) ∧
   ∀ b ∈ B, ∀ y, K y → genP P (fun z => z ∈ allC P (cseq P K) B B.length) (rConj P y b) := by
 obtain ⟨s1, s2, s3⟩ := h
 have hf := (G.seq_facts s1).2.1
 have S2 := G.genP_sub (Q := fun z => z ∈ allC P (cseq P K) B B.length) (G.allC_vec s1 hB _ (Nat.le_refl _))
 have hK : ∀ x, K x → genP P (fun z => z ∈ allC P (cseq P K) B B.length) x := fun x hx => by
  have h1 : genP P (fun z => z ∈ cseq P K) x := by rw [G.genP_cseq s1]; exact hx
  exact h1 _ S2 (fun z hz => genP_mem (allC_mem.2 (Or.inl hz)))
 refine ⟨⟨S2, fun x hx => hK x (s2 x hx), fun x hx => hx _ (G.stP_sub S hB) (fun z hz => ?_)⟩, hK, fun b hb y hy => ?_⟩
 ·rcases allC_mem.1 hz with h | ⟨k, hk, h⟩
  ·exact s3 z (hf z h)
  ·unfold conjL at h
   obtain ⟨y, hy, rfl⟩ := List.mem_map.1 h
   exact stP_conj (gtMem hk) (s3 y (hf y hy))
 ·have h1 : genP P (fun z => z ∈ cseq P K) y := by rw [G.genP_cseq s1]; exact hy
  obtain ⟨k, hk, rfl⟩ := mem_gt hb
  exact (h1 _ (G.pull_sub S2 (hB _ hb)) (fun z hz => ⟨s1.vec z (hf z hz), genP_mem (allC_mem.2 (Or.inr ⟨k, hk, List.mem_map.2 ⟨z, hz, rfl⟩⟩))⟩)).2
theorem Grp.st_end {H K : List Int → Prop} (S : Sub P H) {B : List (List Int)} (hB : ∀ b ∈ B, Vec P.orders b) (h : StSt P H B K) :
  (cseq P K).length ≤ (cseq P (genP P (fun z => z ∈ allC P (cseq P K) B B.length))).length ∧
  ((cseq P (genP P (fun z => z ∈ allC P (cseq P K) B B.length))).length = (cseq P K).length → genP P (fun z => z ∈ allC P (cseq P K) B B.length) = stP P H B) := by
 obtain ⟨r1, r2, r3⟩ := G.st_round S hB h
 have hl := G.len_le h.1 r1.1 r2
 refine ⟨hl.1, fun he => ?_⟩
 have hb := hl.2 he.symm
 exact funext fun x => propext ⟨r1.2.2 x, fun hx => hx _ r1.1 r1.2.1 (fun b hbm y hy => r3 b hbm y (hb y hy))⟩
end
end Go.Proofs.YtdcobapnlpeaaaaGreat
namespace Go.Proofs.YtdcobapnlpeaaaaGreat
open Go.Proofs Go.Shelf Go.RowKit Go.Lib Go.Sort
def Tryz.sortRows_ren : Go.Shelf.Ren := ⟨fun | 6 => 247 | 15 => 297 | 14 => 296 | 28 => 332 | 29 => 333 | 20 => 324 | 21 => 325 | 22 => 326 | 23 => 327 | 24 => 328 | 25 => 329 | 26 => 330 | 27 => 331 | 46 => 351 | 47 => 352 | 48 => 353 | 49 => 354 | 50 => 355 | 57 => 367 | n => n, fun | 22 => 25 | 24 => 24 | 25 => 195 | 3 => 3 | 39 => 139 | 0 => 0 | 53 => 266 | 55 => 62 | 4 => 4 | 46 => 260 | 45 => 259 | 50 => 193 | 5 => 5 | 9 => 9 | 66 => 281 | 70 => 285 | 76 => 296 | 77 => 297 | n => n, fun | n => n⟩
theorem Tryz.sortRows : Go.Proofs.SlLaysF.n6 Tryz.prog Tryz.sortRows_ren := {
  mixed := by kernel_rfl
  f6 := ⟨Tryz.f247.name, by decide, Tryz.func247.trans (congrArg some (by kernel_rfl))⟩
  f14 := ⟨Tryz.f296.name, by decide, Tryz.func296.trans (congrArg some (by kernel_rfl))⟩
  f15 := Tryz.func297.trans (congrArg some (by kernel_rfl))
  f20 := ⟨Tryz.f324.name, by decide, Tryz.func324.trans (congrArg some (by kernel_rfl))⟩
  f21 := ⟨Tryz.f325.name, by decide, Tryz.func325.trans (congrArg some (by kernel_rfl))⟩
  f22 := ⟨Tryz.f326.name, by decide, Tryz.func326.trans (congrArg some (by kernel_rfl))⟩
  f23 := ⟨Tryz.f327.name, by decide, Tryz.func327.trans (congrArg some (by kernel_rfl))⟩
  f24 := ⟨Tryz.f328.name, by decide, Tryz.func328.trans (congrArg some (by kernel_rfl))⟩
  f25 := ⟨Tryz.f329.name, by decide, Tryz.func329.trans (congrArg some (by kernel_rfl))⟩
  f26 := ⟨Tryz.f330.name, by decide, Tryz.func330.trans (congrArg some (by kernel_rfl))⟩
  f27 := ⟨Tryz.f331.name, by decide, Tryz.func331.trans (congrArg some (by kernel_rfl))⟩
  f28 := Tryz.func332.trans (congrArg some (by kernel_rfl))
  f29 := Tryz.func333.trans (congrArg some (by kernel_rfl))
  f46 := ⟨Tryz.f351.name, by decide, Tryz.func351.trans (congrArg some (by kernel_rfl))⟩
  f47 := Tryz.func352.trans (congrArg some (by kernel_rfl))
  f48 := Tryz.func353.trans (congrArg some (by kernel_rfl))
  f49 := ⟨Tryz.f354.name, by decide, Tryz.func354.trans (congrArg some (by kernel_rfl))⟩
  f50 := ⟨Tryz.f355.name, by decide, Tryz.func355.trans (congrArg some (by kernel_rfl))⟩
  f57 := ⟨Tryz.f367.name, by decide, Tryz.func367.trans (congrArg some (by kernel_rfl))⟩
  t0 := Tryz.underlying0
  a0 := Tryz.isAgg0
  z0 := Tryz.sizeOf0
  v0 := Tryz.zeroValue0
  t3 := Tryz.underlying3
  a3 := Tryz.isAgg3
  z3 := Tryz.sizeOf3
  v3 := Tryz.zeroValue3
  t4 := Tryz.underlying4
  a4 := Tryz.isAgg4
  z4 := Tryz.sizeOf4
  v4 := Tryz.zeroValue4
  t5 := Tryz.underlying5
  a5 := Tryz.isAgg5
  z5 := Tryz.sizeOf5
  v5 := Tryz.zeroValue5
  t9 := Tryz.underlying9
  a9 := Tryz.isAgg9
  z9 := Tryz.sizeOf9
  v9 := Tryz.zeroValue9
  t22 := Tryz.underlying25
  a22 := Tryz.isAgg25
  z22 := Tryz.sizeOf25
  v22 := Tryz.zeroValue25
  a24 := Tryz.isAgg24
  z24 := Tryz.sizeOf24
  t25 := Tryz.underlying195
  a25 := Tryz.isAgg195
  z25 := Tryz.sizeOf195
  v25 := Tryz.zeroValue195
  t39 := Tryz.underlying139
  a39 := Tryz.isAgg139
  z39 := Tryz.sizeOf139
  v39 := Tryz.zeroValue139
  t45 := Tryz.underlying259
  a45 := Tryz.isAgg259
  z45 := Tryz.sizeOf259
  v45 := Tryz.zeroValue259
  t46 := Tryz.underlying260
  a46 := Tryz.isAgg260
  z46 := Tryz.sizeOf260
  v46 := Tryz.zeroValue260
  t50 := Tryz.underlying193
  a50 := Tryz.isAgg193
  z50 := Tryz.sizeOf193
  v50 := Tryz.zeroValue193
  t53 := Tryz.underlying266
  a53 := Tryz.isAgg266
  z53 := Tryz.sizeOf266
  v53 := Tryz.zeroValue266
  t55 := Tryz.underlying62
  a55 := Tryz.isAgg62
  z55 := Tryz.sizeOf62
  v55 := Tryz.zeroValue62
  t66 := Tryz.underlying281
  a66 := Tryz.isAgg281
  z66 := Tryz.sizeOf281
  v66 := Tryz.zeroValue281
  t70 := Tryz.underlying285
  a70 := Tryz.isAgg285
  z70 := Tryz.sizeOf285
  v70 := Tryz.zeroValue285
  t76 := Tryz.underlying296
  a76 := Tryz.isAgg296
  z76 := Tryz.sizeOf296
  v76 := Tryz.zeroValue296
  t77 := Tryz.underlying297
  a77 := Tryz.isAgg297
  z77 := Tryz.sizeOf297
  v77 := Tryz.zeroValue297 }
end Go.Proofs.YtdcobapnlpeaaaaGreat
namespace Go.Proofs.YtdcobapnlpeaaaaGreat
open Go.RowKit
set_option maxRecDepth 100000 in
set_option maxHeartbeats 2000000 in
theorem l13Two_ok (P : Pr) (w : World) (pv uv vv : Value) (U V : List (List Int)) (Sp Su Sv : Nat → Prop) (hpv : PresV Sp w pv P) (hu : Rows2 Su w uv U) (hv : Rows2 Sv w vv V) :
  Calls Tryz.prog 130 #[pv, uv, vv] w (Ret w fun _ v => ∃ r : Bool, v = .bool r ∧ (r = true ↔ rconsB P = true ∧ SubB P U ∧ SubB P V)) := by
 obtain ⟨vo, vp, vc, rfl, h3⟩ := hpv
 have hp0 := PresP.box h3 28
 have hg0 : Ext w (w.alloc (.cells #[vo, vp, vc] 28)) := World.grownBy_alloc _ _ _
 obtain ⟨vo6, vp6, vc6, _, _, hc0, hc1, hc2, h36⟩ := hp0.at
 simp only [Nat.zero_add] at hc1 hc2
 have hu0 := Rows2.ext hu hg0
 have hv0 := Rows2.ext hv hg0
 obtain ⟨au, capu, rfl, _, _⟩ := Sl.shape hu
 obtain ⟨av, capv, rfl, _, _⟩ := Sl.shape hv
 clear hp0 hu hv
 have hE := sIsSubgroup_ok P (w.alloc (.cells #[vo, vp, vc] 28)) _ _ U Any Su ⟨_, _, _, rfl, h36⟩ hu0
 go_enter Tryz.func130, Tryz.ntmps130
 go_wp2_with fail
 generalize hw0 : w.alloc (.cells #[vo, vp, vc] 28) = w0 at *
 clear hw0
 refine Calls.mono hE ?_
 rintro e1 w1 ⟨v1, rfl, hg1, r1, rfl, hr1⟩
 clear hE
 have hb0 := hg1.cell hc0 (by simp)
 have hb1 := hg1.cell hc1 (by simp)
 have hb2 := hg1.cell hc2 (by simp)
 clear hc0 hc1 hc2
 cases r1 with
 | false =>
  have HR := Lib.hid hr1; clear hr1
  go_wp2
  go_ret
  exact ⟨_, rfl, grown_trans hg0 hg1, false, rfl, by
   simp only [Bool.false_eq_true, false_iff]
   rintro ⟨h, h2, _⟩
   have := HR.out.2 ⟨h, h2⟩; cases this⟩
 | true =>
  obtain ⟨hr, hS⟩ := hr1.1 rfl
  have G := grp_of_r hr
  have HR := Lib.hid (And.intro hr hS); clear hr hS hr1
  go_wp2_with fail
  clear hb0 hb1 hb2
  refine Calls.mono (l12Is_ok P G w1 _ _ V Any Sv ⟨_, _, _, rfl, Pres3.ext h36 hg1⟩ (Rows2.ext hv0 hg1)) ?_
  rintro e2 w2 ⟨v2, rfl, hg2, r2, rfl, hr2⟩
  have HR2 := Lib.hid hr2; clear hr2
  go_wp2
  go_ret
  exact ⟨_, rfl, grown_trans hg0 (grown_trans hg1 hg2), r2, rfl, by rw [HR2.out]; exact ⟨fun h => ⟨HR.out.1, HR.out.2, h⟩, fun h => h.2.2⟩⟩
end Go.Proofs.YtdcobapnlpeaaaaGreat
namespace Go.Proofs.YtdcobapnlpeaaaaGreat
open Go.RowKit
noncomputable def prodSz (P : Pr) (H K : List Int → Prop) : Int :=
 prodU P (cseq P H) (cseq P H).length * prodU P (cseq P K) (cseq P K).length / prodU P (cseq P (fun x => H x ∧ K x)) (cseq P (fun x => H x ∧ K x)).length
end Go.Proofs.YtdcobapnlpeaaaaGreat
namespace Go.Proofs.YtdcobapnlpeaaaaGreat
def twoOk (P : Pr) (U V : List (List Int)) : Prop := rconsB P = true ∧ SubB P U ∧ SubB P V
end Go.Proofs.YtdcobapnlpeaaaaGreat
namespace Go.Proofs.YtdcobapnlpeaaaaGreat
open Go.RowKit
open Classical in
noncomputable def twoC (P : Pr) (U V : List (List Int)) : Int := if twoOk P U V then 0 else 1
open Classical in
noncomputable def pszV (P : Pr) (U V : List (List Int)) : Int := if twoOk P U V then prodSz P (gU P U) (gU P V) else 0
open Classical in
noncomputable def meetL (P : Pr) (U V : List (List Int)) : List (List Int) := if twoOk P U V then cseq P (fun x => gU P U x ∧ gU P V x) else []
theorem two_bad {P : Pr} {U V : List (List Int)} (h : ¬ twoOk P U V) : twoC P U V = 1 ∧ pszV P U V = 0 ∧ meetL P U V = [] := by
 unfold twoC pszV meetL; rw [if_neg h, if_neg h, if_neg h]; exact ⟨rfl, rfl, rfl⟩
theorem two_ok {P : Pr} {U V : List (List Int)} (h : twoOk P U V) : twoC P U V = 0 ∧ pszV P U V = prodSz P (gU P U) (gU P V) ∧ meetL P U V = cseq P (fun x => gU P U x ∧ gU P V x) := by
 unfold twoC pszV meetL; rw [if_pos h, if_pos h, if_pos h]; exact ⟨rfl, rfl, rfl⟩
end Go.Proofs.YtdcobapnlpeaaaaGreat
namespace Go.Proofs.YtdcobapnlpeaaaaGreat
def comL (P : Pr) (U V : List (List Int)) : List (List Int) := U.flatMap (fun x => V.map (fun y => comR P x y))
def cmP (P : Pr) (U V : List (List Int)) : List Int → Prop := stP P (genP P (fun x => x ∈ comL P U V)) (U ++ V)
theorem comL_mem {P : Pr} {U V : List (List Int)} {z : List Int} : z ∈ comL P U V ↔ ∃ x ∈ U, ∃ y ∈ V, z = comR P x y := by
 unfold comL
 rw [List.mem_flatMap]
 constructor
 ·rintro ⟨x, hx, h⟩
  obtain ⟨y, hy, rfl⟩ := List.mem_map.1 h
  exact ⟨x, hx, y, hy, rfl⟩
 ·rintro ⟨x, hx, y, hy, rfl⟩
  exact ⟨x, hx, List.mem_map.2 ⟨y, hy, rfl⟩⟩
theorem comL_len (P : Pr) (U V : List (List Int)) : (comL P U V).length = U.length * V.length := by
 unfold comL
 induction U with
 | nil => simp
 | cons x U ih => rw [List.flatMap_cons, List.length_append, ih, List.length_map, List.length_cons, Nat.succ_mul, Nat.add_comm]
theorem comL_succ (P : Pr) (U V : List (List Int)) (i : Nat) (hi : i < U.length) : comL P (U.take (i + 1)) V = comL P (U.take i) V ++ V.map (fun y => comR P (gt U i) y) := by
 rw [take_succ_gt U i hi]
 unfold comL
 rw [List.flatMap_append]
 simp
section
variable {P : Pr} (G : Grp P)
include G
theorem Grp.comV {x y : List Int} (hx : Vec P.orders x) (hy : Vec P.orders y) : Vec P.orders (comR P x y) :=
 G.mulV (G.invV (G.mulV hy hx)) (G.mulV hx hy)
theorem Grp.comL_vec {U V : List (List Int)} (hU : ∀ x ∈ U, Vec P.orders x) (hV : ∀ x ∈ V, Vec P.orders x) : ∀ z ∈ comL P U V, Vec P.orders z := fun z hz => by
 obtain ⟨x, hx, y, hy, rfl⟩ := comL_mem.1 hz
 exact G.comV (hU x hx) (hV y hy)
omit G in
theorem app_vec {P : Pr} {U V : List (List Int)} (hU : ∀ x ∈ U, Vec P.orders x) (hV : ∀ x ∈ V, Vec P.orders x) : ∀ x ∈ U ++ V, Vec P.orders x := fun x hx => (List.mem_append.1 hx).elim (hU x) (hV x)
theorem Grp.cm_sub {U V : List (List Int)} (hU : ∀ x ∈ U, Vec P.orders x) (hV : ∀ x ∈ V, Vec P.orders x) : Sub P (cmP P U V) :=
 G.stP_sub (G.genP_sub (G.comL_vec hU hV)) (app_vec hU hV)
omit G in
theorem cm_mem {U V : List (List Int)} {x y : List Int} (hx : x ∈ U) (hy : y ∈ V) : cmP P U V (comR P x y) :=
 fun _ _ hH _ => hH _ (genP_mem (comL_mem.2 ⟨x, hx, y, hy, rfl⟩))
theorem Grp.com_inv {x y : List Int} (hx : Vec P.orders x) (hy : Vec P.orders y) : comR P y x = rInv P (comR P x y) := by
 unfold comR
 rw [← G.comm_inv hy hx]
theorem Grp.cm_le {U V : List (List Int)} (hU : ∀ x ∈ U, Vec P.orders x) (hV : ∀ x ∈ V, Vec P.orders x) (z : List Int) (h : cmP P U V z) : cmP P V U z := by
 have S := G.cm_sub hV hU
 refine h _ S (fun y hy => genP_le S (fun y hy => ?_) hy) (fun b hb y hy => stP_conj (List.mem_append.2 (List.mem_append.1 hb).symm) hy)
 obtain ⟨a, ha, b, hb, rfl⟩ := comL_mem.1 hy
 rw [G.com_inv (hV b hb) (hU a ha)]
 exact S.inv _ (cm_mem hb ha)
theorem Grp.cm_comm {U V : List (List Int)} (hU : ∀ x ∈ U, Vec P.orders x) (hV : ∀ x ∈ V, Vec P.orders x) : cmP P U V = cmP P V U :=
 funext fun x => propext ⟨G.cm_le hU hV x, G.cm_le hV hU x⟩
theorem Grp.cj_kept {C : List Int → Prop} (S : Sub P C) {g : List Int} (hg : Vec P.orders g) (h : ∀ x, C x → C (rConj P x g)) : cjS P C g = C := by
 have hi := G.invV hg
 have hpw : ∀ k x, C x → C (rConj P x (pw P g k)) := fun k => by
  induction k with
  | zero => intro x hx; rw [pw_zero, G.conj_one (S.vec x hx)]; exact hx
  | succ k ih =>
   intro x hx
   rw [pw_succ, ← G.conj_mul (S.vec x hx) (G.pw_vec hg k) hg]
   exact h _ (ih x hx)
 refine funext fun x => propext ⟨?_, fun hx => ?_⟩
 ·rintro ⟨y, hy, rfl⟩; exact h y hy
 ·obtain ⟨k, hk⟩ := G.inv_pw hg
  have h1 := hpw k x hx
  rw [← hk] at h1
  refine ⟨_, h1, ?_⟩
  rw [G.conj_mul (S.vec x hx) hi hg, G.inv_mul hg, G.conj_one (S.vec x hx)]
theorem Grp.cm_norm {U V : List (List Int)} (hU : ∀ x ∈ U, Vec P.orders x) (hV : ∀ x ∈ V, Vec P.orders x) {g : List Int} (hg : g ∈ U ++ V) : cjS P (cmP P U V) g = cmP P U V :=
 G.cj_kept (G.cm_sub hU hV) (app_vec hU hV g hg) (fun _ hx => stP_conj hg hx)
end
end Go.Proofs.YtdcobapnlpeaaaaGreat
namespace Go.Proofs.YtdcobapnlpeaaaaGreat
open Go.RowKit
set_option maxRecDepth 100000 in
set_option maxHeartbeats 4000000 in
theorem l13Stable_ok (P : Pr) (G : Grp P) (w : World) (pv uv bv : Value) (H : List Int → Prop) (B : List (List Int)) (Sp Su Sb : Nat → Prop) (S : Sub P H) (hpv : PresV Sp w pv P) (hu : Rows2 Su w uv (cseq P H)) (hb : Rows2 Sb w bv B) (hB : ∀ b ∈ B, Vec P.orders b) (hBl : B.length ≤ 100) :
  Calls Tryz.prog 169 #[pv, uv, bv] w (Ret w fun w' v => Rows2 Any w' v (cseq P (stP P H B))) := by
 have hP := G.v
 have hn6 := hP.n6
 obtain ⟨vo, vp, vc, rfl, h3⟩ := hpv
 have hp0 := PresP.box h3 28
 have hg0 : Ext w (w.alloc (.cells #[vo, vp, vc] 28)) := World.grownBy_alloc _ _ _
 have hu0 : Rows2 Any (w.alloc (.cells #[vo, vp, vc] 28)) uv (cseq P H) := Rows2.sub (Rows2.ext hu hg0) (fun _ _ _ => trivial)
 have hb0 := Rows2.ext hb hg0
 obtain ⟨au, capu, rfl, _, _⟩ := Sl.shape hu
 obtain ⟨ab, capb, rfl, _, _⟩ := Sl.shape hb
 obtain ⟨vo6, vp6, vc6, _, _, hc0, hc1, hc2, h36⟩ := hp0.at
 simp only [Nat.zero_add] at hc1 hc2
 have hbx : ∀ w', Ext (w.alloc (.cells #[vo, vp, vc] 28)) w' → w'.cell? ⟨w.heap.size, 0, none⟩ = some vo6 ∧ w'.cell? ⟨w.heap.size, 1, none⟩ = some vp6 ∧ w'.cell? ⟨w.heap.size, 2, none⟩ = some vc6 := fun w' h => ⟨h.cell hc0 (by simp), h.cell hc1 (by simp), h.cell hc2 (by simp)⟩
 have HB := Lib.hid hbx; clear hbx hp0 hu hb
 have HS := Lib.hid (And.intro S hB); clear hB
 go_enter Tryz.func169, Tryz.ntmps169
 go_wp2
 clear hc0 hc1 hc2
 generalize hw0 : w.alloc (.cells #[vo, vp, vc] 28) = w0 at *
 clear hw0
 go_loopg [7] (P.orders.length - (cseq P H).length) (fun gk uv wr => ∃ (K : List Int → Prop), gk = P.orders.length - (cseq P K).length ∧ Ext w0 wr ∧ Rows2 Any wr uv (cseq P K) ∧ Hid (StSt P H B K))
 case atStart => exact ⟨H, rfl, Ext.refl _, hu0, Lib.hid ⟨HS.out.1, fun _ h => h, fun x h K _ hH _ => hH x h⟩⟩
 case round =>
  clear hu0
  obtain ⟨K, hgk, hg, hu, hK⟩ := hrel
  have hl := G.cseq_len hK.out.1
  obtain ⟨ak, capk, hvk, _, _⟩ := Sl.shape hu
  subst hvk
  have hKV : ∀ y ∈ cseq P K, Vec P.orders y := fun y hy => hK.out.1.vec y ((G.seq_facts hK.out.1).2.1 y hy)
  have hK6 : ∀ x ∈ cseq P K, x.length ≤ 1000000 := fun x hx => by rw [(hKV x hx).1]; omega
  have HGK := Lib.hid (And.intro hgk (And.intro hKV hK6)); clear hgk hKV hK6
  obtain ⟨wo, rfl⟩ : ∃ wo : World, wo = wr := ⟨_, rfl⟩
  go_wp2_with fail
  refine Calls.mono (l01Own2_ok wo _ (cseq P K) Any hu HGK.out.2.2 (by omega)) ?_
  rintro e2 w2 ⟨v2, rfl, hg2, hO2⟩
  have hQ2 : ShQ (fun _ => False) wo.heap.size w2 v2 (allC P (cseq P K) B 0) := hO2.shq (fun k h => h.elim)
  obtain ⟨a2, cap2, hv2, _, _⟩ := SlD.shape (hO2.toD (by omega))
  subst hv2
  clear hO2
  go_wp2
  go_loopw [8, 9] (fun nv jv wr => ∃ (j : Nat) (v8 : Value), v8 = nv ∧ jv = .int .i64 j ∧ j ≤ B.length ∧ Ext wo wr ∧ ShQ (fun _ => False) wo.heap.size wr v8 (allC P (cseq P K) B j)) (fun _ jv _ => B.length - (intOf jv).toNat)
  case atStart => exact ⟨0, _, rfl, rfl, by omega, hg2, hQ2⟩
  case round =>
   clear hQ2
   obtain ⟨j, v8, rfl, rfl, hj, hgj, hQ⟩ := hrel
   by_cases hlt : j < B.length
   ·have hlt' : (j : Int) < B.length := by omega
    go_wp2
    go_loopw [8, 10] (fun nv iv wr => ∃ (i : Nat) (v8 : Value), v8 = nv ∧ iv = .int .i64 i ∧ i ≤ (cseq P K).length ∧ Ext wo wr ∧ ShQ (fun _ => False) wo.heap.size wr v8 (allC P (cseq P K) B j ++ (conjL P (cseq P K) (gt B j)).take i)) (fun _ iv _ => (cseq P K).length - (intOf iv).toNat)
    case atStart => exact ⟨0, _, rfl, rfl, by omega, hgj, by simpa using hQ⟩
    case round =>
     clear hQ
     obtain ⟨i, v8, rfl, rfl, hi, hgi, hQ⟩ := hrel
     by_cases hlti : i < (cseq P K).length
     ·have hlti' : (i : Int) < (cseq P K).length := by omega
      obtain ⟨b1, o1, a1, c1, rfl, _, _, hcu, hru⟩ := Rows2.at hu i hlti
      obtain ⟨b3, o3, a3, c3, rfl, _, _, hcb, hrb⟩ := Rows2.at hb0 j hlt
      have hg0o : Ext w0 wo := hg
      have hcb := hg0o.cell hcb (by simp)
      have hrb := Ints.ext hrb hg0o
      have hyV := HGK.out.2.1 _ (gtMem hlti)
      have hbV := HS.out.2 _ (gtMem hlt)
      have hcl := conjL_len P (cseq P K) (gt B j)
      have hstep : (conjL P (cseq P K) (gt B j)).take (i + 1) = (conjL P (cseq P K) (gt B j)).take i ++ [rConj P (gt (cseq P K) i) (gt B j)] := by
       rw [take_succ_gt _ i (by rw [hcl]; exact hlti)]
       unfold conjL
       rw [gt_map _ _ _ hlti]
      have htl : (allC P (cseq P K) B j ++ (conjL P (cseq P K) (gt B j)).take i).length ≤ 1000000 := by
       rw [List.length_append, allC_len, List.length_take, hcl]
       have h1 : (cseq P K).length * (j + 1) ≤ 6 * 101 := Nat.mul_le_mul (by omega) (by omega)
       omega
      have hcV := G.conjV hyV hbV
      have hqlt : ∀ k, v8.ownBlock = some k → wo.heap.size ≤ k := fun k hk => (hQ.lt k hk).1
      obtain ⟨xs, hxs⟩ : ∃ xs, xs = allC P (cseq P K) B j ++ (conjL P (cseq P K) (gt B j)).take i := ⟨_, rfl⟩
      have hstep2 : allC P (cseq P K) B j ++ (conjL P (cseq P K) (gt B j)).take (i + 1) = xs ++ [rConj P (gt (cseq P K) i) (gt B j)] := by rw [hstep, hxs, List.append_assoc]
      rw [← hxs] at hQ htl
      have HST := Lib.hid (And.intro hstep2 (And.intro hyV (And.intro htl (And.intro hcV hbV)))); clear hstep hstep2 hyV htl hcV hbV hcl hxs
      have f1 : ∀ w', Ext wo w' → w'.cell? ⟨w.heap.size, 0, none⟩ = some vo6 := fun w' h => (HB.out w' (grown_trans hg h)).1
      have f2 : ∀ w', Ext wo w' → w'.cell? ⟨w.heap.size, 1, none⟩ = some vp6 := fun w' h => (HB.out w' (grown_trans hg h)).2.1
      have f3 : ∀ w', Ext wo w' → w'.cell? ⟨w.heap.size, 2, none⟩ = some vc6 := fun w' h => (HB.out w' (grown_trans hg h)).2.2
      have f4 : ∀ w', Ext wo w' → w'.cell? ⟨b1, o1 + i, none⟩ = some (.slice a1 (gt (cseq P K) i).length c1) := fun w' h => h.cell hcu (by simp)
      have f5 : ∀ w', Ext wo w' → w'.cell? ⟨b3, o3 + j, none⟩ = some (.slice a3 (gt B j).length c3) := fun w' h => h.cell hcb (by simp)
      clear hcu hcb
      go_wp2
      go_region_held3 (fun w' => Ext wo w') (first | exact grown_trans hgi (grown_drew _ _) | assumption | exact grown_trans hgC (World.grownBy_alloc _ _ _))
       (first
        | (go_at_call 150; refine Calls.mono (Calls.rel2 (w0 := wo) (by assumption) (l10Conj_ok P hP _ _ _ _ (gt (cseq P K) i) (gt B j) Any Any Any ⟨_, _, _, rfl, Pres3.ext h36 (grown_trans hg (by assumption))⟩ (Ints.sub (Ints.ext hru (by assumption)) (fun _ _ _ => trivial)) (Ints.sub (Ints.ext hrb (by assumption)) (fun _ _ _ => trivial)) HST.out.2.1 HST.out.2.2.2.2)) ?_; rintro eC wC ⟨vC, rfl, hgC, hgC2, hsC, hOC⟩; have hgrC : Ext wr wC := grown_trans (grown_drew _ _) hgC2; have hCI : Ints (fun k => ¬ False ∧ v8.ownBlock ≠ some k) wC vC (rConj P (gt (cseq P K) i) (gt B j)) := ints_of_own hOC (by rw [HST.out.2.2.2.1.1]; omega) (fun k hk => ⟨id, fun e => by have h1 := (hOC.lt k hk).1; have h2 := (hQ.lt k e).2; have h3 : wr.heap.size ≤ wr.drew.heap.size := (grown_drew wr none).size; omega⟩); obtain ⟨aC, capC, hvC, _, _⟩ := hCI.shape; subst hvC)
        | (refine step_shq_app rfl _ _ rfl (fun _ => False) wo.heap.size v8 _ xs _ rfl wC (hQ.ext hgrC) rfl hCI rfl HST.out.2.2.1 hgC.size ?_; intro v5 w5 hQ5 hg5 hb5; have hgw5 : Ext wo w5 := grown_own hgC hg5 (fun k hk hlt => by have := hqlt k hk; omega)))
      clear f1 f2 f3 f4 f5
      rw [← HST.out.1] at hQ5
      go_wp2
      go_roundw
      case rel => exact ⟨i + 1, v5, rfl, by go_num, by omega, hgw5, hQ5⟩
      case measure => simp [intOf]; omega
     ·have hie : i = (cseq P K).length := by omega
      subst hie
      rw [List.take_of_length_le (by rw [conjL_len]; exact Nat.le_refl _)] at hQ
      go_wp2
      go_roundw
      case rel => exact ⟨j + 1, v8, rfl, by go_num, by omega, hgi, hQ⟩
      case measure => simp [intOf]; omega
   ·have hje : j = B.length := by omega
    subst hje
    have hw0r := grown_trans hg hgj
    obtain ⟨hb0', hb1, hb2⟩ := HB.out wr hw0r
    have hQR := hQ.rows
    obtain ⟨aq, capq, hvq, _, _⟩ := Sl.shape hQR
    subst hvq
    have hal := allC_len P (cseq P K) B B.length
    have hal2 : (allC P (cseq P K) B B.length).length ≤ 10000 := by
     have h1 : (cseq P K).length * (B.length + 1) ≤ 6 * 101 := Nat.mul_le_mul (by omega) (by omega)
     omega
    have hend := G.st_end HS.out.1 HS.out.2 hK.out
    have hrd := G.st_round HS.out.1 HS.out.2 hK.out
    have hlc := G.cseq_len hrd.1.1
    have HE := Lib.hid (And.intro hend (And.intro hrd (And.intro hal2 hlc))); clear hend hrd hal hal2 hlc
    go_wp2_with fail
    clear hb0' hb1 hb2
    refine Calls.mono (l12Close_ok P G wr _ _ (allC P (cseq P K) B B.length) Any Any ⟨_, _, _, rfl, Pres3.ext h36 hw0r⟩ hQR (G.allC_vec hK.out.1 HS.out.2 _ (Nat.le_refl _)) HE.out.2.2.1) ?_
    rintro e3 w3 ⟨v3, rfl, hg3, hR3⟩
    obtain ⟨K2, hK2⟩ : ∃ K2, K2 = genP P (fun z => z ∈ allC P (cseq P K) B B.length) := ⟨_, rfl⟩
    obtain ⟨hend, hrd, _, hlc⟩ := HE.out
    rw [← hK2] at hR3 hend hrd hlc
    have hle := hend.1
    clear HE hK2
    have hQ : True := trivial
    clear hQR
    obtain ⟨a3, cap3, hv3, _, _⟩ := Sl.shape hR3
    subst hv3
    by_cases heq : (cseq P K2).length = (cseq P K).length
    ·have hEE := hend.2 heq
     have hb : (((cseq P K2).length : Int) == ((cseq P K).length : Int)) = true := by simp [heq]
     have HEE := Lib.hid (And.intro hEE hrd); clear hEE hrd hend heq
     go_wp2
     go_ret
     exact ⟨_, rfl, grown_trans hg0 (grown_trans hw0r hg3), by rw [← HEE.out.1]; exact hR3⟩
    ·have hb : (((cseq P K2).length : Int) == ((cseq P K).length : Int)) = false := by simp; omega
     have hlt2 : P.orders.length - (cseq P K2).length < gk := by have := HGK.out.1; omega
     have HLT := Lib.hid (And.intro hlt2 hrd); clear hlt2 heq hrd hend
     go_wp2
     go_roundg (P.orders.length - (cseq P K2).length)
     case measure => exact HLT.out.1
     case rel => exact ⟨K2, rfl, grown_trans hw0r hg3, hR3, Lib.hid HLT.out.2.1⟩
end Go.Proofs.YtdcobapnlpeaaaaGreat
namespace Go.Proofs.YtdcobapnlpeaaaaGreat
open Go.Proofs Go.Shelf Go.RowKit Go.Lib
def Tryz.growRows_ren : Go.Shelf.Ren := ⟨fun | 4 => 253 | n => n, fun | 22 => 25 | 25 => 24 | 3 => 3 | 4 => 4 | 9 => 9 | 20 => 20 | 0 => 0 | n => n, fun | n => n⟩
theorem Tryz.growRows : Go.Proofs.Lays8.n4 Tryz.prog Tryz.growRows_ren := {
  mixed := by kernel_rfl
  f4 := ⟨Tryz.f253.name, by decide, Tryz.func253.trans (congrArg some (by kernel_rfl))⟩
  t0 := Tryz.underlying0
  a0 := Tryz.isAgg0
  z0 := Tryz.sizeOf0
  v0 := Tryz.zeroValue0
  t3 := Tryz.underlying3
  a3 := Tryz.isAgg3
  z3 := Tryz.sizeOf3
  v3 := Tryz.zeroValue3
  t4 := Tryz.underlying4
  a4 := Tryz.isAgg4
  z4 := Tryz.sizeOf4
  v4 := Tryz.zeroValue4
  t9 := Tryz.underlying9
  a9 := Tryz.isAgg9
  z9 := Tryz.sizeOf9
  v9 := Tryz.zeroValue9
  t20 := Tryz.underlying20
  a20 := Tryz.isAgg20
  z20 := Tryz.sizeOf20
  v20 := Tryz.zeroValue20
  t22 := Tryz.underlying25
  a22 := Tryz.isAgg25
  z22 := Tryz.sizeOf25
  v22 := Tryz.zeroValue25 }
theorem growRows_ok (n : Nat) (hn : n ≤ 1000000) (w : World) : Calls Tryz.prog 253 #[.slice none 0 0, .int .i64 n] w (Ret w fun w' v => OwnV w.heap.size 24 w' v []) := by
 rcases Nat.eq_zero_or_pos n with rfl | h0
 ·have h := Any8.slices_Grow_room Tryz.growRows none 0 0 0 w (by omega) (by omega) (by omega) (by omega)
  change Calls Tryz.prog 253 _ _ _ at h
  refine h.mono ?_
  rintro e w' ⟨rfl, rfl⟩
  exact ⟨_, rfl, Ext.refl _, World.ownsRow_nil _ _ _ _⟩
 ·obtain ⟨i0, hi, hz0, hz1, hz2⟩ := info_parts Tryz.infoRow
  have hmax : 0 + n ≤ maxLen := by unfold maxLen; omega
  have h := Any8.slices_Grow_grow Tryz.growRows i0 (.slice none 0 0) hi hz0 (by rw [hz1]; decide) none 0 0 n [] w (by omega) (by omega) (by rw [hz2]; omega) (by omega) (by simp) (fun _ => rfl) (fun a ha => by cases ha)
  change Calls Tryz.prog 253 _ _ _ at h
  refine h.mono ?_
  rintro e w' ⟨rfl, rfl⟩
  have hge := grownCap_ge w (0 + n) 0 24
  have hle := grownCap_le_maxLen w (0 + n) 0 24 hmax
  refine ⟨_, rfl, grown_trans (grown_drew w none) (World.grownBy_alloc _ _ _), rfl, .inr ⟨w.heap.size, _, _, rfl, Nat.le_refl _, Array.getElem?_push_size (xs := w.heap), Nat.zero_le _, hle, ?_, by simp⟩⟩
  simp only [Array.size_append, size_zeroCells, List.size_toArray, List.length_nil]
  have e1 : (Value.cells (.slice none 0 0)).size = 1 := rfl
  have hge2 : 0 + n ≤ grownCap w (0 + n) 0 24 := hge
  rw [e1]
  show 0 + (0 + n - 0) * 1 + (grownCap w (0 + n) 0 24 - (0 + n)) * 1 = grownCap w (0 + n) 0 24 * 1
  omega
end Go.Proofs.YtdcobapnlpeaaaaGreat
namespace Go.Proofs.YtdcobapnlpeaaaaGreat
open Go.RowKit
def flatTo (us : List (List (List Int))) : Nat → List (List Int)
 | 0 => []
 | k + 1 => flatTo us k ++ gt us k
theorem flatTo_len (us : List (List (List Int))) (b : Nat) (h : ∀ u ∈ us, u.length ≤ b) (k : Nat) (hk : k ≤ us.length) : (flatTo us k).length ≤ b * k := by
 induction k with
 | zero => simp [flatTo]
 | succ k ih =>
  have h1 := ih (by omega)
  have h2 := h _ (gt_mem (l := us) (i := k) (by omega))
  simp only [flatTo, List.length_append, Nat.mul_succ]; omega
set_option maxRecDepth 100000 in
set_option maxHeartbeats 4000000 in
theorem concatRows_ok (w : World) (lv : Value) (us : List (List (List Int))) (Sr : Nat → Prop) (hl : Rows3 Sr w lv us) (hb : ∀ u ∈ us, u.length ≤ 1000) (hn : us.length ≤ 100) :
  Calls Tryz.prog 175 #[lv] w (Ret w fun w' v => Rows2 Any w' v (flatTo us us.length)) := by
 obtain ⟨al, capl, rfl, _, _⟩ := Sl.shape hl
 have hfl : ∀ k, k ≤ us.length → (flatTo us k).length ≤ 100000 := fun k hk => by have := flatTo_len us 1000 hb k hk; omega
 have HF := Lib.hid (And.intro hfl hb); clear hfl hb
 go_enter Tryz.func175, Tryz.ntmps175
 go_wp2
 go_loopw [3, 11] (fun sv iv wr => ∃ k : Nat, sv = .int .i64 ((flatTo us k).length : Nat) ∧ iv = .int .i64 k ∧ k ≤ us.length ∧ w = wr) (fun _ iv _ => us.length - (intOf iv).toNat)
 case atStart => exact ⟨0, rfl, rfl, by omega, rfl⟩
 case round =>
  obtain ⟨k, rfl, rfl, hk, rfl⟩ := hrel
  have hfk := HF.out.1 k hk
  by_cases hlt : k < us.length
  ·have hlt' : (k : Int) < us.length := by omega
   obtain ⟨b, off, a2, cap2, rfl, _, _, hc, hr⟩ := Rows3.at hl k hlt
   have hfk2 := HF.out.1 (k + 1) hlt
   have hst : (flatTo us (k + 1)).length = (flatTo us k).length + (gt us k).length := by simp only [flatTo, List.length_append]
   obtain ⟨m, hm⟩ : ∃ m, m = (flatTo us k).length := ⟨_, rfl⟩
   obtain ⟨m2, hm2⟩ : ∃ m2, m2 = (gt us k).length := ⟨_, rfl⟩
   rw [← hm] at hfk hst ⊢
   rw [← hm2] at hc hr hst
   have hmm : m + m2 ≤ 100000 := by omega
   have hw : IntKind.i64.wrap ((m : Int) + (m2 : Int)) = ((m + m2 : Nat) : Int) := by rw [IntWalk.i64_in _ (by omega)]; omega
   have hnn : ¬ ((m + m2 : Nat) : Int) < 0 := by omega
   have HS := Lib.hid (And.intro hst (And.intro hm hm2)); clear hst hm hm2 hfk2
   go_wp2
   go_roundw
   case rel => exact ⟨k + 1, by rw [HS.out.1, Int.natCast_add], by go_num, by omega, trivial⟩
   case measure => simp [intOf]; omega
  ·have hke : k = us.length := by omega
   subst hke
   obtain ⟨m, hm⟩ : ∃ m, m = (flatTo us us.length).length := ⟨_, rfl⟩
   rw [← hm] at hfk ⊢
   clear hm
   go_wp2_with fail
   refine Calls.mono (growRows_ok m (by omega) w) ?_
   rintro e1 w1 ⟨v1, rfl, hg1, hO1⟩
   go_wp2
   go_loopw [6, 27] (fun ov iv wr => ∃ (k : Nat) (v4 : Value) (vs : List Value), v4 = ov ∧ iv = .int .i64 k ∧ k ≤ us.length ∧ Ext w wr ∧ OwnV w.heap.size 24 wr v4 vs ∧ Hid (vs.length = (flatTo us k).length ∧ ∀ i, i < vs.length → Ints Any w (gt vs i) (gt (flatTo us k) i))) (fun _ iv _ => us.length - (intOf iv).toNat)
   case atStart => exact ⟨0, v1, [], rfl, rfl, by omega, hg1, hO1, Lib.hid ⟨rfl, fun i hi => by simp at hi⟩⟩
   case round =>
    clear hO1
    obtain ⟨k, v4, vs, rfl, rfl, hk, hg, hO, hV⟩ := hrel
    by_cases hlt : k < us.length
    ·have hlt' : (k : Int) < us.length := by omega
     obtain ⟨b, off, a2, cap2, rfl, _, _, hc, hr⟩ := Rows3.at hl k hlt
     have hcr := hg.cell hc (by simp)
     obtain ⟨vs2, hvl2, hvs2⟩ := Sl.vals hr
     have hnil : a2 = none → cap2 = 0 := by
      obtain ⟨a', cap', hv, hl', _⟩ := hr
      cases hv; exact hl'.2.2
     have hlk := HF.out.2 _ (gt_mem hlt)
     have hfk := HF.out.1 k hk
     have hnews : ∀ j, j < (gt us k).length → ∃ b off, a2 = some ⟨b, off, none⟩ ∧ wr.cell? ⟨b, off + j, none⟩ = some (gt vs2 j) := fun j hj => by
      obtain ⟨⟨b, off, h1, h2⟩, _⟩ := hvs2 j hj
      exact ⟨b, off, h1, hg.cell h2 (by simp)⟩
     have hone : ∀ u, u ∈ vs2 → u.oneCell' = true := fun u hu => by
      obtain ⟨j, hj, rfl⟩ := List.getElem_of_mem hu
      rw [← gt_eq vs2 j hj]
      exact rdInts.one (hvs2 j (by omega)).2
     have hnew : Hid ((vs ++ vs2).length = (flatTo us (k + 1)).length ∧ ∀ i, i < (vs ++ vs2).length → Ints Any w (gt (vs ++ vs2) i) (gt (flatTo us (k + 1)) i)) := by
      refine Lib.hid ⟨by simp only [List.length_append, flatTo, hV.out.1, hvl2], fun i hi => ?_⟩
      simp only [flatTo]
      by_cases h : i < vs.length
      ·rw [gt_append_left _ _ _ h, gt_append_left _ _ _ (by rw [← hV.out.1]; exact h)]
       exact hV.out.2 i h
      ·have hi2 : i - vs.length < (gt us k).length := by simp only [List.length_append] at hi; omega
       have e1 : gt (vs ++ vs2) i = gt vs2 (i - vs.length) := by
        simp only [gt, List.getD_eq_getElem?_getD]
        rw [List.getElem?_append_right (by omega)]
       have e2 : gt (flatTo us k ++ gt us k) i = gt (gt us k) (i - vs.length) := by
        rw [hV.out.1]
        simp only [gt, List.getD_eq_getElem?_getD]
        rw [List.getElem?_append_right (by rw [← hV.out.1]; omega)]
       rw [e1, e2]
       exact Ints.sub (hvs2 _ hi2).2 (fun _ _ _ => trivial)
     have hlen : vs.length + (gt us k).length ≤ 2147483648 := by rw [hV.out.1]; omega
     have HN := Lib.hid (And.intro hnews (And.intro hone (And.intro hvl2 (And.intro hnil hlen)))); clear hnews hone hvl2 hvs2 hlen hnil hlk hfk hc
     go_wp2_with (first | (at_builtin; refine wp_app 25 24 (.slice none 0 0) 24 und_rows Tryz.infoRow rfl (by decide) rfl _ _ rfl w.heap.size v4 vs rfl hO a2 (gt us k).length cap2 vs2 rfl HN.out.2.2.1 HN.out.2.2.2.1 HN.out.1 HN.out.2.1 HN.out.2.2.2.2 hg.size ?_; intro v5 w5 hO5 hg5 _ _; have hgw5 := grown_own hg hg5 (fun j hj hlt => by have := (hO.lt j hj).1; omega)) | fail)
     clear hcr
     go_roundw
     case rel => exact ⟨k + 1, v5, _, rfl, by go_num, by omega, hgw5, hO5, hnew⟩
     case measure => simp [intOf]; omega
    ·have hke : k = us.length := by omega
     subst hke
     have hR : Rows2 Any wr v4 (flatTo us us.length) := by
      have hl9 := HF.out.1 us.length (Nat.le_refl _)
      rcases hO.form with ⟨rfl, rfl⟩ | ⟨g, cp, rfl, hcp, hgB, hgs⟩
      ·have h0 : flatTo us us.length = [] := List.eq_nil_of_length_eq_zero hV.out.1.symm
       rw [h0]
       exact ⟨none, 0, rfl, ⟨by simp, by simp, fun _ => rfl⟩, fun i hi => by simp at hi⟩
      ·refine ⟨_, cp, by rw [hV.out.1], ⟨by rw [← hV.out.1]; exact hcp, by omega, fun h => by cases h⟩, fun i hi => ⟨g, 0, gt vs i, rfl, trivial, hgs, ?_, ?_⟩⟩
       ·rw [Nat.zero_add]; exact hO.cell i (by rw [hV.out.1]; exact hi)
       ·exact Ints.ext (hV.out.2 i (by rw [hV.out.1]; exact hi)) hg
     obtain ⟨az, capz, hvz, _, _⟩ := Sl.shape hR
     subst hvz
     clear hV hO
     go_wp2
     go_ret
     exact ⟨_, rfl, hg, hR⟩
end Go.Proofs.YtdcobapnlpeaaaaGreat
namespace Go.Proofs.YtdcobapnlpeaaaaGreat
open Go.RowKit
set_option maxRecDepth 100000 in
set_option maxHeartbeats 8000000 in
theorem l13Comm_ok (P : Pr) (G : Grp P) (w : World) (pv uv vv : Value) (U V : List (List Int)) (Sp Su Sv : Nat → Prop) (hpv : PresV Sp w pv P) (hu : Rows2 Su w uv U) (hv : Rows2 Sv w vv V) (hU : ∀ x ∈ U, Vec P.orders x) (hV : ∀ x ∈ V, Vec P.orders x) (hUl : U.length ≤ 6) (hVl : V.length ≤ 6) :
  Calls Tryz.prog 131 #[pv, uv, vv] w (Ret w fun w' v => Rows2 Any w' v (cseq P (cmP P U V))) := by
 have hP := G.v
 have hn6 := hP.n6
 obtain ⟨vo, vp, vc, rfl, h3⟩ := hpv
 have hp0 := PresP.box h3 28
 have hg0 : Ext w (w.alloc (.cells #[vo, vp, vc] 28)) := World.grownBy_alloc _ _ _
 have hu0 : Rows2 Any (w.alloc (.cells #[vo, vp, vc] 28)) uv U := Rows2.sub (Rows2.ext hu hg0) (fun _ _ _ => trivial)
 have hv0 : Rows2 Any (w.alloc (.cells #[vo, vp, vc] 28)) vv V := Rows2.sub (Rows2.ext hv hg0) (fun _ _ _ => trivial)
 obtain ⟨au, capu, rfl, _, _⟩ := Sl.shape hu
 obtain ⟨av, capv, rfl, _, _⟩ := Sl.shape hv
 obtain ⟨vo6, vp6, vc6, _, _, hc0, hc1, hc2, h36⟩ := hp0.at
 simp only [Nat.zero_add] at hc1 hc2
 have hbx : ∀ w', Ext (w.alloc (.cells #[vo, vp, vc] 28)) w' → w'.cell? ⟨w.heap.size, 0, none⟩ = some vo6 ∧ w'.cell? ⟨w.heap.size, 1, none⟩ = some vp6 ∧ w'.cell? ⟨w.heap.size, 2, none⟩ = some vc6 := fun w' h => ⟨h.cell hc0 (by simp), h.cell hc1 (by simp), h.cell hc2 (by simp)⟩
 have HB := Lib.hid hbx; clear hbx hp0 hu hv
 have hcv := G.comL_vec hU hV
 have hcl : (comL P U V).length ≤ 36 := by
  rw [comL_len]
  exact Nat.mul_le_mul hUl hVl
 have hUl1 : ∀ x ∈ U, x.length ≤ 1000000 := fun x hx => by rw [(hU x hx).1]; omega
 have SC := G.genP_sub (Q := fun x => x ∈ comL P U V) hcv
 have HL := Lib.hid (And.intro hU (And.intro hV (And.intro hcv (And.intro hcl (And.intro (app_vec hU hV) (And.intro hUl1 SC)))))); clear hU hV hcv hcl hUl1 SC
 go_enter Tryz.func131, Tryz.ntmps131
 go_wp2
 clear hc0 hc1 hc2
 have HS0 := Lib.hid (show (w.alloc (.cells #[vo, vp, vc] 28)).heap.size = w.heap.size + 1 by simp)
 generalize hw0 : w.alloc (.cells #[vo, vp, vc] 28) = w0 at *
 clear hw0
 have hQE : ShQ (fun _ => False) w0.heap.size (w0.alloc (.cells #[] 24)) (.slice (some ⟨w0.heap.size, 0, none⟩) 0 0) (comL P (U.take 0) V) := by
  rw [List.take_zero]; exact ShQ.lit _ _ _ (Nat.le_refl _)
 have hgE : Ext w0 (w0.alloc (.cells #[] 24)) := World.grownBy_alloc _ _ _
 go_loopw [7, 8] (fun nv iv wr => ∃ (i : Nat) (v8 : Value), v8 = nv ∧ iv = .int .i64 i ∧ i ≤ U.length ∧ Ext w0 wr ∧ ShQ (fun _ => False) w0.heap.size wr v8 (comL P (U.take i) V)) (fun _ iv _ => U.length - (intOf iv).toNat)
 case atStart => exact ⟨0, _, rfl, rfl, by omega, hgE, by rw [← HS0.out]; exact hQE⟩
 case round =>
  clear hQE hgE
  obtain ⟨i, v8, rfl, rfl, hi, hgi, hQ⟩ := hrel
  by_cases hlt : i < U.length
  ·have hlt' : (i : Int) < U.length := by omega
   have hxV := HL.out.1 _ (gtMem hlt)
   have hstep := comL_succ P U V i hlt
   have hml : (V.map (fun y => comR P (gt U i) y)).length = V.length := List.length_map _
   have hcl2 : (comL P (U.take i) V).length ≤ 36 := by
    rw [comL_len, List.length_take]
    exact Nat.le_trans (Nat.mul_le_mul (show min i U.length ≤ 6 by omega) hVl) (by decide)
   have HS := Lib.hid (And.intro hxV (And.intro hstep (And.intro hml hcl2))); clear hxV hstep hml hcl2
   go_wp2
   go_loopw [7, 9] (fun nv jv wr => ∃ (j : Nat) (v8 : Value), v8 = nv ∧ jv = .int .i64 j ∧ j ≤ V.length ∧ Ext w0 wr ∧ ShQ (fun _ => False) w0.heap.size wr v8 (comL P (U.take i) V ++ (V.map (fun y => comR P (gt U i) y)).take j)) (fun _ jv _ => V.length - (intOf jv).toNat)
   case atStart => exact ⟨0, _, rfl, rfl, by omega, hgi, by simpa using hQ⟩
   case round =>
    clear hQ hgi
    obtain ⟨j, v8, rfl, rfl, hj, hgj, hQ⟩ := hrel
    by_cases hltj : j < V.length
    ·have hltj' : (j : Int) < V.length := by omega
     obtain ⟨b1, o1, a1, c1, rfl, _, _, hcu, hru⟩ := Rows2.at hu0 i hlt
     obtain ⟨b3, o3, a3, c3, rfl, _, _, hcb, hrb⟩ := Rows2.at hv0 j hltj
     have hyV := HL.out.2.1 _ (gtMem hltj)
     have hst2 : (V.map (fun y => comR P (gt U i) y)).take (j + 1) = (V.map (fun y => comR P (gt U i) y)).take j ++ [comR P (gt U i) (gt V j)] := by
      rw [take_succ_gt _ j (by rw [HS.out.2.2.1]; exact hltj), gt_map _ _ _ hltj]
     have htl : (comL P (U.take i) V ++ (V.map (fun y => comR P (gt U i) y)).take j).length ≤ 1000000 := by
      rw [List.length_append, List.length_take, HS.out.2.2.1]; have := HS.out.2.2.2; omega
     have hcV := G.comV HS.out.1 hyV
     have hqlt : ∀ k, v8.ownBlock = some k → w0.heap.size ≤ k := fun k hk => (hQ.lt k hk).1
     obtain ⟨xs, hxs⟩ : ∃ xs, xs = comL P (U.take i) V ++ (V.map (fun y => comR P (gt U i) y)).take j := ⟨_, rfl⟩
     have hstep2 : comL P (U.take i) V ++ (V.map (fun y => comR P (gt U i) y)).take (j + 1) = xs ++ [comR P (gt U i) (gt V j)] := by rw [hst2, hxs, List.append_assoc]
     rw [← hxs] at hQ htl
     have HST := Lib.hid (And.intro hstep2 (And.intro hyV (And.intro htl hcV))); clear hst2 hstep2 hyV htl hcV hxs
     have f1 : ∀ w', Ext w0 w' → w'.cell? ⟨w.heap.size, 0, none⟩ = some vo6 := fun w' h => (HB.out w' h).1
     have f2 : ∀ w', Ext w0 w' → w'.cell? ⟨w.heap.size, 1, none⟩ = some vp6 := fun w' h => (HB.out w' h).2.1
     have f3 : ∀ w', Ext w0 w' → w'.cell? ⟨w.heap.size, 2, none⟩ = some vc6 := fun w' h => (HB.out w' h).2.2
     have f4 : ∀ w', Ext w0 w' → w'.cell? ⟨b1, o1 + i, none⟩ = some (.slice a1 (gt U i).length c1) := fun w' h => h.cell hcu (by simp)
     have f5 : ∀ w', Ext w0 w' → w'.cell? ⟨b3, o3 + j, none⟩ = some (.slice a3 (gt V j).length c3) := fun w' h => h.cell hcb (by simp)
     clear hcu hcb
     go_wp2
     go_region_held3 (fun w' => Ext w0 w') (first | exact grown_trans hgj (grown_drew _ _) | assumption | exact grown_trans hgC (World.grownBy_alloc _ _ _))
      (first
       | (go_at_call 216; refine Calls.mono (Calls.rel2 (w0 := w0) (by assumption) (l10Comm_ok P G _ _ _ _ (gt U i) (gt V j) Any Any Any ⟨_, _, _, rfl, Pres3.ext h36 (by assumption)⟩ (Ints.sub (Ints.ext hru (by assumption)) (fun _ _ _ => trivial)) (Ints.sub (Ints.ext hrb (by assumption)) (fun _ _ _ => trivial)) HS.out.1 HST.out.2.1)) ?_; rintro eC wC ⟨vC, rfl, hgC, hgC2, hsC, hOC⟩; have hgrC : Ext wr wC := grown_trans (grown_drew _ _) hgC2; have hCI : Ints (fun k => ¬ False ∧ v8.ownBlock ≠ some k) wC vC (comR P (gt U i) (gt V j)) := ints_of_own hOC (by rw [HST.out.2.2.2.1]; omega) (fun k hk => ⟨id, fun e => by have h1 := (hOC.lt k hk).1; have h2 := (hQ.lt k e).2; have h3 : wr.heap.size ≤ wr.drew.heap.size := (grown_drew wr none).size; omega⟩); obtain ⟨aC, capC, hvC, _, _⟩ := hCI.shape; subst hvC)
       | (refine step_shq_app rfl _ _ rfl (fun _ => False) w0.heap.size v8 _ xs _ rfl wC (hQ.ext hgrC) rfl hCI rfl HST.out.2.2.1 hgC.size ?_; intro v5 w5 hQ5 hg5 hb5; have hgw5 : Ext w0 w5 := grown_own hgC hg5 (fun k hk hlt => by have := hqlt k hk; omega)))
     clear f1 f2 f3 f4 f5
     rw [← HST.out.1] at hQ5
     go_wp2
     go_roundw
     case rel => exact ⟨j + 1, v5, rfl, by go_num, by omega, hgw5, hQ5⟩
     case measure => simp [intOf]; omega
    ·have hje : j = V.length := by omega
     subst hje
     have e : (V.map (fun y => comR P (gt U i) y)).take V.length = V.map (fun y => comR P (gt U i) y) := List.take_of_length_le (by rw [HS.out.2.2.1]; exact Nat.le_refl _)
     rw [e, ← HS.out.2.1] at hQ
     clear e
     have HQ := Lib.hid hQ; clear hQ
     go_wp2
     go_roundw
     case rel => exact ⟨i + 1, v8, rfl, by go_num, by omega, hgj, HQ.out⟩
     case measure => simp [intOf]; omega
  ·have hie : i = U.length := by omega
   subst hie
   rw [List.take_length] at hQ
   have hQR := hQ.rows
   obtain ⟨aq, nq, capq, hvq⟩ : ∃ a n c, v8 = Value.slice a n c := by obtain ⟨a, c, e, _⟩ := Sl.shape hQR; exact ⟨_, _, _, e⟩
   subst hvq
   clear hQ
   have hur := Rows2.ext hu0 hgi
   have hvr : Rows2 (fun k => k < wr.heap.size) wr (.slice av V.length capv) V := Rows2.sub (Rows2.ext hv0 hgi) (fun k _ h => h)
   have h3r := Pres3.ext h36 hgi
   have hSt := G.stP_sub HL.out.2.2.2.2.2.2 HL.out.2.2.2.2.1
   have hbl : (U ++ V).length ≤ 100 := by rw [List.length_append]; omega
   have HT := Lib.hid (And.intro hSt hbl); clear hSt hbl
   have f1 : ∀ w', Ext wr w' → w'.cell? ⟨w.heap.size, 0, none⟩ = some vo6 := fun w' h => (HB.out w' (grown_trans hgi h)).1
   have f2 : ∀ w', Ext wr w' → w'.cell? ⟨w.heap.size, 1, none⟩ = some vp6 := fun w' h => (HB.out w' (grown_trans hgi h)).2.1
   have f3 : ∀ w', Ext wr w' → w'.cell? ⟨w.heap.size, 2, none⟩ = some vc6 := fun w' h => (HB.out w' (grown_trans hgi h)).2.2
   go_wp2
   go_region_held3 (fun w' => Ext wr w') (first | exact grown_drew _ _ | assumption)
    (first
     | (go_at_call 108; refine Calls.mono (Calls.rel (w0 := wr) (by assumption) (l12Close_ok P G _ _ _ (comL P U V) Any Any ⟨_, _, _, rfl, Pres3.ext h3r (by assumption)⟩ (Rows2.ext hQR (by assumption)) HL.out.2.2.1 (by have := HL.out.2.2.2.1; omega))) ?_; rintro eC wC ⟨vC, rfl, hgC, hsC, hRC⟩; obtain ⟨aC, nC, capC, hvC⟩ : ∃ a n c, vC = Value.slice a n c := (by obtain ⟨a, c, e, _⟩ := Sl.shape hRC; exact ⟨_, _, _, e⟩); subst hvC)
     | (go_at_call 213; refine Calls.mono (Calls.rel2 (w0 := wr) (by assumption) (l01Own2N_ok _ _ U Any (Rows2.sub (Rows2.ext hur (by assumption)) (fun _ _ _ => trivial)) HL.out.2.2.2.2.2.1 (by omega))) ?_; rintro eA wA ⟨vA, rfl, hgA, hgA2, hsA, hOA, gA, capA, rfl⟩)
     | (refine step_app_rows rfl _ _ rfl wr.heap.size gA capA U V rfl (hOA.weak hsA) _ (fun k => k < wr.heap.size) (Rows2.ext hvr hgA) (fun k h _ => h) rfl (by omega) hgA.size ?_; intro vB wB hRB hgB; have hgwB : Ext wr wB := grown_own hgA hgB (fun j hj hlt => by
        cases hj
        obtain ⟨vs, G0, _, hOO, _⟩ := hOA
        have := (hOO.lt gA rfl).1
        omega); have hgCB : Ext wC wB := grown_own hgA2 hgB (fun j hj hlt => by
        cases hj
        obtain ⟨vs, G0, _, hOO, _⟩ := hOA
        have := (hOO.lt gA rfl).1
        omega); obtain ⟨aB, nB, capB, hvB⟩ : ∃ a n c, vB = Value.slice a n c := (by obtain ⟨a, c, e, _⟩ := Sl.shape hRB; exact ⟨_, _, _, e⟩); subst hvB)
     | (go_at_call 169; refine Calls.mono (Calls.rel (w0 := wr) (by assumption) (l13Stable_ok P G _ _ _ _ (genP P (fun x => x ∈ comL P U V)) (U ++ V) Any Any Any HL.out.2.2.2.2.2.2 ⟨_, _, _, rfl, Pres3.ext h3r (by assumption)⟩ (Rows2.ext hRC hgCB) hRB HL.out.2.2.2.2.1 HT.out.2)) ?_; rintro eD wD ⟨vD, rfl, hgD, hsD, hRD⟩))
   clear f1 f2 f3
   have hRD' : Rows2 Any wD vD (cseq P (cmP P U V)) := hRD
   clear hRD
   obtain ⟨aD, nD, capD, hvD⟩ : ∃ a n c, vD = Value.slice a n c := by obtain ⟨a, c, e, _⟩ := Sl.shape hRD'; exact ⟨_, _, _, e⟩
   subst hvD
   go_wp2
   go_ret
   exact ⟨_, rfl, grown_trans hg0 (grown_trans hgi hgD), hRD'⟩
end Go.Proofs.YtdcobapnlpeaaaaGreat
namespace Go.Proofs.YtdcobapnlpeaaaaGreat
structure ClSt (P : Pr) (H : List Int → Prop) (B : List (List Int)) (K : List Int → Prop) (b0 : List (List Int)) (j : Nat) (Kj : List Int → Prop) (bj : List (List Int)) (g : Bool) : Prop where
 st : StSt P H B Kj
 ind : Ind P Kj (gt bj)
 no : g = false → bj = b0 ∧ Kj = K ∧ ∀ k, k < j → ∀ y ∈ cseq P K, K (rConj P y (gt B k))
 yes : g = true → miss bj P.orders.length < miss b0 P.orders.length
 le : miss bj P.orders.length ≤ miss b0 P.orders.length
section
variable {P : Pr} (G : Grp P)
include G
omit G in
theorem ClSt.start {H K : List Int → Prop} {B b : List (List Int)} (h : StSt P H B K) (hI : Ind P K (gt b)) : ClSt P H B K b 0 K b false :=
 ⟨h, hI, fun _ => ⟨rfl, rfl, fun k hk => absurd hk (Nat.not_lt_zero _)⟩, (fun h => by cases h), Nat.le_refl _⟩
theorem ClSt.step {H K Kj : List Int → Prop} {B b0 bj b' : List (List Int)} {j : Nat} {g g2 : Bool} (S : Sub P H) (hB : ∀ b ∈ B, Vec P.orders b) (hK : StSt P H B K) (h : ClSt P H B K b0 j Kj bj g) (hj : j < B.length)
  (hA : AddPost P Kj (conjL P (cseq P K) (gt B j)) bj b' g2) : ClSt P H B K b0 (j + 1) (genP P (fun x => Kj x ∨ x ∈ conjL P (cseq P K) (gt B j))) b' (g2 || g) := by
 obtain ⟨hI, hn, hy⟩ := hA
 have hf := (G.seq_facts hK.1).2.1
 have hbj := hB _ (gtMem hj)
 have hmem : ∀ x ∈ conjL P (cseq P K) (gt B j), ∃ y ∈ cseq P K, x = rConj P y (gt B j) := fun x hx => by
  unfold conjL at hx; obtain ⟨y, hy, rfl⟩ := List.mem_map.1 hx; exact ⟨y, hy, rfl⟩
 refine ⟨⟨hI.sub, fun x hx => genP_mem (.inl (h.st.2.1 x hx)), fun x hx => genP_le (G.stP_sub S hB) (fun y hy => ?_) hx⟩, hI, fun hg => ?_, fun hg => ?_, ?_⟩
 ·rcases hy with h1 | h1
  ·exact h.st.2.2 y h1
  ·obtain ⟨z, hz, rfl⟩ := hmem y h1
   exact stP_conj (gtMem hj) (hK.2.2 z (hf z hz))
 ·obtain ⟨rfl, rfl⟩ : g2 = false ∧ g = false := by cases g2 <;> cases g <;> simp_all
  obtain ⟨rfl, rfl, h3⟩ := h.no rfl
  have e := hn rfl
  subst e
  have hsame : ∀ x, genP P (fun x => Kj x ∨ x ∈ conjL P (cseq P Kj) (gt B j)) x → Kj x := fun x hx => G.ind_same h.ind hI (fun y hy => genP_mem (.inl hy)) x hx
  refine ⟨rfl, funext fun x => propext ⟨hsame x, fun hx => genP_mem (.inl hx)⟩, fun k hk y hy => ?_⟩
  rcases Nat.lt_succ_iff_lt_or_eq.1 hk with h4 | h4
  ·exact h3 k h4 y hy
  ·subst h4
   exact hsame _ (genP_mem (.inr (List.mem_map.2 ⟨y, hy, rfl⟩)))
 ·cases g2 with
  | true => exact Nat.lt_of_lt_of_le (hy rfl) h.le
  | false => have e := hn rfl; subst e; exact h.yes (by simpa using hg)
 ·cases g2 with
  | true => exact Nat.le_trans (Nat.le_of_lt (hy rfl)) h.le
  | false => have e := hn rfl; subst e; exact h.le
theorem ClSt.done {H K Kj : List Int → Prop} {B b0 bj : List (List Int)} (hB : ∀ b ∈ B, Vec P.orders b) (hK : StSt P H B K) (h : ClSt P H B K b0 B.length Kj bj false) : Kj = stP P H B ∧ bj = b0 := by
 obtain ⟨e1, e2, h3⟩ := h.no rfl
 subst e1 e2
 have hf := (G.seq_facts h.st.1).2.1
 refine ⟨funext fun x => propext ⟨h.st.2.2 x, fun hx => hx _ h.st.1 h.st.2.1 (fun b hb y hy => ?_)⟩, rfl⟩
 have h1 : genP P (fun z => z ∈ cseq P Kj) y := by rw [G.genP_cseq h.st.1]; exact hy
 obtain ⟨k, hk, rfl⟩ := mem_gt hb
 exact (h1 _ (G.pull_sub h.st.1 (hB _ hb)) (fun z hz => ⟨h.st.1.vec z (hf z hz), h3 k hk z hz⟩)).2
omit G in
theorem StSt.start {H : List Int → Prop} {B : List (List Int)} (S : Sub P H) : StSt P H B H := ⟨S, fun _ h => h, fun x hx _ _ hH _ => hH x hx⟩
end
end Go.Proofs.YtdcobapnlpeaaaaGreat
namespace Go.Proofs.YtdcobapnlpeaaaaGreat
open Go.RowKit
theorem Grp.conjL_v {P : Pr} (G : Grp P) {L : List (List Int)} (hL : ∀ y ∈ L, Vec P.orders y) {g : List Int} (hg : Vec P.orders g) : ∀ z ∈ conjL P L g, Vec P.orders z := fun z hz => by
 unfold conjL at hz
 obtain ⟨y, hy, rfl⟩ := List.mem_map.1 hz
 exact G.conjV (hL y hy) hg
set_option maxRecDepth 100000 in
set_option maxHeartbeats 4000000 in
theorem closure_ok (P : Pr) (G : Grp P) (w : World) (p lv bv : Value) (L B : List (List Int)) (Sp Sr Sb : Nat → Prop) (hp : PresP Sp w p P) (hl : Rows2 Sr w lv L) (hL : ∀ x ∈ L, Vec P.orders x) (hlen : L.length ≤ 10000) (hb : Rows2 Sb w bv B) (hB : ∀ b ∈ B, Vec P.orders b) (hBl : B.length ≤ 10000) :
  Calls Tryz.prog 167 #[p, lv, bv] w (Ret w fun w' v => RowsO w.heap.size w' v (cseq P (stP P (genP P (fun x => x ∈ L)) B))) := by
 have hP := G.v
 have hn6 := hP.n6
 obtain ⟨pb, po, rfl⟩ := hp.shape
 obtain ⟨al, capl, rfl, _, _⟩ := Sl.shape hl
 obtain ⟨ab, capb, rfl, _, _⟩ := Sl.shape hb
 have hSH : Sub P (genP P (fun x => x ∈ L)) := G.genP_sub hL
 have HL := Lib.hid (And.intro hL (And.intro hB hSH)); clear hL hB hSH
 go_enter Tryz.func167, Tryz.ntmps167
 go_wp2_with fail
 refine Calls.mono (newSequence_ok P w _ Sp (fun _ => False) hp hn6) ?_
 rintro e1 w1 ⟨v1, rfl, hg1, sb, gb, rfl, hs⟩
 have hgb := hs.tab.lt
 have hsb := hs.sB
 go_wp2_with fail
 refine Calls.mono (add_ok P G w1 sb gb w.heap.size _ _ L _ (fun x => x = zeros P.orders.length) (hp.mono (fun k _ hlt => ⟨by omega, Nat.lt_of_lt_of_le hlt hg1.size, hg1.block k hlt (by simp)⟩)) hs G.ind_one HL.out.1 (Rows2.mono hl (fun k _ hlt => ⟨by omega, Nat.lt_of_lt_of_le hlt hg1.size, hg1.block k hlt (by simp)⟩)) hlen) ?_
 rintro e2 w2 ⟨b2, g2, rfl, hg2, hs2, hA, _, _⟩
 rw [genP_one] at hA
 have hgw2 : Ext w w2 := grown_own hg1 hg2 (fun j hj hlt => by cases hj; omega)
 have HA := Lib.hid hA; clear hA hs hg1 hg2 hl
 have hgb0 : w.heap.size ≤ gb := hgb.1
 have hne := hs2.ne
 clear hgb
 go_wp2
 go_loopg [8] (2 * miss b2 P.orders.length + 1) (fun gk gv wr => ∃ (g : Bool) (b : List (List Int)) (K : List Int → Prop), gv = .bool g ∧ Hid (gk = 2 * miss b P.orders.length + (if g then 1 else 0)) ∧ Ext w wr ∧ SeqAt w.heap.size (fun _ => False) wr sb gb (.pointer (some ⟨pb, po, none⟩)) P.orders.length b ∧ Hid (StSt P (genP P (fun x => x ∈ L)) B K ∧ Ind P K (gt b) ∧ (g = false → K = stP P (genP P (fun x => x ∈ L)) B)))
 case atStart => exact ⟨true, b2, _, rfl, Lib.hid rfl, hgw2, hs2, Lib.hid ⟨StSt.start HL.out.2.2, HA.out, fun h => by cases h⟩⟩
 case round =>
  clear hgw2 hs2 HA
  obtain ⟨g, b, K, rfl, hgk, hg, hs, hK⟩ := hrel
  cases g with
  | false =>
   go_wp2_with fail
   refine Calls.mono (canonical_ok P G wr sb gb w.heap.size _ b K _ _ (hp.ext hg) hs hK.out.2.1) ?_
   rintro e3 w3 ⟨v3, rfl, hg3, hO⟩
   rw [hK.out.2.2 (by simp)] at hO
   go_wp2
   go_ret
   exact ⟨_, rfl, grown_trans hg hg3, hO.weak hg.size⟩
  | true =>
   have hlt0 := hs.tab.lt.2
   go_wp2_with fail
   refine Calls.mono (canonical_ok P G wr sb gb w.heap.size _ b K _ _ (hp.ext hg) hs hK.out.2.1) ?_
   rintro e3 w3 ⟨v3, rfl, hg3, hO⟩
   have hul : (cseq P K).length ≤ P.orders.length := G.cseq_len hK.out.1.1
   have hU := RowsD.rows (SlO.toD hO (by omega))
   obtain ⟨au, nu, cu, hvu⟩ : ∃ a n c, v3 = Value.slice a n c := by obtain ⟨a, c, e, _⟩ := Sl.shape hU; exact ⟨_, _, _, e⟩
   subst hvu
   have hg03 := grown_trans hg hg3
   have hs3 := hs.ext hg3
   have hKV : ∀ y ∈ cseq P K, Vec P.orders y := fun y hy => hK.out.1.1.vec y ((G.seq_facts hK.out.1.1).2.1 y hy)
   have HK := Lib.hid hKV; clear hKV hO
   have hsz3 := hg3.size
   clear hs hg
   go_wp2
   go_loopw [8, 22] (fun gv iv wr => ∃ (i : Nat) (gj : Bool) (bj : List (List Int)) (Kj : List Int → Prop), gv = .bool gj ∧ iv = .int .i64 i ∧ i ≤ B.length ∧ w3.grownBy wr (some gb) ∧ SeqAt w.heap.size (fun _ => False) wr sb gb (.pointer (some ⟨pb, po, none⟩)) P.orders.length bj ∧ Hid (ClSt P (genP P (fun x => x ∈ L)) B K b i Kj bj gj)) (fun _ iv _ => B.length - (intOf iv).toNat)
   case atStart => exact ⟨0, false, b, K, rfl, rfl, by omega, grown_refl _ _, hs3, Lib.hid (ClSt.start hK.out.1 hK.out.2.1)⟩
   case round =>
    clear hs3
    obtain ⟨i, gj, bj, Kj, rfl, rfl, hi, hgi, hsi, hC⟩ := hrel
    have hgw : Ext w wr := grown_own hg03 hgi (fun j hj hlt => by have := Option.some.inj hj; omega)
    have hUi := Rows2.mono hU (frame_of hgi (fun k hk _ => ⟨hk, fun e => by have := Option.some.inj e; have : _ ≤ k := hk; omega⟩))
    by_cases hlt : i < B.length
    ·have hlt' : (i : Int) < B.length := by omega
     obtain ⟨bb, off, ax, capx, rfl, _, _, hc, hr⟩ := Rows2.at hb i hlt
     have hcr := hgw.cell hc (by simp)
     have hxV := HL.out.2.1 _ (gtMem hlt)
     have hstep := fun (b' : List (List Int)) (g2 : Bool) (hA : AddPost P Kj (conjL P (cseq P K) (gt B i)) bj b' g2) => ClSt.step G HL.out.2.2 HL.out.2.1 hK.out.1 hC.out hlt hA
     obtain ⟨x, hx⟩ : ∃ x, x = gt B i := ⟨_, rfl⟩
     rw [← hx] at hcr hr hxV hstep
     have HS := Lib.hid hstep
     have HV := Lib.hid hxV
     have HX := Lib.hid hx; clear hstep hxV hx hc
     go_wp2_with fail
     clear hcr
     refine Calls.mono (conjugates_ok P G wr _ _ _ (cseq P K) x Sp _ _ (hp.ext hgw) hUi HK.out (by omega) (Ints.ext hr hgw) HV.out) ?_
     rintro e4 w4 ⟨v4, rfl, hg4, hO4⟩
     have hcl : (conjL P (cseq P K) x).length = (cseq P K).length := conjL_len _ _ _
     have hR4 := RowsD.rows (hO4.toD (by rw [hcl]; omega))
     obtain ⟨a4, n4, c4, hv4⟩ : ∃ a n c, v4 = Value.slice a n c := by obtain ⟨a, c, e, _⟩ := Sl.shape hR4; exact ⟨_, _, _, e⟩
     subst hv4
     have hl4 : (conjL P (cseq P K) x).length ≤ 10000 := by omega
     have hsl := hsi.slt
     have hsg := hsi.tab.lt.2
     have hs4 := hsi.ext hg4
     have hgw4 := grown_trans hgw hg4
     have HL4 := Lib.hid (And.intro hcl hl4); clear hcl hl4 hO4
     go_wp2_with fail
     refine Calls.mono (add_ok P G w4 sb gb w.heap.size _ _ (conjL P (cseq P K) x) bj Kj (hp.mono (fun k _ hlt => ⟨by omega, Nat.lt_of_lt_of_le hlt hgw4.size, hgw4.block k hlt (by simp)⟩)) hs4 hC.out.ind (G.conjL_v HK.out HV.out) (Rows2.mono hR4 (fun k hk hlt => ⟨fun e => by have : wr.heap.size ≤ k := hk; omega, hlt, rfl⟩)) HL4.out.2) ?_
     rintro e5 w5 ⟨b5, g5, rfl, hg5, hs5, hA5⟩
     have hst := HS.out _ _ hA5
     have HT := Lib.hid hst; clear hst
     have hg35 := grown_trans hgi (grown_trans (grown_of_ext (some gb) hg4) hg5)
     cases g5 with
     | true =>
      go_wp2
      go_roundw
      case rel => exact ⟨i + 1, true, b5, _, rfl, by go_num, by omega, hg35, hs5, by simpa using HT⟩
      case measure => simp [intOf]; omega
     | false =>
      go_wp2
      go_roundw
      case rel => exact ⟨i + 1, gj, b5, _, rfl, by go_num, by omega, hg35, hs5, by simpa using HT⟩
      case measure => simp [intOf]; omega
    ·have hie : i = B.length := by omega
     subst hie
     have hmz : 2 * miss bj P.orders.length + (if gj then 1 else 0) < gk := by
      have h1 := hgk.out
      have h2 := hC.out.le
      have h3 := hC.out.yes
      cases gj with
      | true => have := h3 rfl; simp at h1 ⊢; omega
      | false => simp at h1 ⊢; omega
     have HM := Lib.hid hmz; clear hmz
     go_wp2
     go_roundg (2 * miss bj P.orders.length + (if gj then 1 else 0))
     case measure => exact HM.out
     case rel => exact ⟨gj, bj, Kj, rfl, Lib.hid rfl, hgw, hsi, Lib.hid ⟨hC.out.st, hC.out.ind, fun h => by subst h; exact (ClSt.done G HL.out.2.1 hK.out.1 hC.out).1⟩⟩
end Go.Proofs.YtdcobapnlpeaaaaGreat
namespace Go.Proofs.YtdcobapnlpeaaaaGreat
open Go.RowKit
theorem Grp.conjL_vec {P : Pr} (G : Grp P) {U : List (List Int)} {X : List Int} (hU : ∀ x ∈ U, Vec P.orders x) (hX : Vec P.orders X) : ∀ z ∈ conjL P U X, Vec P.orders z := fun z hz => by
 unfold conjL at hz
 obtain ⟨y, hy, rfl⟩ := List.mem_map.1 hz
 exact G.conjV (hU y hy) hX
end Go.Proofs.YtdcobapnlpeaaaaGreat
namespace Go.Proofs.YtdcobapnlpeaaaaGreat
open Go.RowKit
set_option maxRecDepth 100000 in
set_option maxHeartbeats 4000000 in
theorem iConjSub_ok (P : Pr) (hr : rconsB P = true) (w : World) (pv uv xv : Value) (U : List (List Int)) (X : List Int) (Sp Su Sx : Nat → Prop) (hpv : PresV Sp w pv P) (hu : Rows2 Su w uv U) (hx : Ints Sx w xv X) (hU : SubB P U) (hX : Vec P.orders X) :
  Calls Tryz.prog 35 #[pv, uv, xv] w (Ret w fun w' v => ∃ a n c, v = .tuple #[.slice a n c, .int .i64 0] ∧ RowsO w.heap.size w' (.slice a n c) (cseq P (gU P (conjL P U X)))) := by
 have G := grp_of_r hr
 have hn6 := G.v.n6
 obtain ⟨vo, vp, vc, rfl, h3⟩ := hpv
 have hp0 := PresP.box h3 28
 have hg0 : Ext w (w.alloc (.cells #[vo, vp, vc] 28)) := World.grownBy_alloc _ _ _
 have hs0 : (w.alloc (.cells #[vo, vp, vc] 28)).heap.size = w.heap.size + 1 := by simp
 have hu0 := Rows2.ext hu hg0
 have hx0 := Ints.ext hx hg0
 obtain ⟨au, capu, rfl, _, _⟩ := Sl.shape hu
 obtain ⟨ax, capx, rfl, _, _⟩ := hx.shape
 have hg1 : Ext (w.alloc (.cells #[vo, vp, vc] 28)) ((w.alloc (.cells #[vo, vp, vc] 28)).alloc (.cells #[.slice au U.length capu] 25)) := World.grownBy_alloc _ _ _
 have hl := rows3One hu0
 have hcon := areSubgroups_ok P _ _ _ [U] Any Any (hp0.ext hg1) hl
 rw [hs0] at hcon
 clear hl hu hx
 have hulU : U.length ≤ P.orders.length := G.sub_len hU
 have HH := Lib.hid (And.intro hr (And.intro hU ( And.intro hX ((trivial : True))))); clear hr hU hX
 go_enter Tryz.func35, Tryz.ntmps35
 go_wp2_with fail
 refine Calls.mono hcon ?_
 rintro e1 w1 ⟨v1, rfl, hgA, r1, rfl, hr1⟩
 clear hcon
 obtain rfl : r1 = true := hr1.2 (by have := HH.out; simp only [List.mem_cons, List.mem_nil_iff, or_false]; exact ⟨this.1, fun u hu => by subst hu; exact this.2.1⟩)
 clear hr1
 have hg01 := grown_trans hg1 hgA
 have HS := Lib.hid hs0; clear hs0
 generalize hw0 : (w.alloc (.cells #[vo, vp, vc] 28)) = w0 at *
 clear hw0 hg1 hgA
 have hp1 := hp0.ext hg01
 have hu1 := Rows2.ext hu0 hg01
 have hx1 := Ints.ext hx0 hg01
 have hex := isExponents_ok w1 _ _ P X Any Sx hp1 hx1 (fun i hi => by have := G.v.ord7 i hi; omega)
 rw [expB_vec.2 HH.out.2.2.1] at hex
 go_wp2_with fail
 refine Calls.mono hex ?_
 rintro _ _ ⟨rfl, rfl⟩
 clear hex
 go_wp2_with fail
 refine Calls.mono (conjugateSubgroup_ok P G w1 _ _ _ U X Any Su Sx hp1 hu1 HH.out.2.1.1 (by omega) hx1 HH.out.2.2.1) ?_
 rintro e4 w4 ⟨v4, rfl, hg4, hO4⟩
 have hcl : (cseq P (gU P (conjL P U X))).length ≤ P.orders.length := G.cseq_len (G.genP_sub (G.conjL_vec HH.out.2.1.1 HH.out.2.2.1))
 obtain ⟨ad, nd, capd, hvd⟩ : ∃ a n c, v4 = .slice a n c := by
  obtain ⟨a, c, h⟩ := RowsO.shapeC hO4 (by show (cseq P (gU P (conjL P U X))).length ≤ _; omega)
  exact ⟨a, _, c, h⟩
 subst hvd
 go_wp2
 go_ret2
 exact ⟨_, rfl, grown_trans hg0 (grown_trans hg01 hg4), _, _, _, rfl, hO4.weak (by have := hg01.size; have := hg0.size; omega)⟩
set_option maxRecDepth 100000 in
set_option maxHeartbeats 4000000 in
theorem iMember_ok (P : Pr) (hr : rconsB P = true) (w : World) (pv uv xv : Value) (U : List (List Int)) (X : List Int) (Sp Su Sx : Nat → Prop) (hpv : PresV Sp w pv P) (hu : Rows2 Su w uv U) (hx : Ints Sx w xv X) (hU : SubB P U) (hX : Vec P.orders X) :
  Calls Tryz.prog 29 #[pv, uv, xv] w (Ret w fun _ v => ∃ r : Bool, v = .tuple #[.bool r, .int .i64 0] ∧ (r = true ↔ gU P U X)) := by
 have G := grp_of_r hr
 have hn6 := G.v.n6
 obtain ⟨vo, vp, vc, rfl, h3⟩ := hpv
 have hp0 := PresP.box h3 28
 have hg0 : Ext w (w.alloc (.cells #[vo, vp, vc] 28)) := World.grownBy_alloc _ _ _
 have hs0 : (w.alloc (.cells #[vo, vp, vc] 28)).heap.size = w.heap.size + 1 := by simp
 have hu0 := Rows2.ext hu hg0
 have hx0 := Ints.ext hx hg0
 obtain ⟨au, capu, rfl, _, _⟩ := Sl.shape hu
 obtain ⟨ax, capx, rfl, _, _⟩ := hx.shape
 have hg1 : Ext (w.alloc (.cells #[vo, vp, vc] 28)) ((w.alloc (.cells #[vo, vp, vc] 28)).alloc (.cells #[.slice au U.length capu] 25)) := World.grownBy_alloc _ _ _
 have hl := rows3One hu0
 have hcon := areSubgroups_ok P _ _ _ [U] Any Any (hp0.ext hg1) hl
 rw [hs0] at hcon
 clear hl hu hx
 have hulU : U.length ≤ P.orders.length := G.sub_len hU
 have HH := Lib.hid (And.intro hr (And.intro hU ( And.intro hX ((trivial : True))))); clear hr hU hX
 go_enter Tryz.func29, Tryz.ntmps29
 go_wp2_with fail
 refine Calls.mono hcon ?_
 rintro e1 w1 ⟨v1, rfl, hgA, r1, rfl, hr1⟩
 clear hcon
 obtain rfl : r1 = true := hr1.2 (by have := HH.out; simp only [List.mem_cons, List.mem_nil_iff, or_false]; exact ⟨this.1, fun u hu => by subst hu; exact this.2.1⟩)
 clear hr1
 have hg01 := grown_trans hg1 hgA
 have HS := Lib.hid hs0; clear hs0
 generalize hw0 : (w.alloc (.cells #[vo, vp, vc] 28)) = w0 at *
 clear hw0 hg1 hgA
 have hp1 := hp0.ext hg01
 have hu1 := Rows2.ext hu0 hg01
 have hx1 := Ints.ext hx0 hg01
 have hex := isExponents_ok w1 _ _ P X Any Sx hp1 hx1 (fun i hi => by have := G.v.ord7 i hi; omega)
 rw [expB_vec.2 HH.out.2.2.1] at hex
 go_wp2_with fail
 refine Calls.mono hex ?_
 rintro _ _ ⟨rfl, rfl⟩
 clear hex
 have hu2 : Rows2 Su w1 (.slice au U.length capu) (cseq P (gU P U)) := by rw [← HH.out.2.1.2]; exact hu1
 have hcn := isMember_ok P G w1 _ _ _ (gU P U) X Any Su Sx (G.subB HH.out.2.1) hp1 hu2 hx1 HH.out.2.2.1
 have HC := Lib.hid hcn; clear hcn hu2
 go_wp2_with fail
 refine Calls.mono HC.out ?_
 rintro e2 w2 ⟨v2, rfl, hg2, r, rfl, hri⟩
 have HRI := Lib.hid hri; clear hri HC
 go_wp2
 go_ret2
 exact ⟨_, rfl, grown_trans hg0 (grown_trans hg01 hg2), r, rfl, HRI.out⟩
end Go.Proofs.YtdcobapnlpeaaaaGreat
namespace Go.Proofs.YtdcobapnlpeaaaaGreat
open Go.RowKit
set_option maxRecDepth 100000 in
set_option maxHeartbeats 4000000 in
theorem commSub_ok (P : Pr) (G : Grp P) (w : World) (p uv vv : Value) (U V : List (List Int)) (Sp Su Sv : Nat → Prop) (hp : PresP Sp w p P) (hu : Rows2 Su w uv U) (hv : Rows2 Sv w vv V) (hU : ∀ x ∈ U, Vec P.orders x) (hV : ∀ x ∈ V, Vec P.orders x) (hUl : U.length ≤ 6) (hVl : V.length ≤ 6) :
  Calls Tryz.prog 129 #[p, uv, vv] w (Ret w fun w' v => RowsO w.heap.size w' v (cseq P (cmP P U V))) := by
 have hP := G.v
 have hn6 := hP.n6
 obtain ⟨pb, po, rfl⟩ := hp.shape
 obtain ⟨au, capu, rfl, _, _⟩ := Sl.shape hu
 obtain ⟨av, capv, rfl, _, _⟩ := Sl.shape hv
 have hcv := G.comL_vec hU hV
 have hcl : (comL P U V).length ≤ 36 := by
  rw [comL_len]
  exact Nat.mul_le_mul hUl hVl
 have HL := Lib.hid (And.intro hU (And.intro hV (And.intro hcv (And.intro hcl (app_vec hU hV))))); clear hU hV hcv hcl
 go_enter Tryz.func129, Tryz.ntmps129
 go_wp2
 go_loopw [7, 14] (fun ov iv wr => ∃ (i : Nat) (v4 : Value), v4 = ov ∧ iv = .int .i64 i ∧ i ≤ U.length ∧ Ext w wr ∧ RowsO w.heap.size wr v4 (comL P (U.take i) V)) (fun _ iv _ => U.length - (intOf iv).toNat)
 case atStart => exact ⟨0, _, rfl, rfl, by omega, Ext.refl _, SlO.nil _ _ _ _⟩
 case round =>
  obtain ⟨i, v4, rfl, rfl, hi, hg, hO⟩ := hrel
  by_cases hlt : i < U.length
  ·have hlt' : (i : Int) < U.length := by omega
   obtain ⟨b, off, ax, capx, rfl, _, _, hc0, hx⟩ := Rows2.at hu i hlt
   have hc := hg.cell hc0 (by simp)
   clear hc0
   have hxV := HL.out.1 _ (gtMem hlt)
   have hstep := comL_succ P U V i hlt
   obtain ⟨x, hxe⟩ : ∃ x, x = gt U i := ⟨_, rfl⟩
   rw [← hxe] at hc hx hxV hstep
   have hO0 : RowsO w.heap.size wr v4 (comL P (U.take i) V ++ (V.map (fun y => comR P x y)).take 0) := by rw [List.take_zero, List.append_nil]; exact hO
   have hml : (V.map (fun y => comR P x y)).length = V.length := List.length_map _
   have hcl2 : (comL P (U.take i) V).length ≤ 36 := by
    rw [comL_len, List.length_take]
    exact Nat.le_trans (Nat.mul_le_mul (show min i U.length ≤ 6 by omega) hVl) (by decide)
   have HS := Lib.hid (And.intro hxV (And.intro hstep (And.intro hml hcl2))); clear hxV hstep hml hcl2 hxe hO
   go_wp2
   clear hc
   go_loopw [7, 20] (fun ov jv wr => ∃ (j : Nat) (v4 : Value), v4 = ov ∧ jv = .int .i64 j ∧ j ≤ V.length ∧ Ext w wr ∧ RowsO w.heap.size wr v4 (comL P (U.take i) V ++ (V.map (fun y => comR P x y)).take j)) (fun _ jv _ => V.length - (intOf jv).toNat)
   case atStart => exact ⟨0, _, rfl, rfl, by omega, hg, hO0⟩
   case round =>
    clear hO0 hg
    obtain ⟨j, v5, rfl, rfl, hj, hgw, hO⟩ := hrel
    by_cases hlj : j < V.length
    ·have hlj' : (j : Int) < V.length := by omega
     obtain ⟨b2, off2, ay, capy, rfl, _, _, hc2, hy⟩ := Rows2.at (Rows2.ext hv hgw) j hlj
     have hyV := HL.out.2.1 _ (gtMem hlj)
     have hst2 : (V.map (fun y => comR P x y)).take (j + 1) = (V.map (fun y => comR P x y)).take j ++ [comR P x (gt V j)] := by
      rw [take_succ_gt _ j (by rw [HS.out.2.2.1]; exact hlj), gt_map _ _ _ hlj]
     have htl : (comL P (U.take i) V ++ (V.map (fun y => comR P x y)).take j).length ≤ 1000000 := by
      rw [List.length_append, List.length_take, HS.out.2.2.1]; have := HS.out.2.2.2; omega
     obtain ⟨y, hye⟩ : ∃ y, y = gt V j := ⟨_, rfl⟩
     rw [← hye] at hc2 hy hyV hst2
     have HT := Lib.hid (And.intro hyV (And.intro hst2 htl)); clear hyV hst2 htl hye
     go_wp2_with fail
     refine Calls.mono (commutator_ok P G wr _ _ _ x y Sp Su Sv (hp.ext hgw) (Ints.ext hx hgw) hy HS.out.1 HT.out.1) ?_
     rintro eC wC ⟨vC, rfl, hgC, hOC⟩
     change Own wr.heap.size wC vC (comR P x y) at hOC
     have hcV := G.comV HS.out.1 HT.out.1
     have hYO : OwnIn (From wr.heap.size) wC vC (comR P x y) := OwnIn.of hOC (by rw [hcV.1]; omega) (fun j h1 _ => h1)
     obtain ⟨az, capz, hvz, _, _⟩ := hYO.ints.shape
     subst hvz
     clear hc2 hcV
     go_wp2_with (first | (at_builtin; refine wp_app_row rfl _ _ rfl w.heap.size wr wC v5 _ (comL P (U.take i) V ++ (V.map (fun y => comR P x y)).take j) (comR P x y) rfl hO hgC hYO rfl rfl HT.out.2.2 hgw.size ?_; intro v6 w6 hO6 hg6 hg7; have hgw6 := hO.extw hgw (Nat.le_refl _) hg6) | fail)
     go_roundw
     case rel => exact ⟨j + 1, v6, rfl, by go_num, by omega, hgw6, by rw [HT.out.2.1, ← List.append_assoc]; exact hO6⟩
     case measure => simp [intOf]; omega
    ·have hje : j = V.length := by omega
     subst hje
     have e : (V.map (fun y => comR P x y)).take V.length = V.map (fun y => comR P x y) := List.take_of_length_le (by rw [HS.out.2.2.1]; exact Nat.le_refl _)
     rw [e, ← HS.out.2.1] at hO
     clear e
     have HO := Lib.hid hO; clear hO
     go_wp2
     go_roundw
     case rel => exact ⟨i + 1, v5, rfl, by go_num, by omega, hgw, HO.out⟩
     case measure => simp [intOf]; omega
  ·have hie : i = U.length := by omega
   subst hie
   rw [List.take_length] at hO
   have hOR := RowsD.rows (hO.toD (by have := HL.out.2.2.2.1; omega))
   obtain ⟨al, nl, cl, hvl⟩ : ∃ a n c, v4 = Value.slice a n c := by obtain ⟨a, c, e, _⟩ := Sl.shape hOR; exact ⟨_, _, _, e⟩
   subst hvl
   clear hO
   obtain ⟨wo, hwo⟩ : ∃ wo : World, wo = wr := ⟨_, rfl⟩
   subst hwo
   have hga : Ext wo (wo.alloc (.cells #[.slice au U.length capu, .slice av V.length capv] 25)) := World.grownBy_alloc _ _ _
   have hlit := rows3Two (Rows2.ext hu hg) (Rows2.ext hv hg)
   have hcc := concatRows_ok (wo.alloc (.cells #[.slice au U.length capu, .slice av V.length capv] 25)) _ [U, V] Any hlit (fun u hu => by simp at hu; rcases hu with rfl | rfl <;> omega) (by simp)
   have hfl : flatTo [U, V] [U, V].length = U ++ V := by simp [flatTo, gt]
   rw [hfl] at hcc
   have HCC := Lib.hid hcc; clear hcc hlit hfl
   go_wp2_with fail
   refine Calls.mono HCC.out ?_
   rintro e3 w3 ⟨v3, rfl, hg3, hR3⟩
   clear HCC
   have hg23 := grown_trans hga hg3
   have hg03 := grown_trans hg hg23
   have hOR3 := Rows2.ext hOR hg23
   have hal : (U ++ V).length ≤ 12 := by rw [List.length_append]; omega
   have HAL := Lib.hid hal; clear hal
   obtain ⟨ac, nc, capc, hvc⟩ : ∃ a n c, v3 = Value.slice a n c := by obtain ⟨a, c, e, _⟩ := Sl.shape hR3; exact ⟨_, _, _, e⟩
   subst hvc
   go_wp2_with fail
   refine Calls.mono (closure_ok P G w3 _ _ _ (comL P U V) (U ++ V) Sp _ _ (hp.ext hg03) hOR3 HL.out.2.2.1 (by have := HL.out.2.2.2.1; omega) hR3 HL.out.2.2.2.2 (by have := HAL.out; omega)) ?_
   rintro e4 w4 ⟨v4, rfl, hg4, hO4⟩
   go_wp2
   go_ret
   exact ⟨_, rfl, grown_trans hg03 hg4, hO4.weak hg03.size⟩
end Go.Proofs.YtdcobapnlpeaaaaGreat
namespace Go.Proofs.YtdcobapnlpeaaaaGreat
open Go.RowKit
open Classical in
noncomputable def cmLs (P : Pr) (U V : List (List Int)) : List (List Int) := if twoOk P U V then cseq P (cmP P U V) else []
theorem cm_bad {P : Pr} {U V : List (List Int)} (h : ¬ twoOk P U V) : cmLs P U V = [] := by unfold cmLs; rw [if_neg h]
theorem cm_ok {P : Pr} {U V : List (List Int)} (h : twoOk P U V) : cmLs P U V = cseq P (cmP P U V) := by unfold cmLs; rw [if_pos h]
theorem cmLs_len (P : Pr) (U V : List (List Int)) : (cmLs P U V).length ≤ 729 := by
 by_cases h : twoOk P U V
 ·have G := grp_of_r h.1
  rw [cm_ok h]
  have h1 : (cseq P (cmP P U V)).length ≤ P.orders.length := G.cseq_len (G.cm_sub h.2.1.1 h.2.2.1)
  have := G.v.n6
  omega
 ·rw [cm_bad h]; simp
set_option maxRecDepth 100000 in
set_option maxHeartbeats 4000000 in
theorem iComm_ok (P : Pr) (w : World) (pv uv vv : Value) (U V : List (List Int)) (Sp Su Sv : Nat → Prop) (hpv : PresV Sp w pv P) (hu : Rows2 Su w uv U) (hv : Rows2 Sv w vv V) :
  Calls Tryz.prog 33 #[pv, uv, vv] w (Ret w fun w' v => ∃ a n c, v = .tuple #[.slice a n c, .int .i64 (twoC P U V)] ∧ RowsO w.heap.size w' (.slice a n c) (cmLs P U V)) := by
 obtain ⟨vo, vp, vc, rfl, h3⟩ := hpv
 have hp0 := PresP.box h3 28
 have hg0 : Ext w (w.alloc (.cells #[vo, vp, vc] 28)) := World.grownBy_alloc _ _ _
 have hs0 : (w.alloc (.cells #[vo, vp, vc] 28)).heap.size = w.heap.size + 1 := by simp
 have hu0 := Rows2.ext hu hg0
 have hv0 := Rows2.ext hv hg0
 obtain ⟨au, capu, rfl, _, _⟩ := Sl.shape hu
 obtain ⟨av, capv, rfl, _, _⟩ := Sl.shape hv
 have hg1 : Ext (w.alloc (.cells #[vo, vp, vc] 28)) ((w.alloc (.cells #[vo, vp, vc] 28)).alloc (.cells #[.slice au U.length capu, .slice av V.length capv] 25)) := World.grownBy_alloc _ _ _
 have hl := rows3Two hu0 hv0
 have hcon := areSubgroups_ok P _ _ _ [U, V] Any Any (hp0.ext hg1) hl
 rw [hs0] at hcon
 clear hl hu hv
 go_enter Tryz.func33, Tryz.ntmps33
 go_wp2_with fail
 refine Calls.mono hcon ?_
 rintro e1 w1 ⟨v1, rfl, hgA, r1, rfl, hr1⟩
 clear hcon
 have hr1 : r1 = true ↔ twoOk P U V := by rw [hr1]; unfold twoOk; simp
 have hg01 := grown_trans hg1 hgA
 have HS := Lib.hid hs0; clear hs0
 generalize hw0 : w.alloc (.cells #[vo, vp, vc] 28) = w0 at *
 clear hw0 hg1 hgA
 cases r1 with
 | false =>
  have hno : ¬ twoOk P U V := fun h => by have := hr1.2 h; cases this
  have hc := (two_bad hno).1
  have hL := cm_bad hno
  clear hno
  have HC := Lib.hid (And.intro hc hL); clear hc hL hr1
  go_wp2
  go_ret2
  exact ⟨_, rfl, grown_trans hg0 hg01, none, 0, 0, by rw [HC.out.1]; rfl, by rw [HC.out.2]; exact SlO.nil _ _ _ _⟩
 | true =>
  have hok := hr1.1 rfl
  have G := grp_of_r hok.1
  have hn6 := G.v.n6
  have hc := (two_ok hok).1
  have hL := cm_ok hok
  have hUl : U.length ≤ 6 := by have := G.sub_len hok.2.1; have := G.v.n6; omega
  have hVl : V.length ≤ 6 := by have := G.sub_len hok.2.2; have := G.v.n6; omega
  have hml := cmLs_len P U V
  have HC := Lib.hid (And.intro hc (And.intro hL hok)); clear hc hL hr1 hok
  have hu1 := Rows2.ext hu0 hg01
  have hv1 := Rows2.ext hv0 hg01
  go_wp2_with fail
  refine Calls.mono (commSub_ok P G w1 _ _ _ U V Any Su Sv (hp0.ext hg01) hu1 hv1 HC.out.2.2.2.1.1 HC.out.2.2.2.2.1 hUl hVl) ?_
  rintro e2 w2 ⟨v2, rfl, hg2, hO⟩
  rw [← HC.out.2.1] at hO
  obtain ⟨az, capz, hvz, _, _⟩ := SlD.shape (hO.toD (by omega))
  subst hvz
  have hs1 := hg01.size
  go_wp2
  go_ret2
  exact ⟨_, rfl, grown_trans hg0 (grown_trans hg01 hg2), _, _, _, by rw [HC.out.1]; rfl, hO.weak (by have := HS.out; omega)⟩
set_option maxRecDepth 100000 in
set_option maxHeartbeats 4000000 in
theorem sComm_ok (P : Pr) (w : World) (pv uv vv : Value) (U V : List (List Int)) (Sp Su Sv : Nat → Prop) (hpv : PresV Sp w pv P) (hu : Rows2 Su w uv U) (hv : Rows2 Sv w vv V) :
  Calls Tryz.prog 34 #[pv, uv, vv] w (Ret w fun w' v => ∃ a n c, v = .tuple #[.slice a n c, .int .i64 (twoC P U V)] ∧ Rows2 Any w' (.slice a n c) (cmLs P U V)) := by
 obtain ⟨vo, vp, vc, rfl, h3⟩ := hpv
 have hp0 := PresP.box h3 28
 have hg0 : Ext w (w.alloc (.cells #[vo, vp, vc] 28)) := World.grownBy_alloc _ _ _
 have hu0 := Rows2.ext hu hg0
 have hv0 := Rows2.ext hv hg0
 obtain ⟨au, capu, rfl, _, _⟩ := Sl.shape hu
 obtain ⟨av, capv, rfl, _, _⟩ := Sl.shape hv
 obtain ⟨vo6, vp6, vc6, _, _, hc0, hc1, hc2, h36⟩ := hp0.at
 simp only [Nat.zero_add] at hc1 hc2
 have hbx : ∀ w', Ext (w.alloc (.cells #[vo, vp, vc] 28)) w' → w'.cell? ⟨w.heap.size, 0, none⟩ = some vo6 ∧ w'.cell? ⟨w.heap.size, 1, none⟩ = some vp6 ∧ w'.cell? ⟨w.heap.size, 2, none⟩ = some vc6 := fun w' h => ⟨h.cell hc0 (by simp), h.cell hc1 (by simp), h.cell hc2 (by simp)⟩
 have HB := Lib.hid hbx; clear hbx
 have hE := l13Two_ok P (w.alloc (.cells #[vo, vp, vc] 28)) _ _ _ U V Any Su Sv ⟨_, _, _, rfl, h36⟩ hu0 hv0
 clear hp0 hu hv
 go_enter Tryz.func34, Tryz.ntmps34
 go_wp2_with fail
 clear hc0 hc1 hc2
 generalize hw0 : w.alloc (.cells #[vo, vp, vc] 28) = w0 at *
 clear hw0
 refine Calls.mono hE ?_
 rintro e1 w1 ⟨v1, rfl, hg1, r1, rfl, hr1⟩
 clear hE
 obtain ⟨hb0, hb1, hb2⟩ := HB.out w1 hg1
 cases r1 with
 | false =>
  have hno : ¬ twoOk P U V := fun h => by have := hr1.2 h; cases this
  have hc := (two_bad hno).1
  have hL := cm_bad hno
  clear hno
  have HC := Lib.hid (And.intro hc hL); clear hc hL hr1
  go_wp2
  go_ret2
  exact ⟨_, rfl, grown_trans hg0 hg1, none, 0, 0, by rw [HC.out.1]; rfl, by rw [HC.out.2]; exact ⟨none, 0, rfl, ⟨by simp, by simp, fun _ => rfl⟩, fun i hi => by simp at hi⟩⟩
 | true =>
  have hok : twoOk P U V := hr1.1 rfl
  have G := grp_of_r hok.1
  have hc := (two_ok hok).1
  have hL := cm_ok hok
  have hUl : U.length ≤ 6 := by have := G.sub_len hok.2.1; have := G.v.n6; omega
  have hVl : V.length ≤ 6 := by have := G.sub_len hok.2.2; have := G.v.n6; omega
  have HC := Lib.hid (And.intro hc (And.intro hL hok)); clear hc hL hr1 hok
  have hu1 := Rows2.ext hu0 hg1
  have hv1 := Rows2.ext hv0 hg1
  go_wp2_with fail
  clear hb0 hb1 hb2
  refine Calls.mono (l13Comm_ok P G w1 _ _ _ U V Any Su Sv ⟨_, _, _, rfl, Pres3.ext h36 hg1⟩ hu1 hv1 HC.out.2.2.2.1.1 HC.out.2.2.2.2.1 hUl hVl) ?_
  rintro e2 w2 ⟨v2, rfl, hg2, hR⟩
  rw [← HC.out.2.1] at hR
  obtain ⟨az, capz, hvz, _, _⟩ := Sl.shape hR
  subst hvz
  go_wp2
  go_ret2
  exact ⟨_, rfl, grown_trans hg0 (grown_trans hg1 hg2), _, _, _, by rw [HC.out.1]; rfl, hR⟩
end Go.Proofs.YtdcobapnlpeaaaaGreat
namespace Go.Proofs.YtdcobapnlpeaaaaGreat
open Go.RowKit
theorem Ints.extA {S : Nat → Prop} {w w' : World} {v : Value} {xs : List Int} (h : Ints S w v xs) (hg : Ext w w') : Ints Any w' v xs := Ints.sub (Ints.ext h hg) (fun _ _ _ => trivial)
end Go.Proofs.YtdcobapnlpeaaaaGreat
namespace Go.Proofs.YtdcobapnlpeaaaaGreat
open Go.RowKit
set_option maxHeartbeats 400000 in
theorem likeInts_ok (v1 v2 : Value) (l1 l2 : List Int) (w : World) (S1 S2 : Nat → Prop) (h1 : Ints S1 w v1 l1) (h2 : Ints S2 w v2 l2) :
  Calls Tryz.prog 26 #[v1, v2] w (Ret w fun _ v => v = .bool (eqB l1 l2)) := by
 obtain ⟨a, cap, rfl, _, _⟩ := h1.shape
 obtain ⟨a2, cap2, rfl, _, _⟩ := h2.shape
 by_cases hl : l1.length = l2.length
 ·have hd : ((l1.length : Int) != (l2.length : Int)) = false := by simp [hl]
  have hl1 : l1.length ≤ l2.length ∧ l2.length ≤ l1.length := by omega
  have HL := Lib.hid hl; clear hl
  go_enter Tryz.func26, Tryz.ntmps26
  go_wp2
  go_loopw [5] (fun i wr => ∃ k : Nat, i = .int .i64 k ∧ k ≤ l1.length ∧ Ext w wr ∧ ∀ i, i < k → gt l1 i = gt l2 i) (fun i _ => l1.length - (intOf i).toNat)
  case atStart => exact ⟨0, rfl, by omega, Ext.refl _, fun i hi => by omega⟩
  case round =>
   obtain ⟨k, rfl, hk, hg, hz⟩ := hrel
   have HZ := Lib.hid hz; clear hz
   by_cases hlt : k < l1.length
   ·obtain ⟨b, off, rfl, _, _, hc⟩ := Ints.at (h1.ext hg) k hlt
    obtain ⟨b2, off2, rfl, _, _, hc2⟩ := Ints.at (h2.ext hg) k (by omega)
    by_cases hx : gt l1 k = gt l2 k
    ·have hb : (gt l1 k != gt l2 k) = false := by simp [hx]
     have hx2 := Lib.hid hx; clear hx
     go_wp2
     go_quiet (fail)
     go_wp2
     go_roundw
     case rel => exact ⟨k + 1, by go_num, by omega, grown_trans hg (grown_drewN _ _ _), fun i hi => by
      rcases Nat.lt_or_ge i k with h1 | h1
      ·exact HZ.out i h1
      ·have : i = k := by omega
       rw [this, hx2.out]⟩
     case measure => simp [intOf]; omega
    ·have hb : (gt l1 k != gt l2 k) = true := by simp [hx]
     have hx2 := Lib.hid hx; clear hx
     go_wp2
     go_quiet (fail)
     go_wp2
     go_ret
     exact ret_bool (grown_trans hg (grown_drewN _ _ _)) (by rw [eqB_false_at (hx := hx2.out)])
   ·go_wp2
    go_ret
    exact ret_bool hg (by rw [eqB_true.2 (ext_gt HL.out (fun i hi => HZ.out i (by omega)))])
 ·have hd : ((l1.length : Int) != (l2.length : Int)) = true := by simp; omega
  have HL := Lib.hid hl; clear hl
  go_enter Tryz.func26, Tryz.ntmps26
  go_wp2
  go_ret
  exact ret_bool (Ext.refl _) (by rw [eqB_false.2 (fun h => HL.out (by rw [h]))])
set_option maxRecDepth 100000 in
set_option maxHeartbeats 2000000 in
theorem like29_ok (v1 v2 : Value) (l1 l2 : List (List Int)) (w : World) (S1 S2 : Nat → Prop) (h1 : Rows2 S1 w v1 l1) (h2 : Rows2 S2 w v2 l2) :
  Calls Tryz.prog 19 #[v1, v2] w (Ret w fun _ v => v = .bool (eqB l1 l2)) := by
 obtain ⟨a, cap, rfl, _, _⟩ := Sl.shape h1
 obtain ⟨a2, cap2, rfl, _, _⟩ := Sl.shape h2
 by_cases hl : l1.length = l2.length
 ·have hd : ((l1.length : Int) != (l2.length : Int)) = false := by simp [hl]
  have hl1 : l1.length ≤ l2.length ∧ l2.length ≤ l1.length := by omega
  have HL := Lib.hid hl; clear hl
  go_enter Tryz.func19, Tryz.ntmps19
  go_wp2
  go_loopw [5] (fun i wr => ∃ k : Nat, i = .int .i64 k ∧ k ≤ l1.length ∧ Ext w wr ∧ ∀ i, i < k → gt l1 i = gt l2 i) (fun i _ => l1.length - (intOf i).toNat)
  case atStart => exact ⟨0, rfl, by omega, Ext.refl _, fun i hi => by omega⟩
  case round =>
   obtain ⟨k, rfl, hk, hg, hz⟩ := hrel
   have HZ := Lib.hid hz; clear hz
   by_cases hlt : k < l1.length
   ·obtain ⟨b, off, x1, c1, rfl, _, _, hc, hi1⟩ := Rows2.at (Rows2.ext h1 hg) k hlt
    obtain ⟨b2, off2, x2, c2, rfl, _, _, hc2, hi2⟩ := Rows2.at (Rows2.ext h2 hg) k (by omega)
    have e1 : ∀ w', Ext wr w' → w'.cell? ⟨b, off + k, none⟩ = some (.slice x1 (gt l1 k).length c1) := fun w' h => h.cell hc (by simp)
    have e2 : ∀ w', Ext wr w' → w'.cell? ⟨b2, off2 + k, none⟩ = some (.slice x2 (gt l2 k).length c2) := fun w' h => h.cell hc2 (by simp)
    clear hc hc2
    have hlt2 : k < l2.length := by omega
    go_wp2
    cases hx : eqB (gt l1 k) (gt l2 k) with
    | true =>
     have hx2 := Lib.hid hx
     go_region_held3 (fun w' => Ext wr w') (first | exact grown_drew _ _ | assumption)
      (first
       | (go_at_call 26; refine Calls.mono (Calls.rel (w0 := wr) (by assumption) (likeInts_ok _ _ _ _ _ Any Any ((Ints.extA hi1 (by assumption))) (Ints.extA hi2 (by assumption)))) ?_; rintro eA wA ⟨vA, rfl, hgA, hsA, rfl⟩))
     clear e1 e2
     go_wp2
     go_roundw
     case rel => exact ⟨k + 1, by go_num, by omega, grown_trans hg hgA, fun i hi => by
      rcases Nat.lt_or_ge i k with h1 | h1
      ·exact HZ.out i h1
      ·have : i = k := by omega
       rw [this]; exact eqB_true.1 hx2.out⟩
     case measure => simp [intOf]; omega
    | false =>
     have hx2 := Lib.hid hx
     go_region_held3 (fun w' => Ext wr w') (first | exact grown_drew _ _ | assumption)
      (first
       | (go_at_call 26; refine Calls.mono (Calls.rel (w0 := wr) (by assumption) (likeInts_ok _ _ _ _ _ Any Any (Ints.extA hi1 (by assumption)) (Ints.extA hi2 (by assumption)))) ?_; rintro eA wA ⟨vA, rfl, hgA, hsA, rfl⟩))
     clear e1 e2
     go_wp2
     go_ret
     exact ret_bool (grown_trans hg hgA) (by rw [eqB_false_at (hx := eqB_false.1 hx2.out)])
   ·go_wp2
    go_ret
    exact ret_bool hg (by rw [eqB_true.2 (ext_gt HL.out (fun i hi => HZ.out i (by omega)))])
 ·have hd : ((l1.length : Int) != (l2.length : Int)) = true := by simp; omega
  have HL := Lib.hid hl; clear hl
  go_enter Tryz.func19, Tryz.ntmps19
  go_wp2
  go_ret
  exact ret_bool (Ext.refl _) (by rw [eqB_false.2 (fun e => HL.out (by rw [e]))])
end Go.Proofs.YtdcobapnlpeaaaaGreat
namespace Go.Proofs.YtdcobapnlpeaaaaGreat
open Go.RowKit
set_option maxRecDepth 100000 in
set_option maxHeartbeats 2000000 in
theorem areElements_ok (Q : Pr) (w : World) (p lv : Value) (L : List (List Int)) (Sp Sl' : Nat → Prop) (hp : PresP Sp w p Q) (hl : Rows2 Sl' w lv L) :
  Calls Tryz.prog 133 #[p, lv] w (Ret w fun _ v => ∃ r : Bool, v = .bool r ∧ (r = true ↔ rconsB Q = true ∧ ∀ x ∈ L, Vec Q.orders x)) := by
 obtain ⟨pb, po, rfl⟩ := hp.shape
 obtain ⟨al, capl, rfl, _, _⟩ := Sl.shape hl
 obtain ⟨vo, vp, vc, _, _, hc0, hc1, hc2, h3⟩ := hp.at
 obtain ⟨ao, capo, rfl, _, _⟩ := h3.o.shape
 obtain ⟨ap, capp, rfl, _, _⟩ := Sl.shape h3.p
 obtain ⟨ac, capc, rfl, _, _⟩ := Sl.shape h3.c
 have hcon := isConsistent_ok Q w (.agg #[.slice ao Q.orders.length capo, .slice ap Q.powers.length capp, .slice ac Q.conj.length capc]) Sp ⟨_, _, _, rfl, h3⟩
 rw [icons_eq] at hcon
 go_enter Tryz.func133, Tryz.ntmps133
 go_wp2_with fail
 refine Calls.mono hcon ?_
 rintro e1 w1 ⟨v, rfl, hg1, rfl⟩
 clear hcon
 cases hq : rconsB Q with
 | false =>
  have HQ := Lib.hid hq; clear hq
  go_wp2
  go_ret
  exact ⟨_, rfl, hg1, false, rfl, by simp only [Bool.false_eq_true, false_iff]; rintro ⟨h, _⟩; rw [HQ.out] at h; cases h⟩
 | true =>
  have G := grp_of_r hq
  have hn6 := G.v.n6
  have HQ := Lib.hid hq; clear hq hc0 hc1 hc2
  go_wp2
  go_loopw [14] (fun jv wr => ∃ j : Nat, jv = .int .i64 j ∧ j ≤ L.length ∧ Ext w wr ∧ Hid (∀ l, l < j → Vec Q.orders (gt L l))) (fun jv _ => L.length - (intOf jv).toNat)
  case atStart => exact ⟨0, rfl, by omega, hg1, Lib.hid (fun j h => by omega)⟩
  case round =>
   obtain ⟨j, rfl, hj, hg, hV⟩ := hrel
   by_cases hjl : j < L.length
   ·have hjl' : (j : Int) < L.length := by omega
    obtain ⟨b3, off3, a3, cap3, rfl, _, _, hc3, hr3⟩ := Rows2.at (Rows2.ext hl hg) j hjl
    have hex := isExponents_ok wr _ _ Q (gt L j) Sp Sl' (hp.ext hg) hr3 (fun i hi => by have := G.v.ord7 i hi; omega)
    cases hb : expB Q.orders (gt L j) with
    | true =>
     rw [hb] at hex
     have HB := Lib.hid (expB_vec.1 hb); clear hb
     go_wp2_with fail
     refine Calls.mono hex ?_
     rintro eE wE ⟨rfl, rfl⟩
     clear hex
     go_wp2
     go_roundw
     case rel => exact ⟨j + 1, by go_num, by omega, hg, Lib.hid (fun l hl => by
      rcases Nat.lt_succ_iff_lt_or_eq.1 hl with h | h
      ·exact hV.out l h
      ·rw [h]; exact HB.out)⟩
     case measure => simp [intOf]; omega
    | false =>
     rw [hb] at hex
     have hno : ¬ ∀ x ∈ L, Vec Q.orders x := fun h => by
      have := expB_vec.2 (h _ (gtMem hjl))
      rw [hb] at this; cases this
     have HB := Lib.hid hno; clear hb hno
     go_wp2_with fail
     refine Calls.mono hex ?_
     rintro eE wE ⟨rfl, rfl⟩
     clear hex
     go_wp2
     go_ret
     exact ⟨_, rfl, hg, false, rfl, by simp only [Bool.false_eq_true, false_iff]; rintro ⟨_, h⟩; exact HB.out h⟩
   ·have hke : j = L.length := by omega
    subst hke
    go_wp2
    go_ret
    exact ⟨_, rfl, hg, true, rfl, by
     simp only [true_iff]
     refine ⟨HQ.out, fun x hx => ?_⟩
     obtain ⟨l, hl, rfl⟩ := List.getElem_of_mem hx
     rw [← gt_eq L l hl]; exact hV.out l hl⟩
end Go.Proofs.YtdcobapnlpeaaaaGreat
namespace Go.Proofs.YtdcobapnlpeaaaaGreat
open Go.RowKit
theorem rowsE2 {w : World} {v1 v2 : Value} {l1 l2 : List Int} {S1 S2 : Nat → Prop} (h1 : Ints S1 w v1 l1) (h2 : Ints S2 w v2 l2) : Rows2 Any (w.alloc (.cells #[v1, v2] 24)) (.slice (some ⟨w.heap.size, 0, none⟩) 2 2) [l1, l2] := by
 have hg : Ext w (w.alloc (.cells #[v1, v2] 24)) := World.grownBy_alloc _ _ _
 refine ⟨_, 2, rfl, ⟨by simp, by simp, fun h => by cases h⟩, fun i hi => ?_⟩
 have : i = 0 ∨ i = 1 := by simp at hi; omega
 rcases this with rfl | rfl
 ·exact ⟨w.heap.size, 0, v1, rfl, trivial, by simp, by rw [World.cell?_alloc_at _ _ _ _ rfl]; rfl, Ints.sub (Ints.ext h1 hg) (fun _ _ _ => trivial)⟩
 ·exact ⟨w.heap.size, 0, v2, rfl, trivial, by simp, by rw [World.cell?_alloc_at _ _ _ _ rfl]; rfl, Ints.sub (Ints.ext h2 hg) (fun _ _ _ => trivial)⟩
set_option maxRecDepth 100000 in
set_option maxHeartbeats 4000000 in
theorem iMulE_ok (P : Pr) (hr : rconsB P = true) (w : World) (pv xv yv : Value) (X Y : List Int) (Sp Sx Sy : Nat → Prop) (hpv : PresV Sp w pv P) (hx : Ints Sx w xv X) (hy : Ints Sy w yv Y) (hX : Vec P.orders X) (hY : Vec P.orders Y) :
  Calls Tryz.prog 121 #[pv, xv, yv] w (Ret w fun w' v => ∃ a n c, v = .tuple #[.slice a n c, .int .i64 0] ∧ Own w.heap.size w' (.slice a n c) (rMul P X Y)) := by
 have G := grp_of_r hr
 have hn6 := G.v.n6
 obtain ⟨vo, vp, vc, rfl, h3⟩ := hpv
 have hp0 := PresP.box h3 28
 have hg0 : Ext w (w.alloc (.cells #[vo, vp, vc] 28)) := World.grownBy_alloc _ _ _
 have hs0 : (w.alloc (.cells #[vo, vp, vc] 28)).heap.size = w.heap.size + 1 := by simp
 have hx0 := Ints.ext hx hg0
 obtain ⟨ax, capx, rfl, _, _⟩ := hx.shape
 have hy0 := Ints.ext hy hg0
 obtain ⟨ay, capy, rfl, _, _⟩ := hy.shape
 have hg1 : Ext (w.alloc (.cells #[vo, vp, vc] 28)) ((w.alloc (.cells #[vo, vp, vc] 28)).alloc (.cells #[.slice ax X.length capx, .slice ay Y.length capy] 24)) := World.grownBy_alloc _ _ _
 have hl := rowsE2 hx0 hy0
 have hcon := areElements_ok P _ _ _ [X, Y] Any Any (hp0.ext hg1) hl
 rw [hs0] at hcon
 clear hl hx hy
 have HH := Lib.hid (And.intro hr (And.intro hX ( And.intro hY ((trivial : True))))); clear hr hX hY
 go_enter Tryz.func121, Tryz.ntmps121
 go_wp2_with fail
 refine Calls.mono hcon ?_
 rintro e1 w1 ⟨v1, rfl, hgA, r1, rfl, hr1⟩
 clear hcon
 obtain rfl : r1 = true := hr1.2 (by have := HH.out; simp only [List.mem_cons, List.mem_nil_iff, or_false]; exact ⟨this.1, fun u hu => by rcases hu with rfl | rfl; exact this.2.1; exact this.2.2.1⟩)
 clear hr1
 have hg01 := grown_trans hg1 hgA
 have HS := Lib.hid hs0; clear hs0
 generalize hw0 : (w.alloc (.cells #[vo, vp, vc] 28)) = w0 at *
 clear hw0 hg1 hgA
 have hp1 := hp0.ext hg01
 have hx1 := Ints.ext hx0 hg01
 have hy1 := Ints.ext hy0 hg01
 go_wp2_with fail
 refine Calls.mono (multiply_ok P G.v w1 _ _ _ X Y Any Sx Sy hp1 hx1 hy1 HH.out.2.1 HH.out.2.2.1) ?_
 rintro e2 w2 ⟨v2, rfl, hg2, hO⟩
 rw [G.tv_eq HH.out.2.1 HH.out.2.2.1] at hO
 obtain ⟨ad, nd, capd, hvd⟩ : ∃ a n c, v2 = Value.slice a n c := by obtain ⟨a, c, e, _⟩ := (hO.ints (by rw [(G.mulV HH.out.2.1 HH.out.2.2.1).1]; omega)).shape; exact ⟨_, _, _, e⟩
 subst hvd
 go_wp2
 go_ret2
 exact ⟨_, rfl, grown_trans hg0 (grown_trans hg01 hg2), _, _, _, rfl, hO.weak (by have := hg01.size; have := hg0.size; omega)⟩
set_option maxRecDepth 100000 in
set_option maxHeartbeats 4000000 in
theorem iComE_ok (P : Pr) (hr : rconsB P = true) (w : World) (pv xv yv : Value) (X Y : List Int) (Sp Sx Sy : Nat → Prop) (hpv : PresV Sp w pv P) (hx : Ints Sx w xv X) (hy : Ints Sy w yv Y) (hX : Vec P.orders X) (hY : Vec P.orders Y) :
  Calls Tryz.prog 36 #[pv, xv, yv] w (Ret w fun w' v => ∃ a n c, v = .tuple #[.slice a n c, .int .i64 0] ∧ Own w.heap.size w' (.slice a n c) (comR P X Y)) := by
 have G := grp_of_r hr
 have hn6 := G.v.n6
 obtain ⟨vo, vp, vc, rfl, h3⟩ := hpv
 have hp0 := PresP.box h3 28
 have hg0 : Ext w (w.alloc (.cells #[vo, vp, vc] 28)) := World.grownBy_alloc _ _ _
 have hs0 : (w.alloc (.cells #[vo, vp, vc] 28)).heap.size = w.heap.size + 1 := by simp
 have hx0 := Ints.ext hx hg0
 obtain ⟨ax, capx, rfl, _, _⟩ := hx.shape
 have hy0 := Ints.ext hy hg0
 obtain ⟨ay, capy, rfl, _, _⟩ := hy.shape
 have hg1 : Ext (w.alloc (.cells #[vo, vp, vc] 28)) ((w.alloc (.cells #[vo, vp, vc] 28)).alloc (.cells #[.slice ax X.length capx, .slice ay Y.length capy] 24)) := World.grownBy_alloc _ _ _
 have hl := rowsE2 hx0 hy0
 have hcon := areElements_ok P _ _ _ [X, Y] Any Any (hp0.ext hg1) hl
 rw [hs0] at hcon
 clear hl hx hy
 have HH := Lib.hid (And.intro hr (And.intro hX ( And.intro hY ((trivial : True))))); clear hr hX hY
 go_enter Tryz.func36, Tryz.ntmps36
 go_wp2_with fail
 refine Calls.mono hcon ?_
 rintro e1 w1 ⟨v1, rfl, hgA, r1, rfl, hr1⟩
 clear hcon
 obtain rfl : r1 = true := hr1.2 (by have := HH.out; simp only [List.mem_cons, List.mem_nil_iff, or_false]; exact ⟨this.1, fun u hu => by rcases hu with rfl | rfl; exact this.2.1; exact this.2.2.1⟩)
 clear hr1
 have hg01 := grown_trans hg1 hgA
 have HS := Lib.hid hs0; clear hs0
 generalize hw0 : (w.alloc (.cells #[vo, vp, vc] 28)) = w0 at *
 clear hw0 hg1 hgA
 have hp1 := hp0.ext hg01
 have hx1 := Ints.ext hx0 hg01
 have hy1 := Ints.ext hy0 hg01
 go_wp2_with fail
 refine Calls.mono (commutator_ok P G w1 _ _ _ X Y Any Sx Sy hp1 hx1 hy1 HH.out.2.1 HH.out.2.2.1) ?_
 rintro e2 w2 ⟨v2, rfl, hg2, hO⟩
 change Own _ _ _ (comR P X Y) at hO
 obtain ⟨ad, nd, capd, hvd⟩ : ∃ a n c, v2 = Value.slice a n c := by obtain ⟨a, c, e, _⟩ := (hO.ints (by rw [(show Vec P.orders (comR P X Y) from G.mulV (G.invV (G.mulV HH.out.2.2.1 HH.out.2.1)) (G.mulV HH.out.2.1 HH.out.2.2.1)).1]; omega)).shape; exact ⟨_, _, _, e⟩
 subst hvd
 go_wp2
 go_ret2
 exact ⟨_, rfl, grown_trans hg0 (grown_trans hg01 hg2), _, _, _, rfl, hO.weak (by have := hg01.size; have := hg0.size; omega)⟩
end Go.Proofs.YtdcobapnlpeaaaaGreat
namespace Go.Proofs.YtdcobapnlpeaaaaGreat
open Go.RowKit
attribute [local go_sem ↓] Go.wp_at_zero Go.wp_at_succ
set_option maxRecDepth 100000 in
set_option maxHeartbeats 8000000 in
theorem lawCm_ok (w : World) (cv : Value) (bs : List Int) (S : Nat → Prop) (hb : Bytes S w cv bs) :
  Calls Tryz.prog 5 #[cv] w (Ret w fun _ v => v = .bool true) := by
 obtain ⟨ca, cc, rfl, _, _⟩ := Sl.shape hb
 go_enter Tryz.func5, Tryz.ntmps5
 go_wp2_with fail
 refine Calls.mono (big_ok w _ bs S hb) ?_
 rintro _ _ ⟨rfl, rfl⟩
 by_cases hbg : 4096 < bs.length
 ·have hd : decide (4096 < bs.length) = true := by simp [hbg]
  rw [hd]
  go_wp2
  go_ret
  exact ⟨_, rfl, grown_refl _ _, rfl⟩
 have hbl : bs.length ≤ 4096 := by omega
 have hd : decide (4096 < bs.length) = false := by simp [hbg]
 rw [hd]; clear hd hbg
 go_wp2_with fail
 refine Calls.mono (DrawCommutatorSubgroup_ok w _ bs S hb) ?_
 rintro e1 w1 ⟨v1, rfl, hg1, vo, vp, vc, rv, sv, P, rfl, hPl, hP, ⟨U, _, _, hU⟩, ⟨V, _, _, hV⟩⟩
 obtain ⟨a1, n1, c1, hy1⟩ : ∃ a n c, vo = .slice a n c := by obtain ⟨a, c, e, _⟩ := hP.o.shape; exact ⟨_, _, _, e⟩
 obtain ⟨a2, n2, c2, hy2⟩ : ∃ a n c, vp = .slice a n c := by obtain ⟨a, c, e, _⟩ := Sl.shape hP.p; exact ⟨_, _, _, e⟩
 obtain ⟨a3, n3, c3, hy3⟩ : ∃ a n c, vc = .slice a n c := by obtain ⟨a, c, e, _⟩ := Sl.shape hP.c; exact ⟨_, _, _, e⟩
 subst hy1 hy2 hy3
 obtain ⟨ra, rn, rc, hrr⟩ : ∃ a n c, rv = .slice a n c := by obtain ⟨a, c, e, _⟩ := Sl.shape hU; exact ⟨_, _, _, e⟩
 subst hrr
 obtain ⟨sa, sn, sc, hrs⟩ : ∃ a n c, sv = .slice a n c := by obtain ⟨a, c, e, _⟩ := Sl.shape hV; exact ⟨_, _, _, e⟩
 subst hrs
 have hgX : Ext w1 (w1.alloc (.cells #[.slice a1 n1 c1, .slice a2 n2 c2, .slice a3 n3 c3] 28)) := World.grownBy_alloc _ _ _
 have hX := Box3.made w1 28 (.slice a1 n1 c1) (.slice a2 n2 c2) (.slice a3 n3 c3)
 have hPX := hP.ext hgX
 have hUX := Rows2.ext hU hgX
 have hVX := Rows2.ext hV hgX
 have hgw := grown_trans hg1 hgX
 have hbX := Bytes.ext hb hgw
 have HA0 := Lib.hid (And.intro hPX (And.intro hUX (And.intro hVX (And.intro hgw hbX)))); clear hPX hUX hVX hgw hbX hgX hP hU hV hg1 hb
 obtain ⟨pb, hpb⟩ : ∃ pb, pb = w1.heap.size := ⟨_, rfl⟩
 rw [← hpb] at hX
 have HP := Lib.hid hpb; clear hpb
 go_wp2_with fail
 rw [← HP.out]
 generalize w1.alloc (.cells #[.slice a1 n1 c1, .slice a2 n2 c2, .slice a3 n3 c3] 28) = w2 at *
 clear HP
 have hall : ∀ w', Ext w2 w' → Box3 w' pb (.slice a1 n1 c1) (.slice a2 n2 c2) (.slice a3 n3 c3) ∧ PresV (From w.heap.size) w' (.agg #[.slice a1 n1 c1, .slice a2 n2 c2, .slice a3 n3 c3]) P ∧ Rows2 (From w.heap.size) w' (.slice ra rn rc) U ∧ Rows2 (From w.heap.size) w' (.slice sa sn sc) V ∧ Bytes S w' (.slice ca bs.length cc) bs :=
  fun w' h => ⟨hX.ext h, ⟨_, _, _, rfl, HA0.out.1.ext h⟩, Rows2.ext HA0.out.2.1 h, Rows2.ext HA0.out.2.2.1 h, Bytes.ext HA0.out.2.2.2.2 h⟩
 have HA := Lib.hid hall; clear hall hX
 have hgw := grown_refl w2 none
 obtain ⟨b0_, b1_, b2_, b3_, _⟩ := id (HA.out w2 hgw).1
 go_wp2_with fail
 clear b0_ b1_ b2_ b3_
 refine Calls.mono (iComm_ok P w2 _ _ _ U V _ _ _ (HA.out w2 hgw).2.1 (HA.out w2 hgw).2.2.1 (HA.out w2 hgw).2.2.2.1) ?_
 rintro e3 w3 ⟨v3, rfl, hg_, ma, mn, mc, rfl, hC_⟩
 replace hgw := grown_trans hgw hg_
 have hlC := cmLs_len P U V
 have hCr : Rows2 Any w3 (.slice ma mn mc) (cmLs P U V) := Rows2.sub (RowsD.rows (SlO.toD hC_ (by omega))) (fun _ _ _ => trivial)
 have hCx : ∀ w', Ext w3 w' → Rows2 Any w' (.slice ma mn mc) (cmLs P U V) := fun w' h => Rows2.ext hCr h
 have HC := Lib.hid hCx; clear hCr hCx
 have hgC := grown_refl w3 none
 clear hC_ hlC
 clear hg_
 obtain ⟨b0_, b1_, b2_, b3_, _⟩ := id (HA.out w3 hgw).1
 go_wp2_with fail
 clear b0_ b1_ b2_ b3_
 refine Calls.mono (sComm_ok P w3 _ _ _ U V _ _ _ (HA.out w3 hgw).2.1 (HA.out w3 hgw).2.2.1 (HA.out w3 hgw).2.2.2.1) ?_
 rintro e4 w4 ⟨v4, rfl, hg_, ta, tn, tc, rfl, hT_⟩
 replace hgw := grown_trans hgw hg_
 replace hgC := grown_trans hgC hg_
 have hTr : Rows2 Any w4 (.slice ta tn tc) (cmLs P U V) := hT_
 have hTx : ∀ w', Ext w4 w' → Rows2 Any w' (.slice ta tn tc) (cmLs P U V) := fun w' h => Rows2.ext hTr h
 have HT := Lib.hid hTx; clear hTr hTx
 have hgT := grown_refl w4 none
 clear hT_
 clear hg_
 go_wp2_with fail
 refine Calls.mono (like29_ok _ _ (cmLs P U V) (cmLs P U V) w4 Any Any (HC.out w4 hgC) (HT.out w4 hgT)) ?_
 rintro e5 w5 ⟨v5, rfl, hg_, rfl⟩
 replace hgw := grown_trans hgw hg_
 replace hgC := grown_trans hgC hg_
 replace hgT := grown_trans hgT hg_
 rw [show eqB (cmLs P U V) (cmLs P U V) = true from eqB_true.2 rfl]
 clear HT hgT
 clear hg_
 by_cases h1 : twoOk P U V
 case neg =>
  rw [(two_bad h1).1]
  go_wp2
  go_ret
  exact ⟨_, rfl, grown_trans HA0.out.2.2.2.1 hgw, rfl⟩
 have hr := h1.1
 have G := grp_of_r hr
 have hn6 := G.v.n6
 have SC := G.cm_sub h1.2.1.1 h1.2.2.1
 have h2 : twoOk P V U := ⟨h1.1, h1.2.2, h1.2.1⟩
 have e2 : cmLs P V U = cseq P (cmP P U V) := by rw [cm_ok h2, G.cm_comm h1.2.1.1 h1.2.2.1]
 have hlC : (cseq P (cmP P U V)).length ≤ P.orders.length := G.cseq_len SC
 have eC : gU P (cseq P (cmP P U V)) = cmP P U V := G.genP_cseq SC
 have BC := G.subB_cseq SC
 rw [(two_ok h1).1]
 rw [cm_ok h1] at HC
 have HH := Lib.hid (And.intro SC (And.intro h2 (And.intro e2 (And.intro hlC (And.intro eC BC))))); clear SC h2 e2 hlC eC BC
 obtain ⟨b0_, b1_, b2_, b3_, _⟩ := id (HA.out w5 hgw).1
 go_wp2_with fail
 clear b0_ b1_ b2_ b3_
 refine Calls.mono (iComm_ok P w5 _ _ _ V U _ _ _ (HA.out w5 hgw).2.1 (HA.out w5 hgw).2.2.2.1 (HA.out w5 hgw).2.2.1) ?_
 rintro e6 w6 ⟨v6, rfl, hg_, da, dn, dc, rfl, hD_⟩
 replace hgw := grown_trans hgw hg_
 replace hgC := grown_trans hgC hg_
 rw [(two_ok HH.out.2.1).1]
 rw [HH.out.2.2.1] at hD_
 have hDr : Rows2 Any w6 (.slice da dn dc) (cseq P (cmP P U V)) := Rows2.sub (RowsD.rows (SlO.toD hD_ (by have := HH.out.2.2.2.1; omega))) (fun _ _ _ => trivial)
 have hDx : ∀ w', Ext w6 w' → Rows2 Any w' (.slice da dn dc) (cseq P (cmP P U V)) := fun w' h => Rows2.ext hDr h
 have HD := Lib.hid hDx; clear hDr hDx
 have hgD := grown_refl w6 none
 clear hD_
 clear hg_
 go_wp2_with fail
 refine Calls.mono (like29_ok _ _ _ _ w6 Any Any (HC.out w6 hgC) (HD.out w6 hgD)) ?_
 rintro e7 w7 ⟨v7, rfl, hg_, rfl⟩
 replace hgw := grown_trans hgw hg_
 replace hgC := grown_trans hgC hg_
 replace hgD := grown_trans hgD hg_
 rw [show eqB (cseq P (cmP P U V)) (cseq P (cmP P U V)) = true from eqB_true.2 rfl]
 clear HD hgD
 clear hg_
 obtain ⟨nU, hnU⟩ : ∃ nU, nU = rn := ⟨_, rfl⟩
 have hlU : rn = U.length := by obtain ⟨a, c, e, _⟩ := Sl.shape (HA.out w7 hgw).2.2.1; injection e
 have hlV : sn = V.length := by obtain ⟨a, c, e, _⟩ := Sl.shape (HA.out w7 hgw).2.2.2.1; injection e
 subst hlU hlV
 clear hnU nU
 go_wp2
 go_loopw [12] (fun iv wr => ∃ i : Nat, iv = .int .i64 i ∧ i ≤ U.length ∧ Ext w7 wr) (fun iv _ => U.length - (intOf iv).toNat)
 case atStart => exact ⟨0, rfl, by omega, grown_refl _ _⟩
 case round =>
  obtain ⟨i, rfl, hi, hgk⟩ := hrel
  obtain ⟨w8, rfl⟩ : ∃ wN : World, wN = wr := ⟨_, rfl⟩
  replace hgw := grown_trans hgw hgk
  replace hgC := grown_trans hgC hgk
  have hgo := hgk
  by_cases hlt : i < U.length
  case neg =>
   have hie : i = U.length := by omega
   go_wp2
   go_ret
   exact ⟨_, rfl, grown_trans HA0.out.2.2.2.1 hgw, rfl⟩
  have hlt' : (i : Int) < U.length := by omega
  obtain ⟨xb, xo, xa, xc, rfl, _, _, hxc, hx⟩ := Rows2.at (HA.out w8 hgw).2.2.1 i hlt
  have hxx : ∀ w', Ext w8 w' → w'.cell? ⟨xb, xo + i, none⟩ = some (.slice xa (gt U i).length xc) ∧ Ints Any w' (.slice xa (gt U i).length xc) (gt U i) := fun w' h => ⟨h.cell hxc (by simp), Ints.sub (Ints.ext hx h) (fun _ _ _ => trivial)⟩
  have HX := Lib.hid hxx; clear hxx hxc hx
  have hgx := grown_refl w8 none
  have hxV : Vec P.orders (gt U i) := h1.2.1.1 _ (gtMem hlt)
  have hxm : gt U i ∈ U ++ V := List.mem_append_left _ (gtMem hlt)
  have hcj : gU P (conjL P (cseq P (cmP P U V)) (gt U i)) = cmP P U V := by
   rw [show gU P (conjL P (cseq P (cmP P U V)) (gt U i)) = cjS P (cmP P U V) (gt U i) from G.genP_conjL HH.out.1 hxV]
   exact G.cm_norm h1.2.1.1 h1.2.2.1 hxm
  have HV := Lib.hid (And.intro hxV hcj); clear hxV hcj hxm
  have f1_ : ∀ w', Ext w8 w' → w'.cell? ⟨pb, 0, none⟩ = some (.slice a1 n1 c1) := fun w' h => (HA.out w' (grown_trans hgw h)).1.2.1
  have f2_ : ∀ w', Ext w8 w' → w'.cell? ⟨pb, 1, none⟩ = some (.slice a2 n2 c2) := fun w' h => (HA.out w' (grown_trans hgw h)).1.2.2.1
  have f3_ : ∀ w', Ext w8 w' → w'.cell? ⟨pb, 2, none⟩ = some (.slice a3 n3 c3) := fun w' h => (HA.out w' (grown_trans hgw h)).1.2.2.2.1
  have f4_ : ∀ w', Ext w8 w' → w'.cell? ⟨xb, xo + i, none⟩ = some (.slice xa (gt U i).length xc) := fun w' h => (HX.out w' h).1
  go_wp2
  go_region_held3 (fun w' => Ext w8 w') (first | exact grown_drew _ _ | assumption)
   (first
    | (go_at_call 35; refine Calls.mono (Calls.rel (w0 := w8) (by assumption) (iConjSub_ok P hr _ _ _ _ (cseq P (cmP P U V)) (gt U i) _ _ _ (HA.out _ (grown_trans hgw (by assumption))).2.1 (HC.out _ (grown_trans hgC (by assumption))) (HX.out _ (by assumption)).2 HH.out.2.2.2.2.2 HV.out.1)) ?_; rintro e9 w9 ⟨v9, rfl, hg_, _, va, vn, vc0, rfl, hM_⟩))
  clear f1_ f2_ f3_ f4_
  replace hgw := grown_trans hgw hg_
  replace hgC := grown_trans hgC hg_
  replace hgx := grown_trans hgx hg_
  replace hgo := grown_trans hgo hg_
  rw [HV.out.2] at hM_
  have hMr : Rows2 Any w9 (.slice va vn vc0) (cseq P (cmP P U V)) := Rows2.sub (RowsD.rows (SlO.toD hM_ (by have := HH.out.2.2.2.1; omega))) (fun _ _ _ => trivial)
  have hMx : ∀ w', Ext w9 w' → Rows2 Any w' (.slice va vn vc0) (cseq P (cmP P U V)) := fun w' h => Rows2.ext hMr h
  have HM := Lib.hid hMx; clear hMr hMx
  have hgM := grown_refl w9 none
  clear hM_
  clear hg_
  go_wp2_with fail
  refine Calls.mono (like29_ok _ _ _ _ w9 Any Any (HM.out w9 hgM) (HC.out w9 hgC)) ?_
  rintro e10 w10 ⟨v10, rfl, hg_, rfl⟩
  replace hgw := grown_trans hgw hg_
  replace hgC := grown_trans hgC hg_
  replace hgx := grown_trans hgx hg_
  replace hgo := grown_trans hgo hg_
  replace hgM := grown_trans hgM hg_
  rw [show eqB (cseq P (cmP P U V)) (cseq P (cmP P U V)) = true from eqB_true.2 rfl]
  clear HM hgM
  clear hg_
  go_wp2
  go_loopw [15] (fun jv wr => ∃ j : Nat, jv = .int .i64 j ∧ j ≤ V.length ∧ Ext w10 wr) (fun jv _ => V.length - (intOf jv).toNat)
  case atStart => exact ⟨0, rfl, by omega, grown_refl _ _⟩
  case round =>
   obtain ⟨j, rfl, hj, hgk⟩ := hrel
   obtain ⟨w11, rfl⟩ : ∃ wN : World, wN = wr := ⟨_, rfl⟩
   replace hgw := grown_trans hgw hgk
   replace hgC := grown_trans hgC hgk
   replace hgx := grown_trans hgx hgk
   replace hgo := grown_trans hgo hgk
   have hgi := hgk
   by_cases hltj : j < V.length
   case neg =>
    have hje : j = V.length := by omega
    go_wp2
    go_roundw
    case rel => exact ⟨i + 1, by go_num, by omega, hgo⟩
    case measure => simp [intOf]; omega
   have hltj' : (j : Int) < V.length := by omega
   obtain ⟨yb, yo, ya, yc, rfl, _, _, hyc, hy⟩ := Rows2.at (HA.out w11 hgw).2.2.2.1 j hltj
   have hyx : ∀ w', Ext w11 w' → w'.cell? ⟨yb, yo + j, none⟩ = some (.slice ya (gt V j).length yc) ∧ Ints Any w' (.slice ya (gt V j).length yc) (gt V j) := fun w' h => ⟨h.cell hyc (by simp), Ints.sub (Ints.ext hy h) (fun _ _ _ => trivial)⟩
   have hyV : Vec P.orders (gt V j) := h1.2.2.1 _ (gtMem hltj)
   have hmem : cmP P U V (comR P (gt U i) (gt V j)) := cm_mem (gtMem hlt) (gtMem hltj)
   have HW := Lib.hid (And.intro hyV hmem)
   have HY := Lib.hid hyx; clear hyV hmem hy hyx hyc
   have f1_ : ∀ w', Ext w11 w' → w'.cell? ⟨pb, 0, none⟩ = some (.slice a1 n1 c1) := fun w' h => (HA.out w' (grown_trans hgw h)).1.2.1
   have f2_ : ∀ w', Ext w11 w' → w'.cell? ⟨pb, 1, none⟩ = some (.slice a2 n2 c2) := fun w' h => (HA.out w' (grown_trans hgw h)).1.2.2.1
   have f3_ : ∀ w', Ext w11 w' → w'.cell? ⟨pb, 2, none⟩ = some (.slice a3 n3 c3) := fun w' h => (HA.out w' (grown_trans hgw h)).1.2.2.2.1
   have f4_ : ∀ w', Ext w11 w' → w'.cell? ⟨xb, xo + i, none⟩ = some (.slice xa (gt U i).length xc) := fun w' h => (HX.out w' (grown_trans hgx h)).1
   have f5_ : ∀ w', Ext w11 w' → w'.cell? ⟨yb, yo + j, none⟩ = some (.slice ya (gt V j).length yc) := fun w' h => (HY.out w' h).1
   go_wp2
   go_region_held3 (fun w' => Ext w11 w') (first | exact grown_drew _ _ | assumption)
    (first
     | (go_at_call 36; refine Calls.mono (Calls.rel (w0 := w11) (by assumption) (iComE_ok P hr _ _ _ _ (gt U i) (gt V j) _ _ _ (HA.out _ (grown_trans hgw (by assumption))).2.1 (HX.out _ (grown_trans hgx (by assumption))).2 (HY.out _ (by assumption)).2 HV.out.1 HW.out.1)) ?_; rintro e12 w12 ⟨v12, rfl, hg_, _, za, zn, zc, rfl, hZ_⟩))
   clear f1_ f2_ f3_ f4_ f5_
   replace hgw := grown_trans hgw hg_
   replace hgC := grown_trans hgC hg_
   replace hgx := grown_trans hgx hg_
   replace hgo := grown_trans hgo hg_
   replace hgi := grown_trans hgi hg_
   have hZI := hZ_.ints (by rw [(G.comV HV.out.1 HW.out.1).1]; omega)
   clear hZ_ HY
   clear hg_
   obtain ⟨b0_, b1_, b2_, b3_, _⟩ := id (HA.out w12 hgw).1
   go_wp2_with fail
   clear b0_ b1_ b2_ b3_
   refine Calls.mono (iMember_ok P hr w12 _ _ _ (cseq P (cmP P U V)) _ _ _ _ (HA.out w12 hgw).2.1 (HC.out w12 hgC) hZI HH.out.2.2.2.2.2 (G.comV HV.out.1 HW.out.1)) ?_
   rintro e13 w13 ⟨v13, rfl, hg_, r_, rfl, hr_⟩
   replace hgw := grown_trans hgw hg_
   replace hgC := grown_trans hgC hg_
   replace hgx := grown_trans hgx hg_
   replace hgo := grown_trans hgo hg_
   replace hgi := grown_trans hgi hg_
   obtain rfl : r_ = true := hr_.2 (by rw [HH.out.2.2.2.2.1]; exact HW.out.2)
   clear hr_ hZI
   clear hg_
   go_wp2
   go_roundw
   case rel => exact ⟨j + 1, by go_num, by omega, hgi⟩
   case measure => simp [intOf]; omega
end Go.Proofs.YtdcobapnlpeaaaaGreat
