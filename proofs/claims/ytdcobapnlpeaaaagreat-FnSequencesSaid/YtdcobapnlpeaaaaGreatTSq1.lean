/-
  Lists of lists that a call builds by append, none of whose blocks is in A (a map that is written beside them).
  cmp.Compare at int64 and slices.Compare at []int64.
  The order of slices.Compare is a total order on lists of integers. Plain.
  Plain: the list of products, element by element (for impl.elementsOf).
  The reference's list of the elements of a subgroup: spec.l12Product, l12Elements.
  Drawing: spec.DrawGeneratedSubgroup (printed by gen_drawgs.py).
  impl.areElements.
  append of a row that lay there before: the list takes it out of the set of blocks that it avoids.
  [][]int64{row} as a list of the call's own.
  The library's sort at [][]int64, laid from the shelf.
  A row that the call has built, sorted by the library: any elements of one cell. (After the library's Sort/OwnSortedInts, at a general reading.)
  impl.elementsOf.
  Small things of the subgroup statements.
  GeneratedSubgroup on both sides.
  SubgroupElements on both sides.
  slices.Grow at rows, laid from the shelf.
  What the program's public subgroup functions answer on subgroups (printed by gen_auxw.py).
  laws.roll, below, draw9: numbers that follow from the bytes.
  laws.roll and below: the dice's bytes lie in a set of blocks (printed by gen_rollx.py).
  impl.Multiply, Inverse, Commutator on elements (printed by gen_elw.py).
  impl.MemberExponents, MemberElement on members of a subgroup; laws.mul9, inv9 (printed by gen_mex2.py).
  Plain: the elements of a consistent presentation as a type with products; subgroups, cosets, their counting.
  Plain: sizes of subgroups: the size of one divides that of a greater one; the equations of the law of product sets.
  laws.FnSequences answers true (printed by gen_lsq.py).
-/
import Derived.Test.YtdcobapnlpeaaaaGreatK9
import Derived.Test.YtdcobapnlpeaaaaGreatK1
import Derived.Test.YtdcobapnlpeaaaaGreatK2
import Derived.Test.YtdcobapnlpeaaaaGreatK3
import Derived.Test.YtdcobapnlpeaaaaGreatK4
import Derived.Test.YtdcobapnlpeaaaaGreatK5
import Derived.Test.YtdcobapnlpeaaaaGreatK6
import Derived.Test.YtdcobapnlpeaaaaGreatK7
import Derived.Test.YtdcobapnlpeaaaaGreatK8
import Derived.Laws.BitsAllLaws
import Derived.Maps.OwnSet
import Derived.Maps.StringElems
import Derived.StringKeys
import Derived.Shelf.SlSortCmp.NoneTotal
import Derived.Sort.OwnSortedInts
import Derived.Shelf.Spec.SlicesGrow
import Derived.StillTailTactics
namespace Go.Proofs.YtdcobapnlpeaaaaGreat
open Go.RowKit
def SlOA {α : Type} [Inhabited α] (El : (Nat → Prop) → World → Value → α → Prop) (E B : Nat) (A : Nat → Prop) (w : World) (v : Value) (xs : List α) : Prop :=
 ∃ (vs : List Value) (G : Nat → Nat → Prop), vs.length = xs.length ∧ OwnV B E w v vs ∧ (∀ i k, i < xs.length → G i k → B ≤ k ∧ v.ownBlock ≠ some k ∧ k < w.heap.size) ∧
  (∀ i j k, i < xs.length → j < xs.length → G i k → G j k → i = j) ∧ (∀ i, i < xs.length → El (G i) w (gt vs i) (gt xs i)) ∧ (∀ i k, i < xs.length → G i k → ¬ A k) ∧ ∀ k, v.ownBlock = some k → ¬ A k
theorem SlOA.o {α : Type} [Inhabited α] {El : (Nat → Prop) → World → Value → α → Prop} {E B : Nat} {A : Nat → Prop} {w : World} {v : Value} {xs : List α} (h : SlOA El E B A w v xs) : SlO El E B w v xs := by
 obtain ⟨vs, G, h1, h2, h3, h4, h5, _⟩ := h
 exact ⟨vs, G, h1, h2, h3, h4, h5⟩
theorem SlOA.ext {α : Type} [Inhabited α] {El : (Nat → Prop) → World → Value → α → Prop} (hEl : RdOk El) {E B : Nat} {A : Nat → Prop} {w w' : World} {v : Value} {xs : List α} (h : SlOA El E B A w v xs) (hg : Ext w w') : SlOA El E B A w' v xs := by
 obtain ⟨vs, G, hvl, hO, hG, hd, hE, hr⟩ := h
 refine ⟨vs, G, hvl, hO.kept hg (by cases hv : v.ownBlock <;> simp), fun i k hi hk => ?_, hd, fun i hi => hEl.mono (hE i hi) (fun k hk hlt => ⟨hk, Nat.lt_of_lt_of_le hlt hg.size, hg.block k hlt (by simp)⟩), hr⟩
 obtain ⟨a, b, c⟩ := hG i k hi hk
 exact ⟨a, b, Nat.lt_of_lt_of_le c hg.size⟩
theorem SlOA.more {α : Type} [Inhabited α] {El : (Nat → Prop) → World → Value → α → Prop} {E B : Nat} {A A' : Nat → Prop} {w : World} {v : Value} {xs : List α} (h : SlOA El E B A w v xs) (hA : ∀ k, A' k → A k ∨ w.heap.size ≤ k) : SlOA El E B A' w v xs := by
 obtain ⟨vs, G, h1, h2, h3, h4, h5, h6, h7⟩ := h
 refine ⟨vs, G, h1, h2, h3, h4, h5, fun i k hi hk ha => ?_, fun k hk ha => ?_⟩
 ·rcases hA k ha with h | h
  ·exact h6 i k hi hk h
  ·have := (h3 i k hi hk).2.2; omega
 ·rcases hA k ha with h | h
  ·exact h7 k hk h
  ·have := (h2.lt k hk).2; omega
theorem SlOA.less {α : Type} [Inhabited α] {El : (Nat → Prop) → World → Value → α → Prop} {E B : Nat} {A A' : Nat → Prop} {w : World} {v : Value} {xs : List α} (h : SlOA El E B A w v xs) (hA : ∀ k, A' k → A k) : SlOA El E B A' w v xs :=
 h.more fun k hk => .inl (hA k hk)
theorem SlOA.avoids {α : Type} [Inhabited α] {El : (Nat → Prop) → World → Value → α → Prop} {E B : Nat} {A : Nat → Prop} {w : World} {v : Value} {xs : List α} (h : SlOA El E B A w v xs) (k : Nat) (hk : v.ownBlock = some k) : ¬ A k ∧ B ≤ k ∧ k < w.heap.size := by
 obtain ⟨vs, G, h1, h2, h3, h4, h5, h6, h7⟩ := h
 exact ⟨h7 k hk, h2.lt k hk⟩
end Go.Proofs.YtdcobapnlpeaaaaGreat
namespace Go.Proofs.YtdcobapnlpeaaaaGreat
open Go.RowKit
theorem isNaN_ok (a : Int) (w : World) : Calls Tryz.prog 322 #[.int .i64 a] w fun e w' => e = .returned (.bool false) ∧ w' = w := by
 go_enter Tryz.func322, Tryz.ntmps322
 go_wp2
 exact bodyPost_ret (v := .bool false) (by simp [results, Tryz.results322, go_sem]) rfl ⟨rfl, rfl⟩
set_option maxHeartbeats 1000000 in
theorem cmpI_ok (a b : Int) (w : World) : Calls Tryz.prog 294 #[.int .i64 a, .int .i64 b] w fun e w' => e = .returned (.int .i64 (cmpI a b)) ∧ w' = w := by
 go_enter Tryz.func294, Tryz.ntmps294
 go_wp2_with fail
 refine Calls.mono (isNaN_ok a w) ?_
 rintro e1 w1 ⟨rfl, rfl⟩
 go_wp2_with fail
 refine Calls.mono (isNaN_ok b _) ?_
 rintro e1 w1 ⟨rfl, rfl⟩
 by_cases h1 : a < b
 ·go_wp2
  exact bodyPost_ret (v := .int .i64 (-1)) (by simp [results, Tryz.results294, go_sem]) rfl ⟨by simp [cmpI, h1], rfl⟩
 ·by_cases h2 : b < a
  ·have h1' : b ≤ a := by omega
   go_wp2
   exact bodyPost_ret (v := .int .i64 1) (by simp [results, Tryz.results294, go_sem]) rfl ⟨by simp [cmpI, h1, h2], rfl⟩
  ·have h1' : b = a := by omega
   subst h1'
   clear h1 h2
   go_wp2
   exact bodyPost_ret (v := .int .i64 0) (by simp [results, Tryz.results294, go_sem]) rfl ⟨by simp [cmpI], rfl⟩
theorem drop_gt {l : List Int} {k : Nat} (h : k < l.length) : l.drop k = gt l k :: l.drop (k + 1) := by
 rw [List.drop_eq_getElem_cons h]; simp [gt, h]
set_option maxHeartbeats 4000000 in
theorem sCompare_ok (a b : Value) (X Y : List Int) (w : World) (Sa Sb : Nat → Prop) (ha : Ints Sa w a X) (hb : Ints Sb w b Y) :
  Calls Tryz.prog 245 #[a, b] w fun e w' => e = .returned (.int .i64 (cmpL X Y)) ∧ w' = w := by
 obtain ⟨aa, capa, rfl, hla, _⟩ := ha.shape
 obtain ⟨ab, capb, rfl, hlb, _⟩ := hb.shape
 go_enter Tryz.func245, Tryz.ntmps245
 go_wp2
 go_loopw [11] (fun v wr => ∃ k : Nat, v = .int .i64 k ∧ k ≤ X.length ∧ k ≤ Y.length ∧ wr = w ∧ cmpL X Y = cmpL (X.drop k) (Y.drop k)) (fun v _ => X.length - (intOf v).toNat)
 case atStart => exact ⟨0, rfl, by omega, by omega, rfl, by simp⟩
 case round =>
  obtain ⟨k, rfl, hk, hkY, rfl, hcmp⟩ := hrel
  by_cases hlt : k < X.length
  ·obtain ⟨ba, oa, rfl, _, _, hca⟩ := Ints.at ha k hlt
   by_cases hltY : k < Y.length
   ·obtain ⟨bb, ob, rfl, _, _, hcb⟩ := Ints.at hb k hltY
    rw [drop_gt hlt, drop_gt hltY] at hcmp
    simp only [cmpL] at hcmp
    have HC := Lib.hid hcmp; clear hcmp
    go_wp2_with fail
    refine Calls.mono (cmpI_ok (gt X k) (gt Y k) _) ?_
    rintro e1 w1 ⟨rfl, rfl⟩
    by_cases hz : cmpI (gt X k) (gt Y k) = 0
    ·have hcn := HC.out
     rw [if_pos hz] at hcn
     have HC2 := Lib.hid hcn; clear hcn HC
     go_wp2
     go_roundw
     case rel => exact ⟨k + 1, by go_num, by omega, by omega, trivial, HC2.out⟩
     case measure => simp [intOf]; omega
    ·have hcn := HC.out
     rw [if_neg hz] at hcn
     have HC2 := Lib.hid hcn; clear hcn HC
     go_wp2
     exact bodyPost_ret (v := .int .i64 (cmpI (gt X k) (gt Y k))) (by simp [results, Tryz.results245, go_sem]) rfl ⟨by rw [HC2.out], rfl⟩
   ·have hke : k = Y.length := by omega
    subst hke
    rw [drop_gt hlt, List.drop_length] at hcmp
    simp only [cmpL] at hcmp
    have HC := Lib.hid hcmp; clear hcmp
    go_wp2
    exact bodyPost_ret (v := .int .i64 1) (by simp [results, Tryz.results245, go_sem]) rfl ⟨by rw [HC.out], rfl⟩
  ·have hke : k = X.length := by omega
   subst hke
   rw [List.drop_length] at hcmp
   by_cases hltY : X.length < Y.length
   ·rw [drop_gt hltY] at hcmp
    simp only [cmpL] at hcmp
    have HC := Lib.hid hcmp; clear hcmp
    go_wp2
    exact bodyPost_ret (v := .int .i64 (-1)) (by simp [results, Tryz.results245, go_sem]) rfl ⟨by rw [HC.out], rfl⟩
   ·have hle : Y.length ≤ X.length := by omega
    rw [List.drop_of_length_le hle] at hcmp
    simp only [cmpL] at hcmp
    have HC := Lib.hid hcmp; clear hcmp
    go_wp2
    exact bodyPost_ret (v := .int .i64 0) (by simp [results, Tryz.results245, go_sem]) rfl ⟨by rw [HC.out], rfl⟩
end Go.Proofs.YtdcobapnlpeaaaaGreat
namespace Go.Proofs.YtdcobapnlpeaaaaGreat
open Go.RowKit
theorem sortL_unique {L M : List (List Int)} (h : M.Perm L) (hs : SortedL M) : M = sortL L :=
 sorted_unique _ _ hs (sortL_sorted L) (h.trans (sortL_perm L).symm)
end Go.Proofs.YtdcobapnlpeaaaaGreat
namespace Go.Proofs.YtdcobapnlpeaaaaGreat
theorem stepE_succ (P : Pr) (u : List Int) (o : Nat) (x : List Int) : stepE P u (o + 1) x = stepE P u o x ++ [rMul P x (pw P u o)] := by
 unfold stepE
 rw [List.range_succ, List.map_append]; rfl
theorem flatMap_take_succ {α β : Type} [Inhabited α] (l : List α) (f : α → List β) (i : Nat) (hi : i < l.length) : (l.take (i + 1)).flatMap f = (l.take i).flatMap f ++ f (gt l i) := by
 rw [take_succ_gt l i hi, List.flatMap_append]; simp
theorem Grp.step_mul {P : Pr} (G : Grp P) {x u : List Int} (hx : Vec P.orders x) (hu : Vec P.orders u) (t : Nat) : rMul P (rMul P x (pw P u t)) u = rMul P x (pw P u (t + 1)) := by
 rw [pw_succ, G.ass hx (G.pw_vec hu t) hu]
end Go.Proofs.YtdcobapnlpeaaaaGreat
namespace Go.Proofs.YtdcobapnlpeaaaaGreat
open Go.RowKit
noncomputable def elemsTo (P : Pr) (H : List Int → Prop) (k : Nat) : List (List Int) := by
 classical exact (List.range k).filterMap (fun t : Nat => if H (elAt P (t : Int)) then some (elAt P (t : Int)) else none)
theorem elemsTo_all (P : Pr) (H : List Int → Prop) : elemsTo P H (ordP P).toNat = elemsIn P H := by
 unfold elemsTo elemsIn
 rfl
theorem elemsTo_len (P : Pr) (H : List Int → Prop) (k : Nat) : (elemsTo P H k).length ≤ k := by
 unfold elemsTo
 have := List.length_filterMap_le (fun t : Nat => by classical exact (if H (elAt P (t : Int)) then some (elAt P (t : Int)) else none)) (List.range k)
 rw [List.length_range] at this
 exact this
end Go.Proofs.YtdcobapnlpeaaaaGreat
namespace Go.Proofs.YtdcobapnlpeaaaaGreat
open Go.RowKit
attribute [local go_sem ↓] Go.wp_at_zero Go.wp_at_succ
def PairL (M B : Nat) (w' : World) (v : Value) : Prop := ∃ vo vp vc rv P, v = .tuple #[.agg #[vo, vp, vc], rv] ∧ P.orders.length ≤ M ∧ Pres3 (From B) w' vo vp vc P ∧ ∃ U : List (List Int), U.length ≤ 25 ∧ (∀ x ∈ U, x.length ≤ 21) ∧ Rows2 (From B) w' rv U
set_option maxRecDepth 100000 in
set_option maxHeartbeats 8000000 in
theorem DrawGeneratedSubgroup_ok (w : World) (cv : Value) (bs : List Int) (S : Nat → Prop) (hb : Bytes S w cv bs) :
  Calls Tryz.prog 55 #[cv] w (Ret w (PairL 7 w.heap.size)) := by
 obtain ⟨a, cap, rfl, _, _⟩ := Sl.shape hb
 have hbB := Box3.made w 28 (.slice none 0 0) (.slice none 0 0) (.slice none 0 0)
 have hg0 : Ext w (w.alloc (.cells #[.slice none 0 0, .slice none 0 0, .slice none 0 0] 28)) := World.grownBy_alloc _ _ _
 have hs0 : (w.alloc (.cells #[.slice none 0 0, .slice none 0 0, .slice none 0 0] 28)).heap.size = w.heap.size + 1 := by simp
 have hb0 := Bytes.ext hb hg0
 go_enter Tryz.func55, Tryz.ntmps55
 go_wp2_with fail
 generalize w.alloc (.cells #[.slice none 0 0, .slice none 0 0, .slice none 0 0] 28) = w0 at *
 have hs00 : w.heap.size + 1 ≤ w0.heap.size := by omega
 clear hs0
 refine Calls.mono (l01From_ok w0 _ bs S hb0) ?_
 rintro e0 wS ⟨v0, rfl, hgS, rfl, hsS⟩
 have hzS : w0.heap.size + 1 ≤ wS.heap.size := by have := hsS.lt; omega
 have hbS := hbB.ext hgS
 obtain ⟨sb, hsb⟩ : ∃ sb, sb = w0.heap.size := ⟨_, rfl⟩
 rw [← hsb] at hsS
 have hsb1 : w.heap.size + 1 ≤ sb ∧ sb + 1 ≤ wS.heap.size := by omega
 have hgw0 := grown_trans hg0 hgS
 have HSB := Lib.hid hsb
 clear hbB hb0 hg0 hgS hzS hs00
 go_wp2_with fail
 rw [← HSB.out]
 refine Calls.mono (l07Draw_ok (sb + 1) wS sb 128 (by omega) (by rw [HSB.out]; rw [HSB.out] at hsS; exact hsS)) ?_
 rintro e1 w1 ⟨v1, rfl, hg1, ⟨vo, vp, vc, Q, rfl, hQl, hQ⟩, hs1⟩
 clear hsb
 obtain ⟨a1, n1, c1, hy1⟩ : ∃ a n c, vo = .slice a n c := by obtain ⟨a, c, e, _⟩ := hQ.o.shape; exact ⟨_, _, _, e⟩
 obtain ⟨a2, n2, c2, hy2⟩ : ∃ a n c, vp = .slice a n c := by obtain ⟨a, c, e, _⟩ := Sl.shape hQ.p; exact ⟨_, _, _, e⟩
 obtain ⟨a3, n3, c3, hy3⟩ : ∃ a n c, vc = .slice a n c := by obtain ⟨a, c, e, _⟩ := Sl.shape hQ.c; exact ⟨_, _, _, e⟩
 subst hy1 hy2 hy3
 have hgq : Ext w1 (w1.alloc (.cells #[.slice a1 n1 c1, .slice a2 n2 c2, .slice a3 n3 c3] 28)) := World.grownBy_alloc _ _ _
 have hbQ := Box3.made w1 28 (.slice a1 n1 c1) (.slice a2 n2 c2) (.slice a3 n3 c3)
 obtain ⟨pb, hpb⟩ : ∃ pb, pb = w1.heap.size := ⟨_, rfl⟩
 rw [← hpb] at hbQ
 have hs1' := hg1.size
 have hQ2 := hQ.ext hgq
 have hb1 := hbS.moved hg1 (by omega)
 have hb2 := hb1.ext hgq
 have hs2 := hs1.ext hgq
 have hgw2 : Ext w (w1.alloc (.cells #[.slice a1 n1 c1, .slice a2 n2 c2, .slice a3 n3 c3] 28)) := grown_trans (grown_own hgw0 hg1 (fun j hj hlt => by have := Option.some.inj hj; omega)) hgq
 have hzq : w1.heap.size ≤ (w1.alloc (.cells #[.slice a1 n1 c1, .slice a2 n2 c2, .slice a3 n3 c3] 28)).heap.size := hgq.size
 have hpz : (w1.alloc (.cells #[.slice a1 n1 c1, .slice a2 n2 c2, .slice a3 n3 c3] 28)).heap.size = pb + 1 := by rw [hpb]; simp
 have HZ2 := Lib.hid hpz
 have HP := Lib.hid hpb
 have HQ := Lib.hid (And.intro hQ2 (And.intro hs2 (And.intro hgw2 hQl))); clear hQ hQ2 hs2 hs1 hg1 hbS hb1 hgq hgw2 hQl
 go_wp2_with fail
 rw [← HP.out]
 generalize w1.alloc (.cells #[.slice a1 n1 c1, .slice a2 n2 c2, .slice a3 n3 c3] 28) = w2 at *
 have hpw : wS.heap.size ≤ pb := by omega
 clear hpb HP
 have hpz2 : pb + 1 ≤ w2.heap.size := by omega
 clear hpz
 rw [← HZ2.out]
 have hgE := World.grownBy_alloc w2 (.cells #[] 24) none
 have hQE : ShQ (fun k => k < w2.heap.size) w2.heap.size (w2.alloc (.cells #[] 24)) (.slice (some ⟨w2.heap.size, 0, none⟩) 0 0) [] := ShQ.lit _ _ _ (Nat.le_refl _)
 have HS := Lib.hid (HQ.out.2.1.ext hgE)
 have hgE2 := grown_of_ext (some sb) hgE
 clear hgE
 generalize w2.alloc (.cells #[] 24) = w3 at *
 refine Calls.mono (l01Next_ok (sb + 1) w3 sb 4 HS.out) ?_
 rintro eA wA ⟨vA, rfl, hgA, k0, rfl, _, hk1, hsA⟩
 have hk := hk1 (by omega)
 clear hk1
 have HSA := Lib.hid hsA; clear hsA HS
 have hgE3 := grown_trans hgE2 hgA
 have hQA := hQE.kept hgA.size (fun j hj hc => hgA.block j hj (fun e => by
  have := Option.some.inj e
  rcases hc with hc | hc
  ·have := own_blk hc; omega
  ·omega)) (fun _ _ h => h)
 clear hQE hgE2 hgA
 go_wp2_with fail
 refine Calls.mono (l01Next_ok (sb + 1) wA sb 25 HSA.out) ?_
 rintro eB wB ⟨vB, rfl, hgB, q0, rfl, _, _, hsB⟩
 have HSB2 := Lib.hid hsB; clear hsB HSA
 have hgE4 := grown_trans hgE3 hgB
 have hQB := hQA.kept hgB.size (fun j hj hc => hgB.block j hj (fun e => by
  have := Option.some.inj e
  rcases hc with hc | hc
  ·have := own_blk hc; omega
  ·omega)) (fun _ _ h => h)
 clear hQA hgE3 hgB
 by_cases hq : q0 = 0
 ·subst hq
  go_wp2_with fail
  have hgL : Ext wB (wB.alloc (.cells #[.int .i64 24, .int .i64 25] 2)) := World.grownBy_alloc _ _ _
  have hL : Ints (fun k => k = wB.heap.size) (wB.alloc (.cells #[.int .i64 24, .int .i64 25] 2)) (.slice (some ⟨wB.heap.size, 0, none⟩) 2 2) [24, 25] := ints_litL wB [24, 25] (by simp)
  have hzB := hgE4.size
  have hQL := hQB.ext hgL
  have HSL := Lib.hid (HSB2.out.ext hgL)
  have hgE5 := grown_trans hgE4 (grown_of_ext (some sb) hgL)
  generalize wB.alloc (.cells #[.int .i64 24, .int .i64 25] 2) = wL at *
  refine Calls.mono (l01Pick_ok (sb + 1) wL sb _ [24, 25] _ HSL.out hL (fun k hk => by omega) (by simp) (by simp)) ?_
  rintro eC wC ⟨vC, rfl, hgC, i, hi, rfl, hsC⟩
  have hm : ∀ y ∈ ([24, 25] : List Int), 24 ≤ y ∧ y ≤ 25 := by simp
  have hmi := hm _ (gtMem hi)
  clear hm
  generalize gt ([24, 25] : List Int) i = m at *
  have HSC := Lib.hid hsC; clear hsC HSL HSB2 hL hi
  have hgE6 := grown_trans hgE5 hgC
  have hQC := hQL.kept hgC.size (fun j hj hc => hgC.block j hj (fun e => by
   have := Option.some.inj e
   rcases hc with hc | hc
   ·have := own_blk hc; omega
   ·omega)) (fun _ _ h => h)
  clear hQB hQL hgE4 hgL hgE5 hgC
  go_wp2
  go_loopw [6, 7] (fun ov kv wr => ∃ (k : Int) (L : List (List Int)) (v4 : Value), v4 = ov ∧ kv = .int .i64 k ∧ 0 ≤ k ∧ k ≤ 25 ∧ Hid (L.length + k ≤ 25 ∧ ∀ x ∈ L, x.length ≤ 21) ∧ w2.grownBy wr (some sb) ∧ ShQ (fun k => k < w2.heap.size) w2.heap.size wr v4 L ∧ Hid (Src (sb + 1) wr sb)) (fun _ kv _ => (intOf kv).toNat)
  case atStart => exact ⟨m, [], _, rfl, rfl, by omega, by omega, Lib.hid ⟨by simp; omega, fun x hx => by cases hx⟩, hgE6, hQC, HSC⟩
  case round =>
   clear hgE6 hQC HSC
   obtain ⟨k, L, v4, rfl, rfl, hk0, hk3, hLk, hg, hQ, hsr⟩ := hrel
   have hbr := hbQ.moved hg (by omega)
   obtain ⟨b0, b1, b2, b3, b4⟩ := id hbr
   have hPr : Pres3 (From wS.heap.size) wr _ _ _ Q := HQ.out.1.keptB hg (fun k hk => by have := Option.some.inj hk; omega)
   have hob : ∀ j, v4.ownBlock = some j → w2.heap.size ≤ j := fun j hj => (hQ.lt j hj).1
   have HO := Lib.hid hob; clear hob
   have hzr := hg.size
   by_cases hkp : 0 < k
   ·go_wp2_with fail
    refine Calls.mono (l07Vectors_ok (sb + 1) wr sb _ Q (From wS.heap.size) (by omega) hsr.out ⟨_, _, _, rfl, hPr⟩ (fun k hk e => by have hk : wS.heap.size ≤ k := hk; omega) (by have := HQ.out.2.2.2; omega)) ?_
    rintro e3 w3 ⟨v3, rfl, hg3, ⟨a3, c3, x, rfl, hxl, hOx⟩, hs3⟩
    have hg03 := grown_trans hg hg3
    have hQ3 : ShQ (fun k => k < w2.heap.size) w2.heap.size w3 v4 L := hQ.kept hg3.size (fun j hj hc => hg3.block j hj (fun e => by
     have := Option.some.inj e
     rcases hc with hc | hc
     ·have := HO.out j hc; omega
     ·omega)) (fun _ _ h => h)
    have hxI : Ints (fun k => ¬ k < w2.heap.size ∧ v4.ownBlock ≠ some k) w3 (.slice a3 x.length c3) x := ints_of_own hOx (by omega) (fun k hk => by
     have h1 := (hOx.lt k hk).1
     exact ⟨by omega, fun e => by have := (hQ.lt k e).2; omega⟩)
    have hLl : L.length ≤ 1000000 := by have := hLk.out.1; omega
    have HS3 := Lib.hid (And.intro hs3 (And.intro hxl hLl)); clear hs3 hxl hLl hOx hQ hbr b0 b1 b2 b3 b4
    go_wp2_with (first | (at_builtin; refine wp_shq_app rfl _ _ rfl (fun k => k < w2.heap.size) w2.heap.size v4 _ L x rfl w3 hQ3 rfl hxI rfl HS3.out.2.2 hg03.size ?_; intro v5 w5 hQ5 hg5 hb5) | fail)
    have hs5 := HS3.out.1.own hg5 (fun j hj => by have := HO.out j hj; omega)
    have hg05 : w2.grownBy w5 (some sb) := grown_own hg03 hg5 (fun j hj hlt => by have := HO.out j hj; omega)
    have hll : (L ++ [x]).length = L.length + 1 := by simp
    go_roundw
    case rel => exact ⟨k - 1, L ++ [x], v5, rfl, rfl, by omega, by omega, Lib.hid ⟨by have := hLk.out.1; omega, fun y hy => by
     rcases List.mem_append.1 hy with h | h
     ·exact hLk.out.2 y h
     ·rw [List.mem_singleton.1 h]; exact HS3.out.2.1⟩, hg05, hQ5, Lib.hid hs5⟩
    case measure => simp [intOf]; omega
   ·have hb3 := hb2.moved hg (by omega)
    obtain ⟨y0, y1, y2, y3, y4⟩ := id hb3
    have hZ := hb3.all (.slice a1 n1 c1) (.slice a2 n2 c2) (.slice a3 n3 c3)
    obtain ⟨-, z0, z1, z2, -⟩ := id hZ
    have hT := grown_set3 wr w.heap.size (.slice a1 n1 c1) (.slice a2 n2 c2) (.slice a3 n3 c3)
    have hin : ∀ k, some w.heap.size = some k → k < wS.heap.size := fun k hk => by have := Option.some.inj hk; omega
    obtain ⟨aL, cL, rfl, _⟩ := hQ.shape
    have hR := hQ.rowsB (fun k hk => hk)
    have hRT : Rows2 (From w.heap.size) (((wr.setCell ⟨w.heap.size, 0, none⟩ (.slice a1 n1 c1)).setCell ⟨w.heap.size, 1, none⟩ (.slice a2 n2 c2)).setCell ⟨w.heap.size, 2, none⟩ (.slice a3 n3 c3)) (.slice aL L.length cL) L := Rows2.mono hR (frame_of hT (fun k hk _ => ⟨by show w.heap.size ≤ k; omega, fun e => by have := Option.some.inj e; omega⟩))
    have hend : Ret w (PairL 7 w.heap.size) (.returned (.tuple #[.agg #[.slice a1 n1 c1, .slice a2 n2 c2, .slice a3 n3 c3], .slice aL L.length cL])) (((wr.setCell ⟨w.heap.size, 0, none⟩ (.slice a1 n1 c1)).setCell ⟨w.heap.size, 1, none⟩ (.slice a2 n2 c2)).setCell ⟨w.heap.size, 2, none⟩ (.slice a3 n3 c3)) :=
     ⟨_, rfl, grown_own (grown_own HQ.out.2.2.1 hg (fun j hj hlt => by have := Option.some.inj hj; omega)) hT (fun j hj hlt => by have := Option.some.inj hj; omega), _, _, _, _, Q, rfl, HQ.out.2.2.2, (hPr.keptB hT hin).low (by omega), L, by have := hLk.out.1; omega, hLk.out.2, hRT⟩
    have HE := Lib.hid hend; clear hend hT hZ hR hRT hQ hPr hb3 hbr
    go_wp2
    refine bodyPost_ret (v := .tuple #[.agg #[.slice a1 n1 c1, .slice a2 n2 c2, .slice a3 n3 c3], .slice aL L.length cL]) (by simp [results, Tryz.results55, go_sem, z0, z1, z2]) rfl ?_
    exact HE.out
 ·skip
  go_wp2
  generalize hbq : (q0 == 0) = bq
  clear hbq
  go_loopw [6, 7] (fun ov kv wr => ∃ (k : Int) (L : List (List Int)) (v4 : Value), v4 = ov ∧ kv = .int .i64 k ∧ 0 ≤ k ∧ k ≤ 25 ∧ Hid (L.length + k ≤ 25 ∧ ∀ x ∈ L, x.length ≤ 21) ∧ w2.grownBy wr (some sb) ∧ ShQ (fun k => k < w2.heap.size) w2.heap.size wr v4 L ∧ Hid (Src (sb + 1) wr sb)) (fun _ kv _ => (intOf kv).toNat)
  case atStart => exact ⟨k0, [], _, rfl, rfl, by omega, by omega, Lib.hid ⟨by simp; omega, fun x hx => by cases hx⟩, hgE4, hQB, HSB2⟩
  case round =>
   clear hgE4 hQB HSB2
   obtain ⟨k, L, v4, rfl, rfl, hk0, hk3, hLk, hg, hQ, hsr⟩ := hrel
   have hbr := hbQ.moved hg (by omega)
   obtain ⟨b0, b1, b2, b3, b4⟩ := id hbr
   have hPr : Pres3 (From wS.heap.size) wr _ _ _ Q := HQ.out.1.keptB hg (fun k hk => by have := Option.some.inj hk; omega)
   have hob : ∀ j, v4.ownBlock = some j → w2.heap.size ≤ j := fun j hj => (hQ.lt j hj).1
   have HO := Lib.hid hob; clear hob
   have hzr := hg.size
   by_cases hkp : 0 < k
   ·go_wp2_with fail
    refine Calls.mono (l07Vectors_ok (sb + 1) wr sb _ Q (From wS.heap.size) (by omega) hsr.out ⟨_, _, _, rfl, hPr⟩ (fun k hk e => by have hk : wS.heap.size ≤ k := hk; omega) (by have := HQ.out.2.2.2; omega)) ?_
    rintro e3 w3 ⟨v3, rfl, hg3, ⟨a3, c3, x, rfl, hxl, hOx⟩, hs3⟩
    have hg03 := grown_trans hg hg3
    have hQ3 : ShQ (fun k => k < w2.heap.size) w2.heap.size w3 v4 L := hQ.kept hg3.size (fun j hj hc => hg3.block j hj (fun e => by
     have := Option.some.inj e
     rcases hc with hc | hc
     ·have := HO.out j hc; omega
     ·omega)) (fun _ _ h => h)
    have hxI : Ints (fun k => ¬ k < w2.heap.size ∧ v4.ownBlock ≠ some k) w3 (.slice a3 x.length c3) x := ints_of_own hOx (by omega) (fun k hk => by
     have h1 := (hOx.lt k hk).1
     exact ⟨by omega, fun e => by have := (hQ.lt k e).2; omega⟩)
    have hLl : L.length ≤ 1000000 := by have := hLk.out.1; omega
    have HS3 := Lib.hid (And.intro hs3 (And.intro hxl hLl)); clear hs3 hxl hLl hOx hQ hbr b0 b1 b2 b3 b4
    go_wp2_with (first | (at_builtin; refine wp_shq_app rfl _ _ rfl (fun k => k < w2.heap.size) w2.heap.size v4 _ L x rfl w3 hQ3 rfl hxI rfl HS3.out.2.2 hg03.size ?_; intro v5 w5 hQ5 hg5 hb5) | fail)
    have hs5 := HS3.out.1.own hg5 (fun j hj => by have := HO.out j hj; omega)
    have hg05 : w2.grownBy w5 (some sb) := grown_own hg03 hg5 (fun j hj hlt => by have := HO.out j hj; omega)
    have hll : (L ++ [x]).length = L.length + 1 := by simp
    go_roundw
    case rel => exact ⟨k - 1, L ++ [x], v5, rfl, rfl, by omega, by omega, Lib.hid ⟨by have := hLk.out.1; omega, fun y hy => by
     rcases List.mem_append.1 hy with h | h
     ·exact hLk.out.2 y h
     ·rw [List.mem_singleton.1 h]; exact HS3.out.2.1⟩, hg05, hQ5, Lib.hid hs5⟩
    case measure => simp [intOf]; omega
   ·have hb3 := hb2.moved hg (by omega)
    obtain ⟨y0, y1, y2, y3, y4⟩ := id hb3
    have hZ := hb3.all (.slice a1 n1 c1) (.slice a2 n2 c2) (.slice a3 n3 c3)
    obtain ⟨-, z0, z1, z2, -⟩ := id hZ
    have hT := grown_set3 wr w.heap.size (.slice a1 n1 c1) (.slice a2 n2 c2) (.slice a3 n3 c3)
    have hin : ∀ k, some w.heap.size = some k → k < wS.heap.size := fun k hk => by have := Option.some.inj hk; omega
    obtain ⟨aL, cL, rfl, _⟩ := hQ.shape
    have hR := hQ.rowsB (fun k hk => hk)
    have hRT : Rows2 (From w.heap.size) (((wr.setCell ⟨w.heap.size, 0, none⟩ (.slice a1 n1 c1)).setCell ⟨w.heap.size, 1, none⟩ (.slice a2 n2 c2)).setCell ⟨w.heap.size, 2, none⟩ (.slice a3 n3 c3)) (.slice aL L.length cL) L := Rows2.mono hR (frame_of hT (fun k hk _ => ⟨by show w.heap.size ≤ k; omega, fun e => by have := Option.some.inj e; omega⟩))
    have hend : Ret w (PairL 7 w.heap.size) (.returned (.tuple #[.agg #[.slice a1 n1 c1, .slice a2 n2 c2, .slice a3 n3 c3], .slice aL L.length cL])) (((wr.setCell ⟨w.heap.size, 0, none⟩ (.slice a1 n1 c1)).setCell ⟨w.heap.size, 1, none⟩ (.slice a2 n2 c2)).setCell ⟨w.heap.size, 2, none⟩ (.slice a3 n3 c3)) :=
     ⟨_, rfl, grown_own (grown_own HQ.out.2.2.1 hg (fun j hj hlt => by have := Option.some.inj hj; omega)) hT (fun j hj hlt => by have := Option.some.inj hj; omega), _, _, _, _, Q, rfl, HQ.out.2.2.2, (hPr.keptB hT hin).low (by omega), L, by have := hLk.out.1; omega, hLk.out.2, hRT⟩
    have HE := Lib.hid hend; clear hend hT hZ hR hRT hQ hPr hb3 hbr
    go_wp2
    refine bodyPost_ret (v := .tuple #[.agg #[.slice a1 n1 c1, .slice a2 n2 c2, .slice a3 n3 c3], .slice aL L.length cL]) (by simp [results, Tryz.results55, go_sem, z0, z1, z2]) rfl ?_
    exact HE.out
end Go.Proofs.YtdcobapnlpeaaaaGreat
namespace Go.Proofs.YtdcobapnlpeaaaaGreat
open Go.RowKit
set_option maxRecDepth 100000 in
set_option maxHeartbeats 2000000 in
theorem areElements_ok (Q : Pr) (w : World) (p lv : Value) (L : List (List Int)) (Sp Sl' : Nat → Prop) (hp : PresP Sp w p Q) (hl : Rows2 Sl' w lv L) :
  Calls Tryz.prog 133 #[p, lv] w (Ret w fun _ v => ∃ r : Bool, v = .bool r ∧ (r = true ↔ rconsB Q = true ∧ ∀ x ∈ L, Vec Q.orders x)) := by
 obtain ⟨pb, po, rfl⟩ := hp.shape
 obtain ⟨al, capl, rfl, _, _⟩ := Sl.shape hl
 obtain ⟨vo, vp, vc, _, _, hc0, hc1, hc2, h3⟩ := hp.at
 obtain ⟨ao, capo, rfl, _, _⟩ := h3.o.shape
 obtain ⟨ap, capp, rfl, _, _⟩ := Sl.shape h3.p
 obtain ⟨ac, capc, rfl, _, _⟩ := Sl.shape h3.c
 have hcon := isConsistent_ok Q w (.agg #[.slice ao Q.orders.length capo, .slice ap Q.powers.length capp, .slice ac Q.conj.length capc]) Sp ⟨_, _, _, rfl, h3⟩
 rw [icons_eq] at hcon
 go_enter Tryz.func133, Tryz.ntmps133
 go_wp2_with fail
 refine Calls.mono hcon ?_
 rintro e1 w1 ⟨v, rfl, hg1, rfl⟩
 clear hcon
 cases hq : rconsB Q with
 | false =>
  have HQ := Lib.hid hq; clear hq
  go_wp2
  go_ret
  exact ⟨_, rfl, hg1, false, rfl, by simp only [Bool.false_eq_true, false_iff]; rintro ⟨h, _⟩; rw [HQ.out] at h; cases h⟩
 | true =>
  have G := grp_of_r hq
  have hn6 := G.v.n6
  have HQ := Lib.hid hq; clear hq hc0 hc1 hc2
  go_wp2
  go_loopw [14] (fun jv wr => ∃ j : Nat, jv = .int .i64 j ∧ j ≤ L.length ∧ Ext w wr ∧ Hid (∀ l, l < j → Vec Q.orders (gt L l))) (fun jv _ => L.length - (intOf jv).toNat)
  case atStart => exact ⟨0, rfl, by omega, hg1, Lib.hid (fun j h => by omega)⟩
  case round =>
   obtain ⟨j, rfl, hj, hg, hV⟩ := hrel
   by_cases hjl : j < L.length
   ·have hjl' : (j : Int) < L.length := by omega
    obtain ⟨b3, off3, a3, cap3, rfl, _, _, hc3, hr3⟩ := Rows2.at (Rows2.ext hl hg) j hjl
    have hex := isExponents_ok wr _ _ Q (gt L j) Sp Sl' (hp.ext hg) hr3 (fun i hi => by have := G.v.ord7 i hi; omega)
    cases hb : expB Q.orders (gt L j) with
    | true =>
     rw [hb] at hex
     have HB := Lib.hid (expB_vec.1 hb); clear hb
     go_wp2_with fail
     refine Calls.mono hex ?_
     rintro eE wE ⟨rfl, rfl⟩
     clear hex
     go_wp2
     go_roundw
     case rel => exact ⟨j + 1, by go_num, by omega, hg, Lib.hid (fun l hl => by
      rcases Nat.lt_succ_iff_lt_or_eq.1 hl with h | h
      ·exact hV.out l h
      ·rw [h]; exact HB.out)⟩
     case measure => simp [intOf]; omega
    | false =>
     rw [hb] at hex
     have hno : ¬ ∀ x ∈ L, Vec Q.orders x := fun h => by
      have := expB_vec.2 (h _ (gtMem hjl))
      rw [hb] at this; cases this
     have HB := Lib.hid hno; clear hb hno
     go_wp2_with fail
     refine Calls.mono hex ?_
     rintro eE wE ⟨rfl, rfl⟩
     clear hex
     go_wp2
     go_ret
     exact ⟨_, rfl, hg, false, rfl, by simp only [Bool.false_eq_true, false_iff]; rintro ⟨_, h⟩; exact HB.out h⟩
   ·have hke : j = L.length := by omega
    subst hke
    go_wp2
    go_ret
    exact ⟨_, rfl, hg, true, rfl, by
     simp only [true_iff]
     refine ⟨HQ.out, fun x hx => ?_⟩
     obtain ⟨l, hl, rfl⟩ := List.getElem_of_mem hx
     rw [← gt_eq L l hl]; exact hV.out l hl⟩
end Go.Proofs.YtdcobapnlpeaaaaGreat
namespace Go.Proofs.YtdcobapnlpeaaaaGreat
open Go.RowKit
theorem wp_app_take {ops : Array Oper} {rest : List Oper} {o : Oper} {a : Act} {Q : Exit → Act → World → Prop} {w : World} (hgd : o.guard = none) (s x : Operand)
  (ho : o.op = Op.call { callee := Callee.builtin Builtin.append, args := #[s, x], argTypes := #[25, 25] }) (B : Nat) (A A' F : Nat → Prop) (w0 : World) (v u : Value) (xs : List (List Int)) (y : List Int) (hs : a.eval s = v)
  (hown : SlOA OwnIn 24 B A w0 v xs) (hu : OwnIn F w0 u y) (hF : ∀ k, F k → k < w0.heap.size → A k ∧ B ≤ k) (hA' : ∀ k, A' k → A k ∧ ¬ F k) (hAl : ∀ k, A k → k < w0.heap.size) (hw : w = w0.alloc (.cells #[u] 24))
  (hx : a.eval x = .slice (some ⟨w0.heap.size, 0, none⟩) 1 1) (hlen : xs.length ≤ 1000000) (hbase : B ≤ w0.heap.size)
  (h : ∀ v' w', SlOA OwnIn 24 B A' w' v' (xs ++ [y]) → w0.grownBy w' v.ownBlock → (v'.ownBlock = v.ownBlock ∨ ∀ k, v'.ownBlock = some k → w0.heap.size ≤ k) → wpList Tryz.prog ops Q rest (a.put o.dst v') w') :
  wpList Tryz.prog ops Q (o :: rest) a w := by
 subst hw
 obtain ⟨vs, G, hvl, hO, hG, hd, hE, hr, hr2⟩ := hown
 have hga : Ext w0 (w0.alloc (.cells #[u] 24)) := World.grownBy_alloc _ _ _
 refine wp_app 25 24 (.slice none 0 0) 24 und_rows Tryz.infoRow rfl (by decide) hgd s x ho B v vs hs (hO.kept hga (by cases hv : v.ownBlock <;> simp)) (some ⟨w0.heap.size, 0, none⟩) 1 1 [u] hx rfl (by simp) ?_ ?_ (by simp; omega) (by have := hga.size; omega) ?_
 ·intro j hj
  have : j = 0 := by omega
  subst this
  exact ⟨_, _, rfl, by rw [World.cell?_alloc_at _ _ _ _ rfl]; rfl⟩
 ·intro u' hu'
  simp at hu'; subst hu'; exact rdOwn.one hu
 ·intro v' w' k1 k2 _ k4
  have hg : w0.grownBy w' v.ownBlock := grown_trans (grown_of_ext _ hga) k2
  have hown2 : v'.ownBlock = v.ownBlock ∨ ∀ k, v'.ownBlock = some k → w0.heap.size ≤ k := by
   rcases k4 with h | h
   ·exact .inl h
   ·refine .inr (fun k hk => ?_)
    rw [h] at hk
    have : (w0.alloc (.cells #[u] 24)).heap.size = k := by simpa using hk
    simp at this
    omega
  have hown : ∀ k, v'.ownBlock = some k → v.ownBlock = some k ∨ w0.heap.size ≤ k := fun k hk => by
   rcases k4 with h | h
   ·exact .inl (by rw [← h]; exact hk)
   ·rw [h] at hk
    have : (w0.alloc (.cells #[u] 24)).heap.size = k := by simpa using hk
    simp at this
    exact .inr (by omega)
  refine h v' w' ⟨vs ++ [u], fun i k => if i < xs.length then G i k else F k ∧ k < w0.heap.size, by simp [hvl], k1, ?_, ?_, ?_, ?_, ?_⟩ hg hown2
  ·intro i k hi hk
   split at hk
   ·rename_i hlt
    obtain ⟨a1, a2, a3⟩ := hG i k hlt hk
    exact ⟨a1, fun e => (hown k e).elim a2 (fun h => by omega), Nat.lt_of_lt_of_le a3 hg.size⟩
   ·obtain ⟨b1, b2⟩ := hF k hk.1 hk.2
    exact ⟨b2, fun e => (hown k e).elim (fun h => hr2 k h b1) (fun h => by have := hk.2; omega), Nat.lt_of_lt_of_le hk.2 hg.size⟩
  ·intro i j k hi hj hk hk'
   simp only [List.length_append, List.length_singleton] at hi hj
   split at hk <;> split at hk'
   ·exact hd i j k (by assumption) (by assumption) hk hk'
   ·exact absurd (hF k hk'.1 hk'.2).1 (hr i k (by assumption) hk)
   ·exact absurd (hF k hk.1 hk.2).1 (hr j k (by assumption) hk')
   ·omega
  ·intro i hi
   simp only [List.length_append, List.length_singleton] at hi
   by_cases hlt : i < xs.length
   ·rw [gt_append_left _ _ _ (by omega), gt_append_left _ _ _ hlt]
    simp only [if_pos hlt]
    exact rdOwn.mono (hE i hlt) (fun k hk hkl => ⟨hk, Nat.lt_of_lt_of_le hkl hg.size, hg.block k hkl (fun e => (hG i k hlt hk).2.1 e.symm)⟩)
   ·have hi2 : i = xs.length := by omega
    subst hi2
    rw [gt_concat, ← hvl, gt_concat]
    simp only [hvl, Nat.lt_irrefl, if_false]
    exact rdOwn.mono hu (fun k hk hkl => ⟨⟨hk, hkl⟩, Nat.lt_of_lt_of_le hkl hg.size, hg.block k hkl (fun e => hr2 k e.symm (hF k hk hkl).1)⟩)
  ·intro i k hi hk ha
   obtain ⟨c1, c2⟩ := hA' k ha
   split at hk
   ·rename_i hlt; exact hr i k hlt hk c1
   ·exact c2 hk.1
  ·intro k hk ha
   obtain ⟨c1, _⟩ := hA' k ha
   rcases hown k hk with h | h
   ·exact hr2 k h c1
   ·have := hAl k c1; omega
end Go.Proofs.YtdcobapnlpeaaaaGreat
namespace Go.Proofs.YtdcobapnlpeaaaaGreat
open Go.RowKit
theorem rowsOne {B : Nat} {w2 : World} {u : Value} {y : List Int} (hu : OwnIn (From B) w2 u y) (hB : B ≤ w2.heap.size) : RowsO B (w2.alloc (.cells #[u] 24)) (.slice (some ⟨w2.heap.size, 0, none⟩) 1 1) [y] := by
 have hga : Ext w2 (w2.alloc (.cells #[u] 24)) := World.grownBy_alloc _ _ _
 refine ⟨[u], fun _ k => B ≤ k ∧ k < w2.heap.size, rfl, World.ownsRow_lit w2 #[u] 1 hB (by decide) rfl, fun i k hi hk => ?_, fun i j k hi hj _ _ => ?_, fun i hi => ?_⟩
 ·exact ⟨hk.1, fun e => by have := own_blk e; omega, Nat.lt_of_lt_of_le hk.2 hga.size⟩
 ·simp at hi hj; omega
 ·have : i = 0 := by simpa using hi
  subst this
  exact rdOwn.mono hu (fun k hk hkl => ⟨⟨hk, hkl⟩, Nat.lt_of_lt_of_le hkl hga.size, hga.block k hkl (by simp)⟩)
end Go.Proofs.YtdcobapnlpeaaaaGreat
namespace Go.Proofs.YtdcobapnlpeaaaaGreat
open Go.Proofs Go.Shelf Go.RowKit Go.Lib Go.Sort
def Tryz.sortRows_ren : Go.Shelf.Ren := ⟨fun | 6 => 247 | 15 => 297 | 14 => 296 | 28 => 332 | 29 => 333 | 20 => 324 | 21 => 325 | 22 => 326 | 23 => 327 | 24 => 328 | 25 => 329 | 26 => 330 | 27 => 331 | 46 => 351 | 47 => 352 | 48 => 353 | 49 => 354 | 50 => 355 | 57 => 367 | n => n, fun | 22 => 25 | 24 => 24 | 25 => 195 | 3 => 3 | 39 => 139 | 0 => 0 | 53 => 266 | 55 => 62 | 4 => 4 | 46 => 260 | 45 => 259 | 50 => 193 | 5 => 5 | 9 => 9 | 66 => 281 | 70 => 285 | 76 => 296 | 77 => 297 | n => n, fun | n => n⟩
theorem Tryz.sortRows : Go.Proofs.SlLaysF.n6 Tryz.prog Tryz.sortRows_ren := {
  mixed := by kernel_rfl
  f6 := ⟨Tryz.f247.name, by decide, Tryz.func247.trans (congrArg some (by kernel_rfl))⟩
  f14 := ⟨Tryz.f296.name, by decide, Tryz.func296.trans (congrArg some (by kernel_rfl))⟩
  f15 := Tryz.func297.trans (congrArg some (by kernel_rfl))
  f20 := ⟨Tryz.f324.name, by decide, Tryz.func324.trans (congrArg some (by kernel_rfl))⟩
  f21 := ⟨Tryz.f325.name, by decide, Tryz.func325.trans (congrArg some (by kernel_rfl))⟩
  f22 := ⟨Tryz.f326.name, by decide, Tryz.func326.trans (congrArg some (by kernel_rfl))⟩
  f23 := ⟨Tryz.f327.name, by decide, Tryz.func327.trans (congrArg some (by kernel_rfl))⟩
  f24 := ⟨Tryz.f328.name, by decide, Tryz.func328.trans (congrArg some (by kernel_rfl))⟩
  f25 := ⟨Tryz.f329.name, by decide, Tryz.func329.trans (congrArg some (by kernel_rfl))⟩
  f26 := ⟨Tryz.f330.name, by decide, Tryz.func330.trans (congrArg some (by kernel_rfl))⟩
  f27 := ⟨Tryz.f331.name, by decide, Tryz.func331.trans (congrArg some (by kernel_rfl))⟩
  f28 := Tryz.func332.trans (congrArg some (by kernel_rfl))
  f29 := Tryz.func333.trans (congrArg some (by kernel_rfl))
  f46 := ⟨Tryz.f351.name, by decide, Tryz.func351.trans (congrArg some (by kernel_rfl))⟩
  f47 := Tryz.func352.trans (congrArg some (by kernel_rfl))
  f48 := Tryz.func353.trans (congrArg some (by kernel_rfl))
  f49 := ⟨Tryz.f354.name, by decide, Tryz.func354.trans (congrArg some (by kernel_rfl))⟩
  f50 := ⟨Tryz.f355.name, by decide, Tryz.func355.trans (congrArg some (by kernel_rfl))⟩
  f57 := ⟨Tryz.f367.name, by decide, Tryz.func367.trans (congrArg some (by kernel_rfl))⟩
  t0 := Tryz.underlying0
  a0 := Tryz.isAgg0
  z0 := Tryz.sizeOf0
  v0 := Tryz.zeroValue0
  t3 := Tryz.underlying3
  a3 := Tryz.isAgg3
  z3 := Tryz.sizeOf3
  v3 := Tryz.zeroValue3
  t4 := Tryz.underlying4
  a4 := Tryz.isAgg4
  z4 := Tryz.sizeOf4
  v4 := Tryz.zeroValue4
  t5 := Tryz.underlying5
  a5 := Tryz.isAgg5
  z5 := Tryz.sizeOf5
  v5 := Tryz.zeroValue5
  t9 := Tryz.underlying9
  a9 := Tryz.isAgg9
  z9 := Tryz.sizeOf9
  v9 := Tryz.zeroValue9
  t22 := Tryz.underlying25
  a22 := Tryz.isAgg25
  z22 := Tryz.sizeOf25
  v22 := Tryz.zeroValue25
  a24 := Tryz.isAgg24
  z24 := Tryz.sizeOf24
  t25 := Tryz.underlying195
  a25 := Tryz.isAgg195
  z25 := Tryz.sizeOf195
  v25 := Tryz.zeroValue195
  t39 := Tryz.underlying139
  a39 := Tryz.isAgg139
  z39 := Tryz.sizeOf139
  v39 := Tryz.zeroValue139
  t45 := Tryz.underlying259
  a45 := Tryz.isAgg259
  z45 := Tryz.sizeOf259
  v45 := Tryz.zeroValue259
  t46 := Tryz.underlying260
  a46 := Tryz.isAgg260
  z46 := Tryz.sizeOf260
  v46 := Tryz.zeroValue260
  t50 := Tryz.underlying193
  a50 := Tryz.isAgg193
  z50 := Tryz.sizeOf193
  v50 := Tryz.zeroValue193
  t53 := Tryz.underlying266
  a53 := Tryz.isAgg266
  z53 := Tryz.sizeOf266
  v53 := Tryz.zeroValue266
  t55 := Tryz.underlying62
  a55 := Tryz.isAgg62
  z55 := Tryz.sizeOf62
  v55 := Tryz.zeroValue62
  t66 := Tryz.underlying281
  a66 := Tryz.isAgg281
  z66 := Tryz.sizeOf281
  v66 := Tryz.zeroValue281
  t70 := Tryz.underlying285
  a70 := Tryz.isAgg285
  z70 := Tryz.sizeOf285
  v70 := Tryz.zeroValue285
  t76 := Tryz.underlying296
  a76 := Tryz.isAgg296
  z76 := Tryz.sizeOf296
  v76 := Tryz.zeroValue296
  t77 := Tryz.underlying297
  a77 := Tryz.isAgg297
  z77 := Tryz.sizeOf297
  v77 := Tryz.zeroValue297 }
end Go.Proofs.YtdcobapnlpeaaaaGreat
namespace Go.Proofs.YtdcobapnlpeaaaaGreat
open Go.Proofs Go.Shelf Go.RowKit Go.Lib Go.Sort
section
variable {α : Type} [Inhabited α] {enc : α → Value}
theorem holds_of_blockV {w : World} {g : Nat} {cur : Array Value} {e : TypeId} {ss : List α} (hb : w.heap[g]? = some (.cells cur e (0, 0))) (ht : cur.toList.take ss.length = ss.map enc) : Go.Sort.Holds enc w g 0 ss.toArray := by
 intro j hj
 have hj' : j < ss.length := by simpa using hj
 refine ⟨?_, by simp [World.frozen?, hb]⟩
 have h1 : (cur.toList.take ss.length)[j]? = (ss.map enc)[j]? := by rw [ht]
 rw [List.getElem?_take_of_lt hj'] at h1
 simp only [World.cell?, hb, Nat.zero_add]
 simp only [Option.isSome_none, Bool.false_eq_true, if_false]
 rw [← Array.getElem?_toList, h1]
 simp [hj']
theorem heap_sortedV {w : World} {g n : Nat} {os : Array Obj} {cur : Array Value} {e : TypeId} {fr : Nat × Nat} (d : Array α) (hb : w.heap[g]? = some (.cells cur e fr)) :
  (sortWorld enc w g 0 n d os).heap[g]? = some (.cells (putCells enc 0 d cur) e fr) := by
 have hg : g < w.heap.size := (Array.getElem?_eq_some_iff.1 hb).1
 unfold sortWorld
 rw [heap_grow_old _ _ (by simpa using hg)]
 simp [putRow, mapBlock, Sort.ahead, Array.getElem?_modify, hb, onCells]
theorem grownBy_sortedV {w : World} {g n : Nat} {os : Array Obj} (d : Array α) : w.grownBy (sortWorld enc w g 0 n d os) (some g) := by
 unfold sortWorld
 refine ⟨rfl, rfl, rfl, by simp, fun k hk hne => ?_⟩
 rw [heap_grow_old _ _ (by simpa using hk)]
 have : g ≠ k := fun e => hne (by rw [e])
 simp [putRow, mapBlock, Sort.ahead, Array.getElem?_modify, this]
theorem take_putCellsV (cur : Array Value) (ts : List α) (h : ts.length ≤ cur.size) : (putCells enc 0 ts.toArray cur).toList.take ts.length = ts.map enc := by
 apply List.ext_getElem?
 intro j
 by_cases hj : j < ts.length
 ·rw [List.getElem?_take_of_lt hj, Array.getElem?_toList]
  simp [putCells, hj, show j < cur.size by omega]
 ·rw [List.getElem?_take_eq_none (by omega), List.getElem?_eq_none (by simp; omega)]
theorem ownsRow_sortedV {w : World} {base g cap n : Nat} {e : TypeId} {os : Array Obj} {cur : Array Value} {ss ts : List α} (hl : ts.length = ss.length) (hbase : base ≤ g) (hb : w.heap[g]? = some (.cells cur e (0, 0)))
  (h1 : ss.length ≤ cap) (h2 : cap ≤ maxLen) (h3 : cur.size = cap * 1) :
  (sortWorld enc w g 0 n ts.toArray os).ownsRow base e 1 (.slice (some ⟨g, 0, none⟩) ss.length cap) ss.length (ts.map enc) :=
 ⟨by simp [hl], .inr ⟨g, cap, _, rfl, hbase, heap_sortedV _ hb, h1, h2, by simp [putCells, h3], by rw [Nat.mul_one, ← hl]; exact take_putCellsV cur ts (by omega)⟩⟩
end
def encAt (vs : List Value) (k : Nat) : Value := if k < vs.length then gt vs k else .slice none 0 0
def cfAt (L : List (List Int)) (i j : Nat) : Int := cmpL (gt L i) (gt L j)
theorem ltOf_true {L : List (List Int)} {x y : Nat} : ltOf (cfAt L) x y = true ↔ cmpL (gt L x) (gt L y) < 0 := by unfold ltOf; rw [decide_eq_true_iff]; rfl
theorem ltOf_false {L : List (List Int)} {x y : Nat} : ltOf (cfAt L) x y = false ↔ 0 ≤ cmpL (gt L x) (gt L y) := by
 unfold ltOf; rw [decide_eq_false_iff_not]; show ¬ (cmpL (gt L x) (gt L y) < 0) ↔ _; omega
theorem swo_cfAt (L : List (List Int)) : SWO (ltOf (cfAt L)) where
 irrefl x := by
  have := (cmpL_zero (gt L x) (gt L x)).2 rfl
  rw [ltOf_false]; omega
 trans x y z h k := by
  rw [ltOf_true] at *
  have h1 := cmpL_le_trans (gt L x) (gt L y) (gt L z) (by omega) (by omega)
  have h2 : cmpL (gt L x) (gt L z) ≠ 0 := by
   intro e
   rw [cmpL_zero] at e
   rw [e] at h
   have := cmpL_swap (gt L z) (gt L y)
   omega
  omega
 ntrans x y z h k := by
  rw [ltOf_false] at *
  have h1 := cmpL_swap (gt L x) (gt L y)
  have h2 := cmpL_swap (gt L y) (gt L z)
  have h3 := cmpL_swap (gt L x) (gt L z)
  have h4 := cmpL_le_trans (gt L z) (gt L y) (gt L x) (by omega) (by omega)
  omega
theorem encAt_one {vs : List Value} (h : ∀ i, i < vs.length → (gt vs i).oneCell' = true) : OneCell (encAt vs) := by
 intro k
 unfold encAt
 split
 ·exact h k (by assumption)
 ·rfl
theorem gt_inj {α : Type} [Inhabited α] {l : List α} (h : l.Nodup) {i j : Nat} (hi : i < l.length) (hj : j < l.length) (he : gt l i = gt l j) : i = j := by
 simp only [gt, List.getD_eq_getElem?_getD, List.getElem?_eq_getElem hi, List.getElem?_eq_getElem hj, Option.getD_some] at he
 rcases Nat.lt_trichotomy i j with h1 | h1 | h1
 ·exact absurd he (List.pairwise_iff_getElem.1 h i j hi hj h1)
 ·exact h1
 ·exact absurd he.symm (List.pairwise_iff_getElem.1 h j i hj hi h1)
theorem sortRows_ok (w : World) (v : Value) (L : List (List Int)) (B : Nat) (hL : RowsO B w v L) (hne : 0 < L.length) (hlen : L.length ≤ 1000000) :
  Calls Tryz.prog 247 #[v, .func (.func 245) #[] #[]] w fun e w' => e = .returned (.tuple #[]) ∧ RowsO B w' v (sortL L) ∧ w.grownBy w' v.ownBlock := by
 obtain ⟨vs, G, hvl, hO, hG, hd, hE⟩ := hL
 obtain ⟨_, ⟨rfl, h0⟩ | ⟨g, cap, cur, rfl, hBg, hb, hnc, hcm, hsz, hx⟩⟩ := hO
 ·omega
 have hgs : g < w.heap.size := (Array.getElem?_eq_some_iff.1 hb).1
 have hone : OneCell (encAt vs) := encAt_one fun i hi => by
  exact rdOwn.one (hE i (by omega))
 have hmap : (List.range L.length).map (encAt vs) = vs := by
  apply List.ext_getElem (by simp [hvl])
  intro j h1 h2
  simp [encAt, gt, h2]
 have hH : Go.Sort.Holds (encAt vs) w g 0 (List.range L.length).toArray := holds_of_blockV hb (by rw [hmap, List.length_range, ← hvl]; simpa using hx)
 have eg : ∀ args w, (callFunc 245 args).run Tryz.prog w = .ok (.enter 245 args) w := enters_of Tryz.func245 (by kernel_rfl) rfl
 have hcmp : CmpReads Tryz.prog 245 #[] (encAt vs) (cfAt L) g 0 (List.range L.length).toArray.size w := by
  intro m os dk _ x y
  have hgr : w.grownBy (sortWorld (encAt vs) w g 0 m dk os) (some g) := grownBy_sortedV dk
  have hread : ∀ k, Ints Any (sortWorld (encAt vs) w g 0 m dk os) (encAt vs k) (gt L k) := by
   intro k
   by_cases hk : k < vs.length
   ·have he := (hE k (by omega)).ints
    unfold encAt
    rw [if_pos hk]
    exact Ints.mono he (fun b hb2 hlt => ⟨trivial, Nat.lt_of_lt_of_le hlt hgr.size, hgr.block b hlt (fun e => (hG k b (by omega) hb2).2.1 (by cases e; rfl))⟩)
   ·have h1 : gt L k = [] := by simp [gt, show ¬ k < L.length by omega]; rfl
    unfold encAt
    rw [if_neg hk, h1]
    exact ⟨none, 0, rfl, ⟨by simp, by simp, fun _ => rfl⟩, fun i hi => by simp at hi⟩
  refine (sCompare_ok _ _ _ _ _ _ _ (hread x) (hread y)).mono ?_
  rintro e w' ⟨rfl, rfl⟩
  exact ⟨rfl, 0, rfl⟩
 have hcon := Any.slices_SortFunc Tryz.sortRows (encAt vs) hone (cfAt L) (swo_cfAt L) 245 #[] g 0 cap (List.range L.length).toArray w eg hcmp.lays hH hgs (by simp; omega)
 change Calls Tryz.prog 247 _ _ _ at hcon
 have hsz2 : (List.range L.length).toArray.size = vs.length := by simp [hvl]
 rw [hsz2] at hcon
 refine hcon.mono ?_
 rintro e w' ⟨he, d', n, os, ⟨hs1, _, hperm⟩, hsorted, rfl⟩
 have hts : d'.toList.length = L.length := by simpa [hvl] using hs1
 have hP : d'.toList.Perm (List.range L.length) := by
  have h1 : d'.extract 0 vs.length = d' := by
   apply Array.ext'
   rw [hvl, ← hts]; simp
  have h2 : (List.range L.length).toArray.extract 0 vs.length = (List.range L.length).toArray := by
   apply Array.ext'
   rw [hvl]; simp
  rw [h1, h2] at hperm
  simpa using hperm
 have hin : ∀ i, i < L.length → gt d'.toList i < L.length := fun i hi => by
  have := hP.subset (gt_mem (l := d'.toList) (i := i) (by omega))
  simpa using this
 have hnd : d'.toList.Nodup := hP.symm.nodup List.nodup_range
 have hmapL : (List.range L.length).map (gt L) = L := by
  apply List.ext_getElem (by simp)
  intro j h1 h2
  simp [gt, h2]
 have hsort : d'.toList.map (gt L) = sortL L := by
  refine sortL_unique ?_ ?_
  ·have := hP.map (gt L)
   rwa [hmapL] at this
  ·refine List.pairwise_iff_getElem.2 ?_
   intro i j hi hj hij
   have hi' : i < d'.size := by simpa using hi
   have hj' : j < d'.size := by simpa using hj
   have h1 := hsorted i j (Nat.zero_le _) hij (by rw [hs1, hsz2] at hj'; exact hj')
   rw [ltOf_false, getElem!_pos d' i hi', getElem!_pos d' j hj'] at h1
   have h2 := cmpL_swap (gt L d'[j]) (gt L d'[i])
   simp only [List.getElem_map, Array.getElem_toList]
   omega
 have hgr : w.grownBy (sortWorld (encAt vs) w g 0 n d' os) (some g) := grownBy_sortedV d'
 have hgv : ∀ i, i < L.length → gt (d'.toList.map (encAt vs)) i = gt vs (gt d'.toList i) := fun i hi => by
  have h1 : gt (d'.toList.map (encAt vs)) i = encAt vs (gt d'.toList i) := gt_map _ _ _ (by omega)
  rw [h1]; unfold encAt; rw [if_pos (by rw [hvl]; exact hin i hi)]
 have hgL : ∀ i, i < L.length → gt (sortL L) i = gt L (gt d'.toList i) := fun i hi => by
  rw [← hsort]; exact gt_map _ _ _ (by omega)
 have hsl : (sortL L).length = L.length := (sortL_perm L).length_eq
 refine ⟨he, ⟨d'.toList.map (encAt vs), fun i k => G (gt d'.toList i) k, by simp [hsl, ← hts], ?_, ?_, ?_, ?_⟩, hgr⟩
 ·have := ownsRow_sortedV (enc := encAt vs) (n := n) (os := os) (ss := List.range L.length) (ts := d'.toList) (by rw [hts, List.length_range]) hBg hb (by rw [List.length_range, ← hvl]; exact hnc) hcm hsz
  rw [List.length_range, ← hvl] at this
  unfold OwnV
  rw [show (d'.toList.map (encAt vs)).length = vs.length by rw [List.length_map, hts, hvl]]
  simpa using this
 ·intro i k hi hk
  obtain ⟨a1, a2, a3⟩ := hG _ k (hin i (by omega)) hk
  exact ⟨a1, a2, Nat.lt_of_lt_of_le a3 hgr.size⟩
 ·intro i j k hi hj hk hk'
  exact gt_inj hnd (by omega) (by omega) (hd _ _ k (hin i (by omega)) (hin j (by omega)) hk hk')
 ·intro i hi
  show OwnIn _ _ _ _
  rw [hgv i (by omega), hgL i (by omega)]
  have he := hE _ (hin i (by omega))
  exact rdOwn.mono he (fun b hb2 hlt => ⟨hb2, Nat.lt_of_lt_of_le hlt hgr.size, hgr.block b hlt (fun e => (hG _ b (hin i (by omega)) hb2).2.1 (by cases e; rfl))⟩)
end Go.Proofs.YtdcobapnlpeaaaaGreat
namespace Go.Proofs.YtdcobapnlpeaaaaGreat
open Go.RowKit
def Rest (m : Nat) (F : Nat → Nat → Prop) (i n : Nat) : Nat → Prop := fun k => k < m ∧ ∃ j, i ≤ j ∧ j < n ∧ F j k
theorem SlOA.nil {α : Type} [Inhabited α] (El : (Nat → Prop) → World → Value → α → Prop) (E B : Nat) (A : Nat → Prop) (w : World) : SlOA El E B A w (.slice none 0 0) ([] : List α) :=
 ⟨[], fun _ _ => False, rfl, World.ownsRow_nil _ _ _ _, by simp, by simp, by simp, by simp, by simp [Value.ownBlock]⟩
set_option maxRecDepth 100000 in
set_option maxHeartbeats 4000000 in
theorem elementsOf_ok (P : Pr) (G : Grp P) (w : World) (p uv : Value) (U : List (List Int)) (Sp Su : Nat → Prop) (hp : PresP Sp w p P) (hu : Rows2 Su w uv U) (hU : SeqOk P U) (hl : U.length ≤ 6) :
  Calls Tryz.prog 162 #[p, uv] w (Ret w fun w' v => RowsO w.heap.size w' v (sortL (elsP P U U.length))) := by
 have hP := G.v
 have hn6 := hP.n6
 obtain ⟨pb, po, rfl⟩ := hp.shape
 obtain ⟨ao, capo, hco0, hoi⟩ := hp.ordAt
 obtain ⟨au, capu, rfl, _, _⟩ := Sl.shape hu
 have hUz : ∀ z ∈ U, dep z < z.length := fun z hz => by have := hU.1 z hz; rw [this.1.1]; exact this.2.1
 have HU := Lib.hid hU; clear hU
 go_enter Tryz.func162, Tryz.ntmps162
 go_wp2_with (first | (at_make; refine wp_make_ints rfl _ _ rfl w.heap.size P.orders.length w.heap.size rfl _ rfl rfl rfl (by omega) (Nat.le_refl _) ?_; intro w1 ho1 hg1 hlt1) | fail)
 have hz1 : OwnIn (From w.heap.size) w1 (.slice (some ⟨w.heap.size, 0, none⟩) P.orders.length P.orders.length) (zeros P.orders.length) := OwnIn.of ho1 (by simp [zeros]; omega) (fun j h1 _ => h1)
 have hO1 := rowsOne hz1 hg1.size
 have hga : Ext w1 (w1.alloc (.cells #[.slice (some ⟨w.heap.size, 0, none⟩) P.orders.length P.orders.length] 24)) := World.grownBy_alloc _ _ _
 have hg2 := grown_trans hg1 hga
 clear ho1 hz1 hga hg1 hlt1
 generalize hw2 : w1.alloc (.cells #[.slice (some ⟨w.heap.size, 0, none⟩) P.orders.length P.orders.length] 24) = w2 at *
 clear hw2
 refine Calls.mono (pivots_ok _ U w2 Su (Rows2.ext hu hg2) hUz (by omega)) ?_
 rintro e3 w3 ⟨pv, rfl, hg3, hV3⟩
 have hg03 := grown_trans hg2 hg3
 have hO3 := SlO.ext rdOwn hO1 hg3
 clear hO1 hg2 hg3 hUz
 have hpvs : ∃ az capz, pv = .slice az U.length capz := by
  rcases hV3.form with ⟨h1, h2⟩ | ⟨g, cp, h1, _⟩
  ·have h3 : U.length = 0 := by unfold depV at h2; rw [List.map_eq_nil_iff] at h2; rw [h2]; rfl
   exact ⟨none, 0, by rw [h1, h3]⟩
  ·exact ⟨_, _, by rw [h1]; unfold depV; rw [List.length_map]⟩
 obtain ⟨ap, capp, rfl⟩ := hpvs
 go_wp2
 go_loopw [5, 21] (fun ov iv wr => ∃ (k : Nat) (v4 : Value), v4 = ov ∧ iv = .int .i64 k ∧ k ≤ U.length ∧ Ext w3 wr ∧ RowsO w.heap.size wr v4 (elsP P U k)) (fun _ iv _ => U.length - (intOf iv).toNat)
 case atStart => exact ⟨0, _, rfl, rfl, by omega, Ext.refl _, hO3⟩
 case round =>
  clear hO3
  obtain ⟨k, v4, rfl, rfl, hk, hg, hO⟩ := hrel
  have hXl0 := elsP_len hP HU.out k hk
  have hX729 := prodU_729 hP HU.out k hk
  by_cases hlt : k < U.length
  ·have hlt' : (k : Int) < U.length := by omega
   have hdi : gt (depV U) k = .int .i64 (dep (gt U k)) := by unfold depV; rw [gt_map _ _ _ hlt]
   have hpf : ∃ g, ap = some ⟨g, 0, none⟩ := by
    rcases hV3.form with ⟨h1, h2⟩ | ⟨g, cp, h1, _⟩
    ·unfold depV at h2; rw [List.map_eq_nil_iff] at h2; rw [h2] at hlt; simp at hlt
    ·simp only [Value.slice.injEq] at h1; exact ⟨g, h1.1⟩
   obtain ⟨gp, rfl⟩ := hpf
   have hcp3 := hV3.cell k (by unfold depV; rw [List.length_map]; exact hlt)
   rw [hdi] at hcp3
   clear hdi
   have hcp := hg.cell hcp3 (by simp)
   clear hcp3
   obtain ⟨d, hd⟩ : ∃ d, d = dep (gt U k) := ⟨_, rfl⟩
   obtain ⟨z, hz⟩ : ∃ z, z = gt U k := ⟨_, rfl⟩
   have hdn : d < P.orders.length := by rw [hd]; exact (HU.out.1 _ (gtMem hlt)).2.1
   have hzV : Vec P.orders z := by rw [hz]; exact (HU.out.1 _ (gtMem hlt)).1
   obtain ⟨o, ho⟩ : ∃ o, o = (gt P.orders d).toNat := ⟨_, rfl⟩
   have ho7 := hP.ord7 d hdn
   have hoo : gt P.orders d = (o : Int) := by omega
   obtain ⟨X, hX⟩ : ∃ X, X = elsP P U k := ⟨_, rfl⟩
   have hXn : elsP P U (k + 1) = X.flatMap (stepE P z o) := by rw [hX, ho, hd, hz]; rfl
   have hXV : ∀ x ∈ X, Vec P.orders x := by rw [hX]; exact elsP_sub G.sub_all (fun z hz => (HU.out.1 z hz).1) k hk
   rw [← hd] at hcp
   rw [← hX] at hO hXl0
   have hXl : X.length ≤ 729 := by omega
   have hX1 : 1 ≤ X.length := by omega
   clear hXl0 hX729
   obtain ⟨vs, F, hvl, hOv, hF, hFd, hFE⟩ := hO
   obtain ⟨gx, capx, hv4⟩ : ∃ gx capx, v4 = .slice (some ⟨gx, 0, none⟩) X.length capx := by
    rcases hOv.form with ⟨h1, h2⟩ | ⟨g, cp, h1, _⟩
    ·rw [h2] at hvl; simp at hvl; omega
    ·exact ⟨g, cp, by rw [h1, hvl]⟩
   subst hv4
   have HX := Lib.hid (And.intro hXn (And.intro hXV (And.intro hX (And.intro hd (And.intro hz ho))))); clear hXn hXV hX hd ho
   obtain ⟨wo, rfl⟩ : ∃ wo : World, wo = wr := ⟨_, rfl⟩
   have hgw := grown_trans hg03 hg
   obtain ⟨bo, oo, rfl, _, _, hcod⟩ := Ints.at (hoi.ext hgw) d hdn
   have hc0 := hgw.cell hco0 (by simp)
   obtain ⟨bu, ou, a2, cap2, hau, _, _, hcu, hui⟩ := Rows2.at hu k hlt
   subst hau
   rw [← hz] at hcu hui
   have hcu := hgw.cell hcu (by simp)
   clear hz
   have hdn' : (d : Int) < P.orders.length := by omega
   have HC := Lib.hid (And.intro hc0 (And.intro hcod hcu)); clear hc0 hcod hcu
   go_wp2
   clear hcp
   go_loopw [8, 28] (fun nv jv wr => ∃ (j : Nat) (v5 : Value), v5 = nv ∧ jv = .int .i64 j ∧ j ≤ X.length ∧ Ext wo wr ∧ SlOA OwnIn 24 w.heap.size (Rest wo.heap.size F j X.length) wr v5 ((X.take j).flatMap (stepE P z o)) ∧ Hid (∀ b, v5.ownBlock = some b → wo.heap.size ≤ b)) (fun _ jv _ => X.length - (intOf jv).toNat)
   case atStart => exact ⟨0, _, rfl, rfl, by omega, Ext.refl _, SlOA.nil _ _ _ _ _, Lib.hid (fun b hb => by simp [Value.ownBlock] at hb)⟩
   case round =>
    obtain ⟨j, v5, rfl, rfl, hj, hgm, hA, hob⟩ := hrel
    by_cases hjl : j < X.length
    ·have hjl' : (j : Int) < X.length := by omega
     have hxE := hFE j hjl
     obtain ⟨ax, cx, hvx, _, _⟩ := hxE.ints.shape
     have hcx := hgm.cell (hOv.cell j (by omega)) (by simp)
     rw [hvx] at hcx hxE
     have hc0 := hgm.cell HC.out.1 (by simp)
     have hcod := hgm.cell HC.out.2.1 (by simp)
     rw [hoo] at hcod
     have hxV := HX.out.2.1 _ (gtMem hjl)
     have hxe : rMul P (gt X j) (pw P z 0) = gt X j := G.grp.er _ hxV
     have hpl : ((X.take j).flatMap (stepE P z o)).length ≤ 729 * 7 := by
      rw [flatMap_len, List.length_take]
      exact Nat.mul_le_mul (by omega) (by omega)
     have HPL := Lib.hid (And.intro hxV (And.intro hxe hpl)); clear hxV hxe hpl hvx
     obtain ⟨x, hx⟩ : ∃ x, x = gt X j := ⟨_, rfl⟩
     rw [← hx] at hcx hxE HPL
     have HXJ := Lib.hid hx; clear hx
     have hxE2 := rdOwn.mono (F' := F j) hxE (fun b hb hlt => ⟨hb, Nat.lt_of_lt_of_le hlt hgm.size, hgm.block b hlt (by simp)⟩)
     go_wp2
     clear hc0 hcod hcx
     go_loopw [8, 10, 39] (fun nv xv tv wr => ∃ (t : Nat) (v6 : Value) (Y : List Int) (A Fx : Nat → Prop), v6 = nv ∧ tv = .int .i64 t ∧ t ≤ o ∧ Ext wo wr ∧ OwnIn Fx wr xv Y ∧ SlOA OwnIn 24 w.heap.size A wr v6 ((X.take j).flatMap (stepE P z o) ++ stepE P z t x) ∧
       Hid (Y = rMul P x (pw P z t) ∧ (∀ b, Fx b → b < wr.heap.size → A b ∧ w.heap.size ≤ b) ∧ (∀ b, Rest wo.heap.size F (j + 1) X.length b → A b ∧ ¬ Fx b) ∧ (∀ b, A b → b < wr.heap.size) ∧ ∀ b, v6.ownBlock = some b → wo.heap.size ≤ b)) (fun _ _ tv _ => o - (intOf tv).toNat)
     case atStart =>
      refine ⟨0, v5, x, Rest wo.heap.size F j X.length, F j, rfl, rfl, by omega, hgm, hxE2, ?_, Lib.hid ⟨HPL.out.2.1.symm, fun b hb _ => ?_, fun b hb => ?_, fun b hb => Nat.lt_of_lt_of_le hb.1 hgm.size, hob.out⟩⟩
      ·unfold stepE; rw [List.range_zero, List.map_nil, List.append_nil]; exact hA
      ·obtain ⟨f1, _, f3⟩ := hF j b hjl hb
       exact ⟨⟨f3, j, Nat.le_refl _, hjl, hb⟩, f1⟩
      ·obtain ⟨h1, i, h2, h3, h4⟩ := hb
       exact ⟨⟨h1, i, by omega, h3, h4⟩, fun h => by have := hFd i j b h3 hjl h4 h; omega⟩
     case round =>
      clear hxE2 hA hob hxE
      obtain ⟨t, v6, Y, A, Fx, rfl, rfl, ht, hgi, hxv, hA, hH⟩ := hrel
      by_cases htl : t < o
      ·have htl' : (t : Int) < o := by omega
       obtain ⟨ay, cy, hvy, _, _⟩ := hxv.ints.shape
       subst hvy
       have hgwr := grown_trans hgw hgi
       have hYV : Vec P.orders Y := by rw [hH.out.1]; exact G.mulV HPL.out.1 (G.pw_vec hzV t)
       have hYn : tv P Y z = rMul P x (pw P z (t + 1)) := by rw [G.tv_eq hYV hzV, hH.out.1, G.step_mul HPL.out.1 hzV]
       have hsl : ((X.take j).flatMap (stepE P z o) ++ stepE P z t x).length ≤ 1000000 := by
        rw [List.length_append, stepE_len]; have := HPL.out.2.2; omega
       have hYV2 := G.mulV HPL.out.1 (G.pw_vec hzV (t + 1))
       have HY := Lib.hid (And.intro hYV (And.intro hYn (And.intro hsl hYV2))); clear hYV hYn hsl hYV2
       have hcur := hgi.cell HC.out.2.2 (by simp)
       go_wp2_with (first | (at_builtin; refine wp_app_take rfl _ _ rfl w.heap.size A (Rest wo.heap.size F (j + 1) X.length) Fx wr v6 _ _ Y rfl hA hxv hH.out.2.1 hH.out.2.2.1 hH.out.2.2.2.1 rfl rfl HY.out.2.2.1 hgwr.size ?_; intro v7 w7 hA7 hg7 hob7; have hcur7 := grown_own hgi hg7 (fun b hb hlt => by have := hH.out.2.2.2.2 b hb; omega); have hcu7 := hcur7.cell HC.out.2.2 (by simp)) | fail)
       have hxv7 : Ints Any w7 (.slice ay Y.length cy) Y := Ints.mono hxv.ints (fun b hb hlt => ⟨trivial, Nat.lt_of_lt_of_le hlt hg7.size, hg7.block b hlt (fun e => by
        obtain ⟨a1, _⟩ := hH.out.2.1 b hb hlt
        exact (hA.avoids b e.symm).1 a1)⟩)
       have hgw7 := grown_trans hgw hcur7
       refine Calls.mono (multiply_ok P hP w7 _ _ _ Y z Sp Any Su (hp.ext hgw7) hxv7 (Ints.ext hui hgw7) HY.out.1 hzV) ?_
       rintro eC wC ⟨vC, rfl, hgC, hOC⟩
       rw [HY.out.2.1] at hOC
       have hOC2 : OwnIn (fun b => w7.heap.size ≤ b ∧ b < wC.heap.size) wC vC (rMul P x (pw P z (t + 1))) := OwnIn.of hOC (by rw [HY.out.2.2.2.1]; omega) (fun j h1 h2 => ⟨h1, h2⟩)
       have hA8 : SlOA OwnIn 24 w.heap.size (fun b => Rest wo.heap.size F (j + 1) X.length b ∨ (w7.heap.size ≤ b ∧ b < wC.heap.size)) wC v7 ((X.take j).flatMap (stepE P z o) ++ stepE P z (t + 1) x) := by
        rw [stepE_succ, ← List.append_assoc, ← hH.out.1]
        exact (hA7.more (fun b hb => hb.elim .inl (fun h => .inr h.1))).ext rdOwn hgC
       have hH2 : Hid ((∀ b, (w7.heap.size ≤ b ∧ b < wC.heap.size) → b < wC.heap.size → (Rest wo.heap.size F (j + 1) X.length b ∨ (w7.heap.size ≤ b ∧ b < wC.heap.size)) ∧ w.heap.size ≤ b) ∧ (∀ b, Rest wo.heap.size F (j + 1) X.length b → (Rest wo.heap.size F (j + 1) X.length b ∨ (w7.heap.size ≤ b ∧ b < wC.heap.size)) ∧ ¬ (w7.heap.size ≤ b ∧ b < wC.heap.size)) ∧
         (∀ b, Rest wo.heap.size F (j + 1) X.length b ∨ (w7.heap.size ≤ b ∧ b < wC.heap.size) → b < wC.heap.size) ∧ ∀ b, v7.ownBlock = some b → wo.heap.size ≤ b) := by
        refine Lib.hid ⟨fun b hb _ => ⟨.inr hb, by have := hgw7.size; omega⟩, fun b hb => ⟨.inl hb, fun h => by have := hb.1; have := hcur7.size; omega⟩, fun b hb => ?_, fun b hb => ?_⟩
        ·rcases hb with h | h
         ·have := h.1; have := hcur7.size; have := hgC.size; omega
         ·exact h.2
        ·rcases hob7 with h | h
         ·exact hH.out.2.2.2.2 b (by rw [← h]; exact hb)
         ·have := h b hb; have := hgi.size; omega
       clear hA hH hxv hA7 hob7 hOC hxv7 hcu7 hcur
       go_wp2
       go_roundw
       case rel => exact ⟨t + 1, v7, _, _, _, rfl, by go_num, by omega, grown_trans hcur7 hgC, hOC2, hA8, Lib.hid ⟨rfl, hH2.out⟩⟩
       case measure => simp [intOf]; omega
      ·have hte : t = o := by omega
       subst hte
       have hst := flatMap_take_succ X (stepE P z t) j hjl
       rw [← HXJ.out] at hst
       have hA9 : SlOA OwnIn 24 w.heap.size (Rest wo.heap.size F (j + 1) X.length) wr v6 ((X.take (j + 1)).flatMap (stepE P z t)) := by
        rw [hst]; exact hA.less (fun b hb => (hH.out.2.2.1 b hb).1)
       have hob9 := Lib.hid hH.out.2.2.2.2
       clear hst hA hH hxv
       go_wp2
       go_roundw
       case rel => exact ⟨j + 1, v6, rfl, by go_num, by omega, hgi, hA9, hob9⟩
       case measure => simp [intOf]; omega
    ·have hje : j = X.length := by omega
     subst hje
     have hO9 : RowsO w.heap.size wr v5 (elsP P U (k + 1)) := by
      rw [HX.out.1]
      have := hA.o
      rw [List.take_length] at this
      exact this
     clear hA hob
     go_wp2
     go_roundw
     case rel => exact ⟨k + 1, v5, rfl, by go_num, by omega, grown_trans hg hgm, hO9⟩
     case measure => simp [intOf]; omega
  ·have hke : k = U.length := by omega
   subst hke
   have hne : 0 < (elsP P U U.length).length := by omega
   have hl9 : (elsP P U U.length).length ≤ 1000000 := by omega
   obtain ⟨az, capz, hvz, _, _⟩ := SlD.shape (hO.toD (by omega))
   have HN := Lib.hid (And.intro hne hl9); clear hXl0 hX729 hne hl9
   subst hvz
   go_wp2_with fail
   refine Calls.mono (sortRows_ok wr _ (elsP P U U.length) w.heap.size hO HN.out.1 HN.out.2) ?_
   rintro eS wS ⟨rfl, hOS, hgS⟩
   have hgwS : Ext w wS := grown_own (grown_trans hg03 hg) hgS (fun b hb hlt => by have := (hO.lt b hb).1; omega)
   clear hO
   go_wp2
   go_ret
   exact ⟨_, rfl, hgwS, hOS⟩
end Go.Proofs.YtdcobapnlpeaaaaGreat
namespace Go.Proofs.YtdcobapnlpeaaaaGreat
open Go.RowKit
theorem elemsIn_len {P : Pr} (hP : Valid P) (H : List Int → Prop) : (elemsIn P H).length ≤ 729 := by
 have h1 := elemsTo_len P H (ordP P).toNat
 rw [elemsTo_all] at h1
 have h2 : ordP P ≤ 729 := hP.le729
 omega
end Go.Proofs.YtdcobapnlpeaaaaGreat
namespace Go.Proofs.YtdcobapnlpeaaaaGreat
open Go.RowKit
def gsOk (P : Pr) (L : List (List Int)) : Prop := rconsB P = true ∧ ∀ x ∈ L, Vec P.orders x
open Classical in
noncomputable def gsC (P : Pr) (L : List (List Int)) : Int := if gsOk P L then (if 24 < L.length then 3 else 0) else 1
open Classical in
noncomputable def gsL (P : Pr) (L : List (List Int)) : List (List Int) := if gsOk P L ∧ ¬ 24 < L.length then cseq P (gU P L) else []
theorem gs_bad {P : Pr} {L : List (List Int)} (h : ¬ gsOk P L) : gsC P L = 1 ∧ gsL P L = [] := by
 unfold gsC gsL; rw [if_neg h, if_neg (fun hh => h hh.1)]; exact ⟨rfl, rfl⟩
theorem gs_big {P : Pr} {L : List (List Int)} (h : gsOk P L) (hl : 24 < L.length) : gsC P L = 3 ∧ gsL P L = [] := by
 unfold gsC gsL; rw [if_pos h, if_pos hl, if_neg (fun hh => hh.2 hl)]; exact ⟨rfl, rfl⟩
theorem gs_ok {P : Pr} {L : List (List Int)} (h : gsOk P L) (hl : ¬ 24 < L.length) : gsC P L = 0 ∧ gsL P L = cseq P (gU P L) := by
 unfold gsC gsL; rw [if_pos h, if_neg hl, if_pos ⟨h, hl⟩]; exact ⟨rfl, rfl⟩
set_option maxRecDepth 100000 in
set_option maxHeartbeats 4000000 in
theorem iGenSub_ok (P : Pr) (w : World) (pv lv : Value) (L : List (List Int)) (Sp Sr : Nat → Prop) (hpv : PresV Sp w pv P) (hl : Rows2 Sr w lv L) :
  Calls Tryz.prog 56 #[pv, lv] w (Ret w fun w' v => ∃ a n c, v = .tuple #[.slice a n c, .int .i64 (gsC P L)] ∧ RowsO w.heap.size w' (.slice a n c) (gsL P L)) := by
 obtain ⟨vo, vp, vc, rfl, h3⟩ := hpv
 have hp0 := PresP.box h3 28
 have hg0 : Ext w (w.alloc (.cells #[vo, vp, vc] 28)) := World.grownBy_alloc _ _ _
 have hs0 : (w.alloc (.cells #[vo, vp, vc] 28)).heap.size = w.heap.size + 1 := by simp
 have hl0 := Rows2.ext hl hg0
 obtain ⟨al, cl, rfl, _, _⟩ := Sl.shape hl
 have hE := areElements_ok P _ _ _ L Any Sr hp0 hl0
 have HS := Lib.hid hs0; clear hs0 hl
 go_enter Tryz.func56, Tryz.ntmps56
 go_wp2_with fail
 generalize hw0 : w.alloc (.cells #[vo, vp, vc] 28) = w0 at *
 clear hw0
 refine Calls.mono hE ?_
 rintro e1 w1 ⟨v1, rfl, hg1, r1, rfl, hr1⟩
 clear hE
 cases r1 with
 | false =>
  have hbad : ¬ gsOk P L := fun h => by have := hr1.2 h; cases this
  have HC := Lib.hid (gs_bad hbad); clear hbad hr1
  go_wp2
  go_ret2
  exact ⟨_, rfl, grown_trans hg0 hg1, none, 0, 0, by rw [HC.out.1]; rfl, by rw [HC.out.2]; exact SlO.nil _ _ _ _⟩
 | true =>
  have hok : gsOk P L := hr1.1 rfl
  clear hr1
  by_cases hb : 24 < L.length
  ·have HC := Lib.hid (gs_big hok hb); clear hok
   go_wp2
   go_ret2
   exact ⟨_, rfl, grown_trans hg0 hg1, none, 0, 0, by rw [HC.out.1]; rfl, by rw [HC.out.2]; exact SlO.nil _ _ _ _⟩
  ·have HC := Lib.hid (gs_ok hok hb)
   have G := grp_of_r hok.1
   have HV := Lib.hid hok.2; clear hok
   have hle : L.length ≤ 24 := by omega
   go_wp2_with fail
   refine Calls.mono (generated_ok P G w1 _ _ L Any Sr (hp0.ext hg1) (Rows2.ext hl0 hg1) HV.out (by omega)) ?_
   rintro e2 w2 ⟨v2, rfl, hg2, hO⟩
   have hcl : (cseq P (gU P L)).length ≤ P.orders.length := G.cseq_len (G.genP_sub HV.out)
   have hn6 := G.v.n6
   obtain ⟨ac, nc, cc, hvc⟩ : ∃ a n c, v2 = Value.slice a n c := by obtain ⟨a, c, e, _⟩ := Sl.shape (RowsD.rows (SlO.toD hO (by show (cseq P (gU P L)).length ≤ _; omega))); exact ⟨_, _, _, e⟩
   subst hvc
   have HO := Lib.hid hO; clear hO hcl
   have hsz := hg1.size
   go_wp2
   go_ret2
   exact ⟨_, rfl, grown_trans hg0 (grown_trans hg1 hg2), _, _, _, by rw [HC.out.1]; rfl, by rw [HC.out.2]; exact HO.out.weak (by have := HS.out; omega)⟩
set_option maxRecDepth 100000 in
set_option maxHeartbeats 4000000 in
theorem sGenSub_ok (P : Pr) (w : World) (pv lv : Value) (L : List (List Int)) (Sp Sr : Nat → Prop) (hpv : PresV Sp w pv P) (hl : Rows2 Sr w lv L) :
  Calls Tryz.prog 57 #[pv, lv] w (Ret w fun w' v => ∃ a n c, v = .tuple #[.slice a n c, .int .i64 (gsC P L)] ∧ Rows2 Any w' (.slice a n c) (gsL P L)) := by
 obtain ⟨vo, vp, vc, rfl, h3⟩ := hpv
 have hp0 := PresP.box h3 28
 have hg0 : Ext w (w.alloc (.cells #[vo, vp, vc] 28)) := World.grownBy_alloc _ _ _
 have hl0 := Rows2.ext hl hg0
 obtain ⟨al, cl, rfl, _, _⟩ := Sl.shape hl
 obtain ⟨vo6, vp6, vc6, _, _, hc0, hc1, hc2, h36⟩ := hp0.at
 simp only [Nat.zero_add] at hc1 hc2
 have hbx : ∀ w', Ext (w.alloc (.cells #[vo, vp, vc] 28)) w' → w'.cell? ⟨w.heap.size, 0, none⟩ = some vo6 ∧ w'.cell? ⟨w.heap.size, 1, none⟩ = some vp6 ∧ w'.cell? ⟨w.heap.size, 2, none⟩ = some vc6 := fun w' h => ⟨h.cell hc0 (by simp), h.cell hc1 (by simp), h.cell hc2 (by simp)⟩
 have HB := Lib.hid hbx; clear hbx
 have hE := l08Group_ok P (w.alloc (.cells #[vo, vp, vc] 28)) _ Any ⟨_, _, _, rfl, h36⟩
 obtain ⟨r, hr⟩ : ∃ r, r = rconsB P := ⟨_, rfl⟩
 rw [← hr] at hE
 clear hp0 hl
 go_enter Tryz.func57, Tryz.ntmps57
 go_wp2_with fail
 clear hc0 hc1 hc2
 generalize hw0 : w.alloc (.cells #[vo, vp, vc] 28) = w0 at *
 clear hw0
 refine Calls.mono hE ?_
 rintro e1 w1 ⟨v1, rfl, hg1, rfl⟩
 clear hE
 obtain ⟨hb0, hb1, hb2⟩ := HB.out w1 hg1
 cases r with
 | false =>
  have hbad : ¬ gsOk P L := fun h => by rw [h.1] at hr; cases hr
  have HC := Lib.hid (gs_bad hbad); clear hbad hr
  go_wp2
  go_ret2
  exact ⟨_, rfl, grown_trans hg0 hg1, none, 0, 0, by rw [HC.out.1]; rfl, by rw [HC.out.2]; exact ⟨none, 0, rfl, ⟨by simp, by simp, fun _ => rfl⟩, fun i hi => by simp at hi⟩⟩
 | true =>
  have G := grp_of_r hr.symm
  have HR := Lib.hid hr.symm; clear hr
  go_wp2_with fail
  clear hb0 hb1 hb2
  refine Calls.mono (l10Elements_ok P G.v w1 _ _ L Any Sr ⟨_, _, _, rfl, Pres3.ext h36 hg1⟩ (Rows2.ext hl0 hg1)) ?_
  rintro e2 w2 ⟨v2, rfl, hg2, r2, rfl, hr2⟩
  have hg12 := grown_trans hg1 hg2
  obtain ⟨hb0, hb1, hb2⟩ := HB.out w2 hg12
  cases r2 with
  | false =>
   have hbad : ¬ gsOk P L := fun h => by have := hr2.2 h.2; cases this
   have HC := Lib.hid (gs_bad hbad); clear hbad hr2
   go_wp2
   go_ret2
   exact ⟨_, rfl, grown_trans hg0 hg12, none, 0, 0, by rw [HC.out.1]; rfl, by rw [HC.out.2]; exact ⟨none, 0, rfl, ⟨by simp, by simp, fun _ => rfl⟩, fun i hi => by simp at hi⟩⟩
  | true =>
   have hok : gsOk P L := ⟨HR.out, hr2.1 rfl⟩
   clear hr2
   by_cases hb : 24 < L.length
   ·have HC := Lib.hid (gs_big hok hb); clear hok
    go_wp2
    go_ret2
    exact ⟨_, rfl, grown_trans hg0 hg12, none, 0, 0, by rw [HC.out.1]; rfl, by rw [HC.out.2]; exact ⟨none, 0, rfl, ⟨by simp, by simp, fun _ => rfl⟩, fun i hi => by simp at hi⟩⟩
   ·have HC := Lib.hid (gs_ok hok hb)
    have HV := Lib.hid hok.2; clear hok
    have hle : L.length ≤ 24 := by omega
    go_wp2_with fail
    clear hb0 hb1 hb2
    refine Calls.mono (l12Close_ok P G w2 _ _ L Any Sr ⟨_, _, _, rfl, Pres3.ext h36 hg12⟩ (Rows2.ext hl0 hg12) HV.out (by omega)) ?_
    rintro e3 w3 ⟨v3, rfl, hg3, hO⟩
    obtain ⟨ac, nc, cc, hvc⟩ : ∃ a n c, v3 = Value.slice a n c := by obtain ⟨a, c, e, _⟩ := Sl.shape hO; exact ⟨_, _, _, e⟩
    subst hvc
    have HO := Lib.hid hO; clear hO
    go_wp2
    go_ret2
    exact ⟨_, rfl, grown_trans hg0 (grown_trans hg12 hg3), _, _, _, by rw [HC.out.1]; rfl, by rw [HC.out.2]; exact HO.out⟩
set_option maxRecDepth 100000 in
set_option maxHeartbeats 4000000 in
theorem iIsSub_ok (P : Pr) (w : World) (pv uv : Value) (U : List (List Int)) (Sp Su : Nat → Prop) (hpv : PresV Sp w pv P) (hu : Rows2 Su w uv U) :
  Calls Tryz.prog 58 #[pv, uv] w (Ret w fun _ v => ∃ r : Bool, v = .bool r ∧ (r = true ↔ rconsB P = true ∧ SubB P U)) := by
 obtain ⟨vo, vp, vc, rfl, h3⟩ := hpv
 have hp0 := PresP.box h3 28
 have hg0 : Ext w (w.alloc (.cells #[vo, vp, vc] 28)) := World.grownBy_alloc _ _ _
 have hs0 : (w.alloc (.cells #[vo, vp, vc] 28)).heap.size = w.heap.size + 1 := by simp
 have hu0 := Rows2.ext hu hg0
 obtain ⟨au, capu, rfl, _, _⟩ := Sl.shape hu
 have hg1 : Ext (w.alloc (.cells #[vo, vp, vc] 28)) ((w.alloc (.cells #[vo, vp, vc] 28)).alloc (.cells #[.slice au U.length capu] 25)) := World.grownBy_alloc _ _ _
 have hl := rows3One hu0
 have hcon := areSubgroups_ok P _ _ _ [U] Any Any (hp0.ext hg1) hl
 rw [hs0] at hcon
 clear hl hu
 go_enter Tryz.func58, Tryz.ntmps58
 go_wp2_with fail
 refine Calls.mono hcon ?_
 rintro e1 w1 ⟨v1, rfl, hgA, r1, rfl, hr1⟩
 clear hcon
 have hg2 := grown_trans hg0 (grown_trans hg1 hgA)
 have HR := Lib.hid hr1; clear hr1 hs0
 go_wp2
 go_ret
 exact ⟨_, rfl, hg2, r1, rfl, by rw [HR.out]; simp⟩
end Go.Proofs.YtdcobapnlpeaaaaGreat
namespace Go.Proofs.YtdcobapnlpeaaaaGreat
open Go.RowKit
open Classical in
noncomputable def selC (P : Pr) (U : List (List Int)) : Int := if rconsB P = true ∧ SubB P U then (if 128 < prodU P U U.length then 3 else 0) else 1
open Classical in
noncomputable def selL (P : Pr) (U : List (List Int)) : List (List Int) := if selC P U = 0 then elemsIn P (genP P (fun x => x ∈ U)) else []
theorem selL_bad {P : Pr} {U : List (List Int)} (h : ¬ (rconsB P = true ∧ SubB P U)) : selC P U = 1 ∧ selL P U = [] := by
 have h1 : selC P U = 1 := by unfold selC; rw [if_neg h]
 exact ⟨h1, by unfold selL; rw [h1, if_neg (by decide)]⟩
theorem selL_big {P : Pr} {U : List (List Int)} (h : rconsB P = true ∧ SubB P U) (h2 : 128 < prodU P U U.length) : selC P U = 3 ∧ selL P U = [] := by
 have h1 : selC P U = 3 := by unfold selC; rw [if_pos h, if_pos h2]
 exact ⟨h1, by unfold selL; rw [h1, if_neg (by decide)]⟩
theorem selL_ok {P : Pr} {U : List (List Int)} (h : rconsB P = true ∧ SubB P U) (h2 : ¬ 128 < prodU P U U.length) : selC P U = 0 ∧ selL P U = elemsIn P (genP P (fun x => x ∈ U)) := by
 have h1 : selC P U = 0 := by unfold selC; rw [if_pos h, if_neg h2]
 exact ⟨h1, by unfold selL; rw [h1, if_pos rfl]⟩
set_option maxRecDepth 100000 in
set_option maxHeartbeats 4000000 in
theorem iSubEl_ok (P : Pr) (w : World) (pv uv : Value) (U : List (List Int)) (Sp Su : Nat → Prop) (hpv : PresV Sp w pv P) (hu : Rows2 Su w uv U) :
  Calls Tryz.prog 59 #[pv, uv] w (Ret w fun w' v => ∃ a n c, v = .tuple #[.slice a n c, .int .i64 (selC P U)] ∧ RowsO w.heap.size w' (.slice a n c) (selL P U)) := by
 obtain ⟨vo, vp, vc, rfl, h3⟩ := hpv
 have hp0 := PresP.box h3 28
 have hg0 : Ext w (w.alloc (.cells #[vo, vp, vc] 28)) := World.grownBy_alloc _ _ _
 have hs0 : (w.alloc (.cells #[vo, vp, vc] 28)).heap.size = w.heap.size + 1 := by simp
 have hu0 := Rows2.ext hu hg0
 obtain ⟨au, capu, rfl, _, _⟩ := Sl.shape hu
 have hg1 : Ext (w.alloc (.cells #[vo, vp, vc] 28)) ((w.alloc (.cells #[vo, vp, vc] 28)).alloc (.cells #[.slice au U.length capu] 25)) := World.grownBy_alloc _ _ _
 have hl := rows3One hu0
 have hcon := areSubgroups_ok P _ _ _ [U] Any Any (hp0.ext hg1) hl
 rw [hs0] at hcon
 clear hl hu
 go_enter Tryz.func59, Tryz.ntmps59
 go_wp2_with fail
 refine Calls.mono hcon ?_
 rintro e1 w1 ⟨v1, rfl, hgA, r1, rfl, hr1⟩
 clear hcon
 have hr1 : r1 = true ↔ rconsB P = true ∧ SubB P U := by rw [hr1]; simp
 have hg01 := grown_trans hg1 hgA
 have HS := Lib.hid hs0; clear hs0
 generalize hw0 : w.alloc (.cells #[vo, vp, vc] 28) = w0 at *
 clear hw0 hg1 hgA
 have hp1 := hp0.ext hg01
 have hu1 := Rows2.ext hu0 hg01
 have hs1 : w.heap.size ≤ w1.heap.size := by have := hg01.size; have := HS.out; omega
 cases r1 with
 | false =>
  obtain ⟨hc, hL⟩ := selL_bad (P := P) (U := U) (fun h => by have := hr1.2 h; cases this)
  have HC := Lib.hid (And.intro hc hL); clear hc hL hr1
  go_wp2
  go_ret2
  exact ⟨_, rfl, grown_trans hg0 hg01, none, 0, 0, by rw [HC.out.1]; rfl, by rw [HC.out.2]; exact SlO.nil _ _ _ _⟩
 | true =>
  obtain ⟨hr, hS⟩ := hr1.1 rfl
  have G := grp_of_r hr
  have hSub := G.subB hS
  have hfac := G.seq_facts hSub
  rw [← hS.2] at hfac
  have hn6 := G.v.n6
  have hul := G.sub_len hS
  have hels := G.els_sorted hSub
  rw [← hS.2] at hels
  have HR := Lib.hid (And.intro hr (And.intro hS (And.intro hfac hels))); clear hr hS hfac hels hr1
  go_wp2_with fail
  refine Calls.mono (sizeOf_ok P G.v w1 _ _ U Any Su hp1 hu1 HR.out.2.2.1.1 (by omega)) ?_
  rintro e2 w2 ⟨v2, rfl, hg2, rfl⟩
  have hg02 := grown_trans hg01 hg2
  by_cases hb : 128 < prodU P U U.length
  ·obtain ⟨hc, hL⟩ := selL_big (P := P) (U := U) ⟨HR.out.1, HR.out.2.1⟩ hb
   have HC := Lib.hid (And.intro hc hL); clear hc hL
   go_wp2
   go_ret2
   exact ⟨_, rfl, grown_trans hg0 hg02, none, 0, 0, by rw [HC.out.1]; rfl, by rw [HC.out.2]; exact SlO.nil _ _ _ _⟩
  ·obtain ⟨hc, hL⟩ := selL_ok (P := P) (U := U) ⟨HR.out.1, HR.out.2.1⟩ hb
   have HC := Lib.hid (And.intro hc hL); clear hc hL
   go_wp2_with fail
   refine Calls.mono (elementsOf_ok P G w2 _ _ U Any Su (hp0.ext hg02) (Rows2.ext hu0 hg02) HR.out.2.2.1.1 (by omega)) ?_
   rintro e3 w3 ⟨v3, rfl, hg3, hO⟩
   rw [HR.out.2.2.2] at hO
   have hlen := elemsIn_len G.v (genP P (fun x => x ∈ U))
   obtain ⟨az, capz, hvz, _, _⟩ := SlD.shape (hO.toD (by omega))
   subst hvz
   go_wp2
   go_ret2
   exact ⟨_, rfl, grown_trans hg0 (grown_trans hg02 hg3), _, _, _, by rw [HC.out.1]; rfl, by rw [HC.out.2]; exact hO.weak (by have := hg02.size; have := HS.out; omega)⟩
end Go.Proofs.YtdcobapnlpeaaaaGreat
namespace Go.Proofs.YtdcobapnlpeaaaaGreat
open Go.Proofs Go.Shelf Go.RowKit Go.Lib
def Tryz.growRows_ren : Go.Shelf.Ren := ⟨fun | 4 => 253 | n => n, fun | 22 => 25 | 25 => 24 | 3 => 3 | 4 => 4 | 9 => 9 | 20 => 20 | 0 => 0 | n => n, fun | n => n⟩
theorem Tryz.growRows : Go.Proofs.Lays8.n4 Tryz.prog Tryz.growRows_ren := {
  mixed := by kernel_rfl
  f4 := ⟨Tryz.f253.name, by decide, Tryz.func253.trans (congrArg some (by kernel_rfl))⟩
  t0 := Tryz.underlying0
  a0 := Tryz.isAgg0
  z0 := Tryz.sizeOf0
  v0 := Tryz.zeroValue0
  t3 := Tryz.underlying3
  a3 := Tryz.isAgg3
  z3 := Tryz.sizeOf3
  v3 := Tryz.zeroValue3
  t4 := Tryz.underlying4
  a4 := Tryz.isAgg4
  z4 := Tryz.sizeOf4
  v4 := Tryz.zeroValue4
  t9 := Tryz.underlying9
  a9 := Tryz.isAgg9
  z9 := Tryz.sizeOf9
  v9 := Tryz.zeroValue9
  t20 := Tryz.underlying20
  a20 := Tryz.isAgg20
  z20 := Tryz.sizeOf20
  v20 := Tryz.zeroValue20
  t22 := Tryz.underlying25
  a22 := Tryz.isAgg25
  z22 := Tryz.sizeOf25
  v22 := Tryz.zeroValue25 }
end Go.Proofs.YtdcobapnlpeaaaaGreat
namespace Go.Proofs.YtdcobapnlpeaaaaGreat
open Go.RowKit
set_option maxRecDepth 100000 in
set_option maxHeartbeats 4000000 in
theorem iMember_ok (P : Pr) (hr : rconsB P = true) (w : World) (pv uv xv : Value) (U : List (List Int)) (X : List Int) (Sp Su Sx : Nat → Prop) (hpv : PresV Sp w pv P) (hu : Rows2 Su w uv U) (hx : Ints Sx w xv X) (hU : SubB P U) (hX : Vec P.orders X) :
  Calls Tryz.prog 29 #[pv, uv, xv] w (Ret w fun _ v => ∃ r : Bool, v = .tuple #[.bool r, .int .i64 0] ∧ (r = true ↔ gU P U X)) := by
 have G := grp_of_r hr
 have hn6 := G.v.n6
 obtain ⟨vo, vp, vc, rfl, h3⟩ := hpv
 have hp0 := PresP.box h3 28
 have hg0 : Ext w (w.alloc (.cells #[vo, vp, vc] 28)) := World.grownBy_alloc _ _ _
 have hs0 : (w.alloc (.cells #[vo, vp, vc] 28)).heap.size = w.heap.size + 1 := by simp
 have hu0 := Rows2.ext hu hg0
 have hx0 := Ints.ext hx hg0
 obtain ⟨au, capu, rfl, _, _⟩ := Sl.shape hu
 obtain ⟨ax, capx, rfl, _, _⟩ := hx.shape
 have hg1 : Ext (w.alloc (.cells #[vo, vp, vc] 28)) ((w.alloc (.cells #[vo, vp, vc] 28)).alloc (.cells #[.slice au U.length capu] 25)) := World.grownBy_alloc _ _ _
 have hl := rows3One hu0
 have hcon := areSubgroups_ok P _ _ _ [U] Any Any (hp0.ext hg1) hl
 rw [hs0] at hcon
 clear hl hu hx
 have hulU : U.length ≤ P.orders.length := G.sub_len hU
 have HH := Lib.hid (And.intro hr (And.intro hU ( And.intro hX ((trivial : True))))); clear hr hU hX
 go_enter Tryz.func29, Tryz.ntmps29
 go_wp2_with fail
 refine Calls.mono hcon ?_
 rintro e1 w1 ⟨v1, rfl, hgA, r1, rfl, hr1⟩
 clear hcon
 obtain rfl : r1 = true := hr1.2 (by have := HH.out; simp only [List.mem_cons, List.mem_nil_iff, or_false]; exact ⟨this.1, fun u hu => by subst hu; exact this.2.1⟩)
 clear hr1
 have hg01 := grown_trans hg1 hgA
 have HS := Lib.hid hs0; clear hs0
 generalize hw0 : (w.alloc (.cells #[vo, vp, vc] 28)) = w0 at *
 clear hw0 hg1 hgA
 have hp1 := hp0.ext hg01
 have hu1 := Rows2.ext hu0 hg01
 have hx1 := Ints.ext hx0 hg01
 have hex := isExponents_ok w1 _ _ P X Any Sx hp1 hx1 (fun i hi => by have := G.v.ord7 i hi; omega)
 rw [expB_vec.2 HH.out.2.2.1] at hex
 go_wp2_with fail
 refine Calls.mono hex ?_
 rintro _ _ ⟨rfl, rfl⟩
 clear hex
 have hu2 : Rows2 Su w1 (.slice au U.length capu) (cseq P (gU P U)) := by rw [← HH.out.2.1.2]; exact hu1
 have hcn := isMember_ok P G w1 _ _ _ (gU P U) X Any Su Sx (G.subB HH.out.2.1) hp1 hu2 hx1 HH.out.2.2.1
 have HC := Lib.hid hcn; clear hcn hu2
 go_wp2_with fail
 refine Calls.mono HC.out ?_
 rintro e2 w2 ⟨v2, rfl, hg2, r, rfl, hri⟩
 have HRI := Lib.hid hri; clear hri HC
 go_wp2
 go_ret2
 exact ⟨_, rfl, grown_trans hg0 (grown_trans hg01 hg2), r, rfl, HRI.out⟩
end Go.Proofs.YtdcobapnlpeaaaaGreat
namespace Go.Proofs.YtdcobapnlpeaaaaGreat
open Go.RowKit
theorem u64_bd (z : Int) : 0 ≤ IntKind.u64.wrap z ∧ IntKind.u64.wrap z < 18446744073709551616 := by
 have h : IntKind.u64.wrap z = z % 18446744073709551616 := by simp [IntKind.wrap, IntKind.signed, IntKind.bits]
 rw [h]
 exact ⟨Int.emod_nonneg _ (by decide), Int.emod_lt_of_pos _ (by decide)⟩
theorem below_bits (h : Int) (h0 : 0 ≤ h) (h1 : h < 18446744073709551616) : ∃ x : Int, 0 ≤ x ∧ x < 16777216 ∧ bits .and .u64 (h / 8589934592) 16777215 = x := by
 obtain ⟨n, rfl⟩ : ∃ n : Nat, h = n := ⟨h.toNat, by omega⟩
 have hq : n / 8589934592 < 2 ^ 64 := by omega
 have e := u64_and_nat (n / 8589934592) 16777215 hq (by decide)
 refine ⟨((n / 8589934592 &&& 16777215 : Nat) : Int), by omega, ?_, ?_⟩
 ·have := Nat.and_lt_two_pow (n := 24) (n / 8589934592) (y := 16777215) (by decide)
  have h2 : (2 : Nat) ^ 24 = 16777216 := by decide
  omega
 ·rw [← e]; rfl
end Go.Proofs.YtdcobapnlpeaaaaGreat
namespace Go.Proofs.YtdcobapnlpeaaaaGreat
open Go.RowKit
def DiceS (S : Nat → Prop) (w : World) (db : Nat) : Prop := ∃ (cv : Value) (i : Nat) (h : Int) (bs : List Int), Box3 w db cv (.int .i64 i) (.int .u64 h) ∧ Bytes S w cv bs ∧ i ≤ bs.length ∧ bs.length ≤ 4096 ∧ (∀ k, S k → k ≠ db) ∧ 0 ≤ h ∧ h < 18446744073709551616
theorem DiceS.keep {S : Nat → Prop} {w w' : World} {db : Nat} (h : DiceS S w db) (hs : w.heap.size ≤ w'.heap.size) (hb : ∀ k, (S k ∨ k = db) → k < w.heap.size → w'.heap[k]? = w.heap[k]?) : DiceS S w' db := by
 obtain ⟨cv, i, x, bs, h1, h2, h3⟩ := h
 exact ⟨cv, i, x, bs, h1.keep hs (hb db (.inr rfl) h1.1), Sl.mono h2 (fun k hk hlt => ⟨hk, Nat.lt_of_lt_of_le hlt hs, hb k (.inl hk) hlt⟩) (fun _ _ h => h), h3⟩
theorem DiceS.ext {S : Nat → Prop} {w w' : World} {db : Nat} (h : DiceS S w db) (hg : Ext w w') : DiceS S w' db := h.keep hg.size (fun k _ hlt => hg.block k hlt (by simp))
theorem DiceS.own {S : Nat → Prop} {w w' : World} {db : Nat} {r : Option Nat} (h : DiceS S w db) (hg : w.grownBy w' r) (hr : ∀ k, r = some k → ¬ S k ∧ k ≠ db) : DiceS S w' db :=
 h.keep hg.size (fun k hk hlt => hg.block k hlt (fun e => by
  obtain ⟨h1, h2⟩ := hr k e.symm
  rcases hk with h | h
  · exact h1 h
  · exact h2 h))
theorem DiceS.lt {S : Nat → Prop} {w : World} {db : Nat} (h : DiceS S w db) : db < w.heap.size := by
 obtain ⟨cv, i, x, bs, h1, h2⟩ := h
 exact h1.1
set_option maxRecDepth 100000 in
set_option maxHeartbeats 8000000 in
theorem rollS_ok (w : World) (cv : Value) (bs : List Int) (S : Nat → Prop) (seed : Int) (hbl : bs.length ≤ 4096) (hb : Bytes S w cv bs) :
  Calls Tryz.prog 51 #[cv, .int .u64 seed] w (Ret w fun w' v => ∃ db, v = .pointer (some ⟨db, 0, none⟩) ∧ w.heap.size ≤ db ∧ DiceS (fun k => S k ∧ k < w.heap.size) w' db) := by
 obtain ⟨a, cap, rfl, _, hlen⟩ := Sl.shape hb
 obtain ⟨h0, hh0⟩ : ∃ h0, h0 = IntKind.u64.wrap (IntKind.u64.wrap (seed * 7607) + (bs.length : Nat)) := ⟨_, rfl⟩
 have hb0 := u64_bd (IntKind.u64.wrap (seed * 7607) + (bs.length : Nat))
 rw [← hh0] at hb0
 have hbA := Box3.made w 138 (.slice a bs.length cap) (.int .i64 0) (.int .u64 h0)
 have hgA : Ext w (w.alloc (.cells #[.slice a bs.length cap, .int .i64 0, .int .u64 h0] 138)) := World.grownBy_alloc _ _ _
 go_enter Tryz.func51, Tryz.ntmps51
 go_wp2_with fail
 rw [← hh0]
 have HH := Lib.hid hh0; clear hh0
 generalize w.alloc (.cells #[.slice a bs.length cap, .int .i64 0, .int .u64 h0] 138) = w0 at *
 go_loopw [6] (fun iv wr => ∃ (i : Nat) (h : Int), iv = .int .i64 i ∧ i ≤ bs.length ∧ (0 ≤ h ∧ h < 18446744073709551616) ∧ Ext w wr ∧ Box3 wr w.heap.size (.slice a bs.length cap) (.int .i64 0) (.int .u64 h)) (fun iv _ => bs.length - (intOf iv).toNat)
 case atStart => exact ⟨0, h0, rfl, by omega, hb0, hgA, hbA⟩
 case round =>
  clear hbA hgA hb0
  obtain ⟨i, h, rfl, hi, hhb, hg, hB⟩ := hrel
  by_cases hlt : i < bs.length
  ·obtain ⟨b, off, rfl, hbS, hbl2, hcb, hx0, hx1⟩ := Bytes.at hb i hlt
   have hcr := hg.cell hcb (by simp)
   generalize gt bs i = x at hcb hcr hx0 hx1
   have hli : (i : Int) < (bs.length : Nat) := by omega
   obtain ⟨s2, hs2⟩ : ∃ s2, s2 = IntKind.u64.wrap (IntKind.u64.wrap (IntKind.u64.wrap (h * 1099511628211) + x) + 5) := ⟨_, rfl⟩
   have hs2b := u64_bd (IntKind.u64.wrap (IntKind.u64.wrap (h * 1099511628211) + x) + 5)
   rw [← hs2] at hs2b
   have hBs := (hB.put (.int .u64 s2)).2.2
   have hgs := grown_set wr w.heap.size 2 (.int .u64 s2)
   have hgn : Ext w (wr.setCell ⟨w.heap.size, 2, none⟩ (.int .u64 s2)) := grown_own hg hgs (fun j hj hlt => by have := Option.some.inj hj; omega)
   have hBd := hBs.ext (grown_drew (wr.setCell ⟨w.heap.size, 2, none⟩ (.int .u64 s2)) none)
   have hgd := grown_trans hgn (grown_drew (wr.setCell ⟨w.heap.size, 2, none⟩ (.int .u64 s2)) none)
   have hw0 : IntKind.u64.wrap x = x := IntWalk.u64_in _ (by omega)
   obtain ⟨h0', h1, h2, h3, h4⟩ := id hB
   have c0 : wr.drew.cell? ⟨w.heap.size, 2, none⟩ = some (.int .u64 h) := h3
   have c1 : wr.drew.cell? ⟨b, off + i, none⟩ = some (.int .u8 x) := hcr
   have c2 : w.heap.size < wr.drew.heap.size := h0'
   have c3 := h4
   have hs2' := hs2.symm
   have HQ := Lib.hid (And.intro hgd (And.intro hBd (And.intro hs2b hb))); clear hgd hBd hs2 hs2b hb hgn hgs hBs hB hg h0' h1 h2 h3 hcb hcr
   go_wp2
   go_still_tail 15, (by kernel_rfl)
   change wpList _ _ _ _ _ wr.drew
   go_wp2
   go_roundw
   case rel => exact ⟨i + 1, s2, by go_num, by omega, HQ.out.2.2.1, HQ.out.1, HQ.out.2.1⟩
   case measure => simp [intOf]; omega
  ·have hli : ¬ (i : Int) < (bs.length : Nat) := by omega
   have HQ := Lib.hid (And.intro hg hB); clear hg hB
   go_wp2
   go_ret
   exact ⟨_, rfl, HQ.out.1, w.heap.size, rfl, Nat.le_refl _, _, 0, h, bs, HQ.out.2, Bytes.mono hb (fun k hS hlt => ⟨⟨hS, hlt⟩, Nat.lt_of_lt_of_le hlt HQ.out.1.size, HQ.out.1.block k hlt (by simp)⟩), by omega, hbl, fun k hk e => by have := hk.2; omega, hhb⟩
set_option maxRecDepth 100000 in
set_option maxHeartbeats 4000000 in
theorem belowS_ok (S : Nat → Prop) (w : World) (db : Nat) (n : Int) (hd : DiceS S w db) (hn : 1 ≤ n) (hn2 : n ≤ 1000000000) :
  Calls Tryz.prog 52 #[.pointer (some ⟨db, 0, none⟩), .int .i64 n] w (Mut w (some db) fun w' v => ∃ x : Int, v = .int .i64 x ∧ 0 ≤ x ∧ x < n ∧ DiceS S w' db) := by
 obtain ⟨cv, pos, h, bs, hB, hby, hpos, hbl, hdB, hh0, hh1⟩ := hd
 obtain ⟨a, cap, rfl, _, hlen⟩ := hby.shape
 obtain ⟨s2, hs2⟩ : ∃ s2, s2 = IntKind.u64.wrap (IntKind.u64.wrap (h * 6364136223846793005) + 1442695040888963407) := ⟨_, rfl⟩
 have hs2b := u64_bd (IntKind.u64.wrap (h * 6364136223846793005) + 1442695040888963407)
 rw [← hs2] at hs2b
 obtain ⟨y, hy0, hy1, hand⟩ := below_bits s2 hs2b.1 hs2b.2
 have hB1 := (hB.put (.int .u64 s2)).2.2
 obtain ⟨h0, h1, h2, h3, h4⟩ := id hB
 have hs2' := hs2.symm
 clear hs2
 go_enter Tryz.func52, Tryz.ntmps52
 have hg1 : w.grownBy (w.setCell ⟨db, 2, none⟩ (.int .u64 s2)) (some db) := grown_set _ _ _ _
 have hby1 : Bytes S (w.setCell ⟨db, 2, none⟩ (.int .u64 s2)) (.slice a bs.length cap) bs := Bytes.mono hby (frame_of hg1 (fun k hk _ => ⟨hk, fun e => hdB k hk (by cases e; rfl)⟩))
 have HB1 := Lib.hid (And.intro hB1 (And.intro hg1 hby1)); clear hB1 hB hby hg1 hby1
 go_wp2
 clear h0 h1 h2 h3 h4 hs2' hand
 obtain ⟨hB1, hg1, hby1⟩ := HB1.out
 clear HB1
 generalize w.setCell ⟨db, 2, none⟩ (.int .u64 s2) = w1 at *
 obtain ⟨h0, h1, h2, h3, h4⟩ := id hB1
 have HG := Lib.hid (And.intro hB1 (And.intro hg1 hby1)); clear hB1 hg1 hby1
 by_cases hp : pos < bs.length
 ·obtain ⟨b, off, rfl, hbs, hbl2, hcb, hx0, hx1⟩ := Bytes.at HG.out.2.2 pos hp
  obtain ⟨x, hx⟩ : ∃ x, x = gt bs pos := ⟨_, rfl⟩
  rw [← hx] at hcb hx0 hx1
  have HX := Lib.hid hx; clear hx
  have hpi : (pos : Int) < bs.length := by omega
  have hp0 : (0 : Int) ≤ pos := by omega
  have hqw : IntKind.i64.wrap (y + x) = y + x := IntWalk.i64_in _ (by omega)
  go_quiet (fail)
  go_wp2
  have hq : Ext w1 (w1.drewN nq) := grown_drewN _ _ _
  have hcb' := hq.cell hcb (by simp)
  have h0' : db < (w1.drewN nq).heap.size := Nat.lt_of_lt_of_le h0 hq.size
  have hG2 := And.intro (HG.out.1.ext hq) (And.intro (grown_trans HG.out.2.1 (grown_of_ext (some db) hq)) (Bytes.ext HG.out.2.2 hq))
  have HG := Lib.hid hG2; clear hG2 hq hcb h0 h1 h2 h3 h4
  obtain ⟨h1, h2, h3, h4⟩ := HG.out.1.2
  generalize w1.drewN nq = w2 at *
  go_quiet (fail)
  have hq : Ext w2 (w2.drewN nq) := grown_drewN _ _ _
  have h0 : db < (w2.drewN nq).heap.size := Nat.lt_of_lt_of_le h0' hq.size
  have hG2 := And.intro (HG.out.1.ext hq) (And.intro (grown_trans HG.out.2.1 (grown_of_ext (some db) hq)) (Bytes.ext HG.out.2.2 hq))
  have HG := Lib.hid hG2; clear hG2 hq hcb' h0' h1 h2 h3 h4
  obtain ⟨h1, h2, h3, h4⟩ := HG.out.1.2
  generalize w2.drewN nq = w3 at *
  have hB4 := (HG.out.1.put (.int .i64 ((pos : Int) + 1))).2.1
  have hg4 : w3.grownBy (w3.setCell ⟨db, 1, none⟩ (.int .i64 ((pos : Int) + 1))) (some db) := grown_set _ _ _ _
  have hby4 : Bytes S (w3.setCell ⟨db, 1, none⟩ (.int .i64 ((pos : Int) + 1))) (.slice (some ⟨b, off, none⟩) bs.length cap) bs := Bytes.mono HG.out.2.2 (frame_of hg4 (fun k hk _ => ⟨hk, fun e => hdB k hk (by cases e; rfl)⟩))
  have hm : 0 ≤ (y + x) % n ∧ (y + x) % n < n := ⟨Int.emod_nonneg _ (by omega), Int.emod_lt_of_pos _ (by omega)⟩
  have HB4 := Lib.hid (And.intro hB4 (And.intro (grown_trans HG.out.2.1 hg4) (And.intro hby4 hm))); clear hB4 hg4 hby4 HG hqw hm
  have hpw : IntKind.i64.wrap ((pos : Int) + 1) = (pos : Int) + 1 := IntWalk.i64_in _ (by omega)
  have hn0 : n ≠ 0 := by omega
  go_wp2
  go_ret
  exact ⟨_, rfl, HB4.out.2.1, _, rfl, HB4.out.2.2.2.1, HB4.out.2.2.2.2, _, pos + 1, s2, bs, HB4.out.1, HB4.out.2.2.1, by omega, hbl, hdB, hs2b⟩
 ·have hpi : ¬ (pos : Int) < bs.length := by omega
  have hn0 : n ≠ 0 := by omega
  go_quiet (fail)
  have hq : Ext w1 (w1.drewN nq) := grown_drewN _ _ _
  have hm : 0 ≤ y % n ∧ y % n < n := ⟨Int.emod_nonneg _ (by omega), Int.emod_lt_of_pos _ (by omega)⟩
  have HM := Lib.hid hm; clear hm
  go_wp2
  go_ret
  exact ⟨_, rfl, grown_trans HG.out.2.1 (grown_of_ext _ hq), _, rfl, HM.out.1, HM.out.2, _, pos, s2, bs, HG.out.1.ext hq, Bytes.ext HG.out.2.2 hq, hpos, hbl, hdB, hs2b⟩
end Go.Proofs.YtdcobapnlpeaaaaGreat
namespace Go.Proofs.YtdcobapnlpeaaaaGreat
open Go.RowKit
theorem rowsE2 {w : World} {v1 v2 : Value} {l1 l2 : List Int} {S1 S2 : Nat → Prop} (h1 : Ints S1 w v1 l1) (h2 : Ints S2 w v2 l2) : Rows2 Any (w.alloc (.cells #[v1, v2] 24)) (.slice (some ⟨w.heap.size, 0, none⟩) 2 2) [l1, l2] := by
 have hg : Ext w (w.alloc (.cells #[v1, v2] 24)) := World.grownBy_alloc _ _ _
 refine ⟨_, 2, rfl, ⟨by simp, by simp, fun h => by cases h⟩, fun i hi => ?_⟩
 have : i = 0 ∨ i = 1 := by simp at hi; omega
 rcases this with rfl | rfl
 ·exact ⟨w.heap.size, 0, v1, rfl, trivial, by simp, by rw [World.cell?_alloc_at _ _ _ _ rfl]; rfl, Ints.sub (Ints.ext h1 hg) (fun _ _ _ => trivial)⟩
 ·exact ⟨w.heap.size, 0, v2, rfl, trivial, by simp, by rw [World.cell?_alloc_at _ _ _ _ rfl]; rfl, Ints.sub (Ints.ext h2 hg) (fun _ _ _ => trivial)⟩
set_option maxRecDepth 100000 in
set_option maxHeartbeats 4000000 in
theorem iMulE_ok (P : Pr) (hr : rconsB P = true) (w : World) (pv xv yv : Value) (X Y : List Int) (Sp Sx Sy : Nat → Prop) (hpv : PresV Sp w pv P) (hx : Ints Sx w xv X) (hy : Ints Sy w yv Y) (hX : Vec P.orders X) (hY : Vec P.orders Y) :
  Calls Tryz.prog 121 #[pv, xv, yv] w (Ret w fun w' v => ∃ a n c, v = .tuple #[.slice a n c, .int .i64 0] ∧ Own w.heap.size w' (.slice a n c) (rMul P X Y)) := by
 have G := grp_of_r hr
 have hn6 := G.v.n6
 obtain ⟨vo, vp, vc, rfl, h3⟩ := hpv
 have hp0 := PresP.box h3 28
 have hg0 : Ext w (w.alloc (.cells #[vo, vp, vc] 28)) := World.grownBy_alloc _ _ _
 have hs0 : (w.alloc (.cells #[vo, vp, vc] 28)).heap.size = w.heap.size + 1 := by simp
 have hx0 := Ints.ext hx hg0
 obtain ⟨ax, capx, rfl, _, _⟩ := hx.shape
 have hy0 := Ints.ext hy hg0
 obtain ⟨ay, capy, rfl, _, _⟩ := hy.shape
 have hg1 : Ext (w.alloc (.cells #[vo, vp, vc] 28)) ((w.alloc (.cells #[vo, vp, vc] 28)).alloc (.cells #[.slice ax X.length capx, .slice ay Y.length capy] 24)) := World.grownBy_alloc _ _ _
 have hl := rowsE2 hx0 hy0
 have hcon := areElements_ok P _ _ _ [X, Y] Any Any (hp0.ext hg1) hl
 rw [hs0] at hcon
 clear hl hx hy
 have HH := Lib.hid (And.intro hr (And.intro hX ( And.intro hY ((trivial : True))))); clear hr hX hY
 go_enter Tryz.func121, Tryz.ntmps121
 go_wp2_with fail
 refine Calls.mono hcon ?_
 rintro e1 w1 ⟨v1, rfl, hgA, r1, rfl, hr1⟩
 clear hcon
 obtain rfl : r1 = true := hr1.2 (by have := HH.out; simp only [List.mem_cons, List.mem_nil_iff, or_false]; exact ⟨this.1, fun u hu => by rcases hu with rfl | rfl; exact this.2.1; exact this.2.2.1⟩)
 clear hr1
 have hg01 := grown_trans hg1 hgA
 have HS := Lib.hid hs0; clear hs0
 generalize hw0 : (w.alloc (.cells #[vo, vp, vc] 28)) = w0 at *
 clear hw0 hg1 hgA
 have hp1 := hp0.ext hg01
 have hx1 := Ints.ext hx0 hg01
 have hy1 := Ints.ext hy0 hg01
 go_wp2_with fail
 refine Calls.mono (multiply_ok P G.v w1 _ _ _ X Y Any Sx Sy hp1 hx1 hy1 HH.out.2.1 HH.out.2.2.1) ?_
 rintro e2 w2 ⟨v2, rfl, hg2, hO⟩
 rw [G.tv_eq HH.out.2.1 HH.out.2.2.1] at hO
 obtain ⟨ad, nd, capd, hvd⟩ : ∃ a n c, v2 = Value.slice a n c := by obtain ⟨a, c, e, _⟩ := (hO.ints (by rw [(G.mulV HH.out.2.1 HH.out.2.2.1).1]; omega)).shape; exact ⟨_, _, _, e⟩
 subst hvd
 go_wp2
 go_ret2
 exact ⟨_, rfl, grown_trans hg0 (grown_trans hg01 hg2), _, _, _, rfl, hO.weak (by have := hg01.size; have := hg0.size; omega)⟩
end Go.Proofs.YtdcobapnlpeaaaaGreat
namespace Go.Proofs.YtdcobapnlpeaaaaGreat
open Go.RowKit
set_option maxRecDepth 100000 in
set_option maxHeartbeats 1000000 in
theorem mul9_ok (P : Pr) (hr : rconsB P = true) (w : World) (pv xv yv : Value) (X Y : List Int) (Sp Sx Sy : Nat → Prop) (hpv : PresV Sp w pv P) (hx : Ints Sx w xv X) (hy : Ints Sy w yv Y) (hX : Vec P.orders X) (hY : Vec P.orders Y) :
  Calls Tryz.prog 27 #[pv, xv, yv] w (Ret w fun w' v => ∃ a n c, v = .slice a n c ∧ Own w.heap.size w' (.slice a n c) (rMul P X Y)) := by
 have hrH := Lib.hid (And.intro hr ((And.intro hX (And.intro hY (trivial : True))))); clear hr hX hY
 obtain ⟨vo, vp, vc, rfl, h3⟩ := hpv
 have hp0 := PresP.box h3 28
 have hg0 : Ext w (w.alloc (.cells #[vo, vp, vc] 28)) := World.grownBy_alloc _ _ _
 have hx0 := Ints.ext hx hg0
 obtain ⟨ax, capx, rfl, _, _⟩ := hx.shape
 have hy0 := Ints.ext hy hg0
 obtain ⟨ay, capy, rfl, _, _⟩ := hy.shape
 obtain ⟨vo6, vp6, vc6, _, _, hc0, hc1, hc2, h36⟩ := hp0.at
 simp only [Nat.zero_add] at hc1 hc2
 clear hp0 hx hy
 go_enter Tryz.func27, Tryz.ntmps27
 go_wp2_with fail
 clear hc0 hc1 hc2
 refine Calls.mono (iMulE_ok P hrH.out.1 _ _ _ _ X Y _ _ _ ⟨_, _, _, rfl, h36⟩ hx0 hy0 hrH.out.2.1 hrH.out.2.2.1) ?_
 rintro e1 w1 ⟨v1, rfl, hg1, a1, n1, c1, rfl, hO⟩
 have HO := Lib.hid hO; clear hO
 go_wp2
 go_ret
 exact ⟨_, rfl, grown_trans hg0 hg1, _, _, _, rfl, HO.out.weak (by have := hg0.size; omega)⟩
end Go.Proofs.YtdcobapnlpeaaaaGreat
namespace Go.Proofs.YtdcobapnlpeaaaaGreat
section
variable {P : Pr} {G : Grp P}
theorem El.mi (x y : El G) : (x * y)⁻¹ = y⁻¹ * x⁻¹ := (El.inv_of (by rw [El.ass, El.irc, El.ir])).symm
theorem El.ii (x : El G) : x⁻¹⁻¹ = x := (El.inv_of (El.il x)).symm
theorem eqv_symm {N : El G → Prop} (S : SG N) {x y : El G} (h : eqv N x y) : eqv N y x := by
 have := S.inv _ h
 rwa [El.mi, El.ii] at this
theorem eqv_trans {N : El G → Prop} (S : SG N) {x y z : El G} (h : eqv N x y) (k : eqv N y z) : eqv N x z := by
 have := S.mul _ _ h k
 rwa [El.ass, El.irc] at this
open Classical in
noncomputable def rp (N : El G → Prop) (x : El G) : El G := ((els G).find? (fun t => decide (eqv N t x))).getD 1
theorem rp_eqv {N : El G → Prop} (S : SG N) (x : El G) : eqv N (rp N x) x := by
 classical
 unfold rp
 cases h : (els G).find? (fun t => decide (eqv N t x)) with
 | none =>
  have := List.find?_eq_none.1 h x (els_mem G x)
  exact absurd (decide_eq_true (eqv_refl S x)) this
 | some t =>
  have h2 := List.find?_some h
  exact of_decide_eq_true h2
theorem rp_one {N : El G → Prop} (S : SG N) {x y : El G} (h : eqv N x y) : rp N x = rp N y := by
 classical
 unfold rp
 have : (fun t => decide (eqv N t x)) = fun t => decide (eqv N t y) := funext fun t => by
  rw [decide_eq_decide]
  exact ⟨fun k => eqv_trans S k h, fun k => eqv_trans S k (eqv_symm S h)⟩
 rw [this]
noncomputable def trv (N B : El G → Prop) : List (El G) := elsIn (fun x => B x ∧ rp N x = x)
theorem trv_mem {N B : El G → Prop} {x : El G} : x ∈ trv N B ↔ B x ∧ rp N x = x := elsIn_mem
theorem rp_in {N B : El G → Prop} (S : SG N) (R : SG B) (h : ∀ x, N x → B x) {x : El G} (hx : B x) : rp N x ∈ trv N B := by
 have h1 := rp_eqv S x
 refine trv_mem.2 ⟨?_, rp_one S h1⟩
 have h2 := R.mul _ _ hx (h _ (eqv_symm S h1))
 rwa [El.irc] at h2
theorem trv_one {N B : El G → Prop} (S : SG N) {t u : El G} (ht : t ∈ trv N B) (hu : u ∈ trv N B) (h : eqv N t u) : t = u := by
 rw [← (trv_mem.1 ht).2, ← (trv_mem.1 hu).2]; exact rp_one S h
theorem cd_trv {N B : El G → Prop} (S : SG N) (R : SG B) (h : ∀ x, N x → B x) : cd B = (trv N B).length * cd N :=
 cd_mul S (elsIn_nodup _) (fun _ ht n hn => R.mul _ _ (trv_mem.1 ht).1 (h n hn)) (fun _ ht _ hu e => trv_one S ht hu e) (fun x hx => ⟨rp N x, rp_in S R h hx, rp_eqv S x⟩)
end
end Go.Proofs.YtdcobapnlpeaaaaGreat
namespace Go.Proofs.YtdcobapnlpeaaaaGreat
open Go.RowKit
section
variable {P : Pr} (G : Grp P)
include G in
include G in
include G in
theorem Grp.sz_mul {H K : List Int → Prop} (S : Sub P H) (R : Sub P K) (h : ∀ x, H x → K x) : ∃ m : Int, 1 ≤ m ∧ szP P K = m * szP P H := by
 have e := cd_trv (toE_sg (G := G) S) (toE_sg (G := G) R) (fun x hx => h x.1 hx)
 have p := cd_pos (toE_sg (G := G) R)
 refine ⟨(trv (toE G H) (toE G K)).length, ?_, ?_⟩
 ·rcases Nat.eq_zero_or_pos (trv (toE G H) (toE G K)).length with h0 | h0
  ·rw [h0, Nat.zero_mul] at e; omega
  ·omega
 ·unfold szP; rw [order_cd (G := G) S, order_cd (G := G) R, e]; push_cast; rfl
include G in
include G in
include G in
end
end Go.Proofs.YtdcobapnlpeaaaaGreat
namespace Go.Proofs.YtdcobapnlpeaaaaGreat
open Go.RowKit
attribute [local go_sem ↓] Go.wp_at_zero Go.wp_at_succ
theorem gs_len (P : Pr) (L : List (List Int)) : (gsL P L).length ≤ 6 := by
 by_cases h : gsOk P L
 ·by_cases hb : 24 < L.length
  ·rw [(gs_big h hb).2]; simp
  ·rw [(gs_ok h hb).2]
   have G := grp_of_r h.1
   have h1 : (cseq P (gU P L)).length ≤ P.orders.length := G.cseq_len (G.genP_sub h.2)
   have := G.v.n6
   omega
 ·rw [(gs_bad h).2]; simp
theorem Grp.sz_dvd {P : Pr} (G : Grp P) {H : List Int → Prop} (S : Sub P H) : (ordP P).tmod (szP P H) = 0 := by
 obtain ⟨m, _, e⟩ := G.sz_mul S (G.nr_sub S) (G.nr_ge S)
 have h := G.fd_count S
 rw [e, ← Int.mul_assoc] at h
 rw [← h]; exact Int.mul_tmod_left _ _
theorem gU_same {P : Pr} (G : Grp P) {U M : List (List Int)} (hU : ∀ x ∈ U, Vec P.orders x) (h1 : ∀ x ∈ M, gU P U x) (h2 : ∀ x ∈ U, x ∈ M) : gU P M = gU P U :=
 funext fun _ => propext ⟨fun h => genP_le (G.genP_sub hU) (fun y hy => h1 y hy) h, fun h => genP_le (G.genP_sub (fun y hy => (G.genP_sub hU).vec y (h1 y hy))) (fun y hy => genP_mem (h2 y hy)) h⟩
theorem ShQ.dice {db B : Nat} {w w' : World} {v : Value} {xs : List (List Int)} (h : ShQ (fun k => k = db) B w v xs) (hg : w.grownBy w' (some db)) (ho : v.ownBlock ≠ some db) : ShQ (fun k => k = db) B w' v xs :=
  h.kept hg.size (fun j hj hc => hg.block j hj (fun e => by
    have e := Option.some.inj e
    rcases hc with hc | hc
    · exact ho (by rw [hc, e])
    · exact hc e)) (fun _ _ h => h)
set_option linter.unusedSimpArgs false in
set_option maxRecDepth 100000 in
set_option maxHeartbeats 8000000 in
theorem lawSq_ok (w : World) (cv : Value) (bs : List Int) (S : Nat → Prop) (hb : Bytes S w cv bs) :
  Calls Tryz.prog 8 #[cv] w (Ret w fun _ v => v = .bool true) := by
 obtain ⟨ca, cc, rfl, _, _⟩ := Sl.shape hb
 go_enter Tryz.func8, Tryz.ntmps8
 go_wp2_with fail
 refine Calls.mono (big_ok w _ bs S hb) ?_
 rintro _ _ ⟨rfl, rfl⟩
 by_cases hbg : 4096 < bs.length
 ·have hd : decide (4096 < bs.length) = true := by simp [hbg]
  rw [hd]
  go_wp2
  go_ret
  exact ⟨_, rfl, grown_refl _ _, rfl⟩
 have hbl : bs.length ≤ 4096 := by omega
 have hd : decide (4096 < bs.length) = false := by simp [hbg]
 rw [hd]; clear hd hbg
 go_wp2_with fail
 refine Calls.mono (DrawGeneratedSubgroup_ok w _ bs S hb) ?_
 rintro e1 w1 ⟨v1, rfl, hg1, vo, vp, vc, rv, P, rfl, hPl, hP, ⟨U, _, _, hU⟩⟩
 obtain ⟨a1, n1, c1, hy1⟩ : ∃ a n c, vo = .slice a n c := by obtain ⟨a, c, e, _⟩ := hP.o.shape; exact ⟨_, _, _, e⟩
 obtain ⟨a2, n2, c2, hy2⟩ : ∃ a n c, vp = .slice a n c := by obtain ⟨a, c, e, _⟩ := Sl.shape hP.p; exact ⟨_, _, _, e⟩
 obtain ⟨a3, n3, c3, hy3⟩ : ∃ a n c, vc = .slice a n c := by obtain ⟨a, c, e, _⟩ := Sl.shape hP.c; exact ⟨_, _, _, e⟩
 subst hy1 hy2 hy3
 obtain ⟨ra, rn, rc, hrr⟩ : ∃ a n c, rv = .slice a n c := by obtain ⟨a, c, e, _⟩ := Sl.shape hU; exact ⟨_, _, _, e⟩
 subst hrr
 have hgX : Ext w1 (w1.alloc (.cells #[.slice a1 n1 c1, .slice a2 n2 c2, .slice a3 n3 c3] 28)) := World.grownBy_alloc _ _ _
 have hX := Box3.made w1 28 (.slice a1 n1 c1) (.slice a2 n2 c2) (.slice a3 n3 c3)
 have hPX := hP.ext hgX
 have hUX := Rows2.ext hU hgX
 have hgw := grown_trans hg1 hgX
 have hbX := Bytes.ext hb hgw
 have HA0 := Lib.hid (And.intro hPX (And.intro hUX (And.intro hgw hbX))); clear hPX hUX hgw hbX hgX hP hU hg1 hb
 obtain ⟨pb, hpb⟩ : ∃ pb, pb = w1.heap.size := ⟨_, rfl⟩
 rw [← hpb] at hX
 have HP := Lib.hid hpb; clear hpb
 go_wp2_with fail
 rw [← HP.out]
 generalize w1.alloc (.cells #[.slice a1 n1 c1, .slice a2 n2 c2, .slice a3 n3 c3] 28) = w2 at *
 clear HP
 have hall : ∀ w', Ext w2 w' → Box3 w' pb (.slice a1 n1 c1) (.slice a2 n2 c2) (.slice a3 n3 c3) ∧ PresV (From w.heap.size) w' (.agg #[.slice a1 n1 c1, .slice a2 n2 c2, .slice a3 n3 c3]) P ∧ Rows2 (From w.heap.size) w' (.slice ra rn rc) U ∧ Bytes S w' (.slice ca bs.length cc) bs :=
  fun w' h => ⟨hX.ext h, ⟨_, _, _, rfl, HA0.out.1.ext h⟩, Rows2.ext HA0.out.2.1 h, Bytes.ext HA0.out.2.2.2 h⟩
 have HA := Lib.hid hall; clear hall hX
 have hgw := grown_refl w2 none
 obtain rfl : rn = U.length := by
  obtain ⟨a, c, e, _⟩ := Sl.shape (HA.out w2 hgw).2.2.1
  cases e; rfl
 obtain ⟨b0_, b1_, b2_, b3_, _⟩ := id (HA.out w2 hgw).1
 go_wp2_with fail
 clear b0_ b1_ b2_ b3_
 refine Calls.mono (iGenSub_ok P w2 _ _ U _ _ (HA.out w2 hgw).2.1 (HA.out w2 hgw).2.2.1) ?_
 rintro e3 w3 ⟨v3, rfl, hg_, za, zn, zc, rfl, hZ_⟩
 replace hgw := grown_trans hgw hg_
 have hlZ := gs_len P U
 have hZr : Rows2 Any w3 (.slice za zn zc) (gsL P U) := Rows2.sub (RowsD.rows (SlO.toD hZ_ (by omega))) (fun _ _ _ => trivial)
 have hZx : ∀ w', Ext w3 w' → Rows2 Any w' (.slice za zn zc) (gsL P U) := fun w' h => Rows2.ext hZr h
 have HZ := Lib.hid hZx; clear hZr hZx
 have hgZ := grown_refl w3 none
 clear hZ_ hlZ
 clear hg_
 obtain ⟨b0_, b1_, b2_, b3_, _⟩ := id (HA.out w3 hgw).1
 go_wp2_with fail
 clear b0_ b1_ b2_ b3_
 refine Calls.mono (sGenSub_ok P w3 _ _ U _ _ (HA.out w3 hgw).2.1 (HA.out w3 hgw).2.2.1) ?_
 rintro e4 w4 ⟨v4, rfl, hg_, ta, tn, tc, rfl, hT_⟩
 replace hgw := grown_trans hgw hg_
 replace hgZ := grown_trans hgZ hg_
 have hTr : Rows2 Any w4 (.slice ta tn tc) (gsL P U) := hT_
 have hTx : ∀ w', Ext w4 w' → Rows2 Any w' (.slice ta tn tc) (gsL P U) := fun w' h => Rows2.ext hTr h
 have HT := Lib.hid hTx; clear hTr hTx
 have hgT := grown_refl w4 none
 clear hT_
 clear hg_
 go_wp2_with fail
 refine Calls.mono (like29_ok _ _ (gsL P U) (gsL P U) w4 Any Any (HZ.out w4 hgZ) (HT.out w4 hgT)) ?_
 rintro e5 w5 ⟨v5, rfl, hg_, rfl⟩
 replace hgw := grown_trans hgw hg_
 replace hgZ := grown_trans hgZ hg_
 replace hgT := grown_trans hgT hg_
 rw [show eqB (gsL P U) (gsL P U) = true from eqB_true.2 rfl]
 clear HT hgT
 clear hg_
 obtain ⟨wL, rfl⟩ : ∃ wL : World, wL = w5 := ⟨_, rfl⟩
 by_cases h1 : gsOk P U
 case neg =>
  rw [(gs_bad h1).1]
  go_wp2
  go_ret
  exact ⟨_, rfl, grown_trans HA0.out.2.2.1 hgw, rfl⟩
 by_cases h24 : 24 < U.length
 case pos =>
  rw [(gs_big h1 h24).1]
  go_wp2
  go_ret
  exact ⟨_, rfl, grown_trans HA0.out.2.2.1 hgw, rfl⟩
 have hr := h1.1
 have hUV := h1.2
 have G := grp_of_r hr
 have hn6 := G.v.n6
 rw [(gs_ok h1 h24).1]
 rw [(gs_ok h1 h24).2] at HZ
 have SK : Sub P (gU P U) := G.genP_sub hUV
 have SKB := G.subB_cseq SK
 have eK : gU P (cseq P (gU P U)) = gU P U := G.genP_cseq SK
 have hin : ∀ x ∈ U, gU P U x := fun x hx => genP_mem hx
 have s1 := G.sz_pos SK
 have s2 := G.sz_729 SK
 have s3 := G.sz_dvd SK
 have s4 : prodU P (cseq P (gU P U)) (cseq P (gU P U)).length = szP P (gU P U) := rfl
 have s5 : szP P (gU P U) = ((elemsIn P (gU P U)).length : Nat) := G.order_elems SK
 have HH := Lib.hid (And.intro SK (And.intro SKB (And.intro eK (And.intro hin (And.intro s1 (And.intro s2 (And.intro s3 (And.intro s4 s5)))))))); clear SK SKB eK hin s1 s2 s3 s4 s5
 have hVH := Lib.hid hUV; clear hUV
 have hUl : U.length ≤ 24 := by omega
 clear h24 h1
 have hUr : Rows2 (fun k => k < wL.heap.size) wL (.slice ra U.length rc) U := Rows2.sub (HA.out wL hgw).2.2.1 (fun _ _ h => h)
 have HUR := Lib.hid hUr; clear hUr
 obtain ⟨b0_, b1_, b2_, b3_, _⟩ := id (HA.out wL hgw).1
 go_wp2
 clear b0_ b1_ b2_ b3_
 go_loopw [9, 10] (fun ov kv wr => ∃ (z : Int) (L : List (List Int)) (v4 : Value), v4 = ov ∧ kv = .int .i64 z ∧ -1 ≤ z ∧ z < (U.length : Nat) ∧ Hid (((L.length : Nat) : Int) + z + 1 = (U.length : Nat) ∧ (∀ x ∈ L, x ∈ U) ∧ ∀ i : Nat, z < (i : Int) → i < U.length → gt U i ∈ L) ∧ Ext wL wr ∧ ShQ (fun _ => False) wL.heap.size wr v4 L) (fun _ kv _ => (intOf kv + 1).toNat)
 case atStart => exact ⟨(U.length : Int) - 1, [], _, rfl, rfl, by omega, by omega, Lib.hid ⟨by simp, fun _ hx => (by cases hx), fun i h1 h2 => by omega⟩, World.grownBy_alloc _ _ _, ShQ.lit _ _ _ (Nat.le_refl _)⟩
 case round =>
  obtain ⟨z, L, v4, rfl, rfl, hz0, hz1, hLz, hg, hQ⟩ := hrel
  by_cases hzp : 0 ≤ z
  ·obtain ⟨i, rfl⟩ := Int.eq_ofNat_of_zero_le hzp
   have hi : i < U.length := by omega
   obtain ⟨ub, uo, ax, cx, hae, _, _, hce0, hie0⟩ := Rows2.at HUR.out i hi
   subst hae
   have hce := hg.cell hce0 (by simp)
   have hie := Ints.ext hie0 hg
   have hLl : L.length ≤ 1000000 := by have := hLz.out.1; omega
   have hxI : Ints (fun k => ¬ False ∧ v4.ownBlock ≠ some k) wr (.slice ax (gt U i).length cx) (gt U i) := Ints.sub hie (fun k hk _ => ⟨id, fun e => by have h1 := (hQ.lt k e).1; have hk : k < wL.heap.size := hk; omega⟩)
   have hxm : gt U i ∈ U := gtMem hi
   have hxV := hVH.out _ hxm
   have HX := Lib.hid (And.intro hce0 (And.intro hie0 (And.intro hxm hxV))); clear hce0 hie0 hxm hxV hie
   go_wp2_with (first | (at_builtin; refine wp_shq_app rfl _ _ rfl (fun _ => False) wL.heap.size v4 _ L (gt U i) rfl wr hQ rfl hxI rfl hLl hg.size ?_; intro v5 w5 hQ5 hg5 hb5) | fail)
   have hg05 : Ext wL w5 := grown_own hg hg5 (fun j hj hlt => by have := (hQ.lt j hj).1; omega)
   have f1_ : ∀ w', Ext w5 w' → w'.cell? ⟨pb, 0, none⟩ = some (.slice a1 n1 c1) := fun w' h => (HA.out w' (grown_trans hgw (grown_trans hg05 h))).1.2.1
   have f2_ : ∀ w', Ext w5 w' → w'.cell? ⟨pb, 1, none⟩ = some (.slice a2 n2 c2) := fun w' h => (HA.out w' (grown_trans hgw (grown_trans hg05 h))).1.2.2.1
   have f3_ : ∀ w', Ext w5 w' → w'.cell? ⟨pb, 2, none⟩ = some (.slice a3 n3 c3) := fun w' h => (HA.out w' (grown_trans hgw (grown_trans hg05 h))).1.2.2.2.1
   have f4_ : ∀ w', Ext w5 w' → w'.cell? ⟨ub, uo + i, none⟩ = some (.slice ax (gt U i).length cx) := fun w' h => (grown_trans hg05 h).cell HX.out.1 (by simp)
   clear hce hxI hQ hg5 hb5
   go_wp2
   go_region_held3 (fun w' => Ext w5 w') (first | exact grown_drew _ _ | assumption)
    (first
     | (go_at_call 29; refine Calls.mono (Calls.rel (w0 := w5) (by assumption) (iMember_ok P hr _ _ _ _ _ (gt U i) _ _ _ (HA.out _ (grown_trans hgw (grown_trans hg05 (by assumption)))).2.1 (HZ.out _ (grown_trans hgZ (grown_trans hg05 (by assumption)))) (Ints.ext HX.out.2.1 (grown_trans hg05 (by assumption))) HH.out.2.1 HX.out.2.2.2)) ?_; rintro e6 w6 ⟨v6, rfl, hg6, _, r_, rfl, hr_⟩))
   obtain rfl : r_ = true := hr_.2 (by rw [HH.out.2.2.1]; exact HH.out.2.2.2.1 _ HX.out.2.2.1)
   clear hr_ f1_ f2_ f3_ f4_
   have hQ6 := hQ5.ext hg6
   have hg06 := grown_trans hg05 hg6
   clear hQ5
   go_wp2
   go_roundw
   case rel => exact ⟨(i : Int) - 1, L ++ [gt U i], v5, rfl, rfl, by omega, by omega, Lib.hid ⟨by have := hLz.out.1; rw [List.length_append, List.length_singleton]; omega, fun y hy => by
    rcases List.mem_append.1 hy with h | h
    ·exact hLz.out.2.1 y h
    ·rw [List.mem_singleton.1 h]; exact HX.out.2.2.1, fun j hj1 hj2 => by
    by_cases hji : j = i
    ·rw [hji]; exact List.mem_append_right _ (by simp)
    ·exact List.mem_append_left _ (hLz.out.2.2 j (by omega) hj2)⟩, hg06, hQ6⟩
   case measure => simp [intOf]
  ·have hzz : z = -1 := by omega
   subst hzz
   obtain ⟨wo, rfl⟩ : ∃ wo : World, wo = wr := ⟨_, rfl⟩
   have hLlen : L.length = U.length := by have := hLz.out.1; omega
   have hLU := hLz.out.2.1
   have hUL : ∀ x ∈ U, x ∈ L := fun x hx => by
    obtain ⟨j, hj, rfl⟩ := mem_gt hx
    exact hLz.out.2.2 j (by omega) hj
   have hgO := grown_trans hgw hg
   have hgZO := grown_trans hgZ hg
   have HL := Lib.hid (And.intro hLlen (And.intro hLU hUL)); clear hLlen hLU hUL hLz hz0 hz1 hzp
   have hbW : Bytes (fun k => k < wL.heap.size) wo (.slice ca bs.length cc) bs := Bytes.mono (HA.out wL hgw).2.2.2 (fun k _ hlt => ⟨hlt, Nat.lt_of_lt_of_le hlt hg.size, hg.block k hlt (by simp)⟩)
   go_wp2_with fail
   refine Calls.mono (rollS_ok wo _ bs (fun k => k < wL.heap.size) 5 hbl hbW) ?_
   rintro eD wD ⟨vD, rfl, hgD, db, rfl, hdb, hDi⟩
   have hwo := hg.size
   have hdW : wL.heap.size ≤ db := by omega
   have hdlt := hDi.lt
   have hob0 : v4.ownBlock ≠ some db := fun e => by have := (hQ.lt db e).2; omega
   have hQD : ShQ (fun k => k = db) wL.heap.size wD v4 L := hQ.kept hgD.size (fun j hj _ => hgD.block j hj (by simp)) (fun k hk e => by have e : k = db := e; omega)
   have hWD := grown_trans hg hgD
   have HDI := Lib.hid (And.intro hDi hob0)
   clear hQ hDi hgD hob0 hbW
   go_wp2
   go_loopw [9, 14] (fun ov kv wr => ∃ (k : Nat) (M : List (List Int)) (v5 : Value), v5 = ov ∧ kv = .int .i64 k ∧ k ≤ 3 ∧ Hid (M.length ≤ 24 ∧ (∀ x ∈ M, gU P U x) ∧ (∀ x ∈ U, x ∈ M) ∧ v5.ownBlock ≠ some db) ∧ Ext wL wr ∧ ShQ (fun k => k = db) wL.heap.size wr v5 M ∧ Hid (DiceS (fun k => k < wL.heap.size ∧ k < wo.heap.size) wr db)) (fun _ kv _ => 3 - (intOf kv).toNat)
   case atStart => exact ⟨0, L, _, rfl, rfl, by omega, Lib.hid ⟨by have := HL.out.1; omega, fun x hx => HH.out.2.2.2.1 x (HL.out.2.1 x hx), HL.out.2.2, HDI.out.2⟩, hWD, hQD, Lib.hid HDI.out.1⟩
   case round =>
    clear hQD hWD HDI hgO hgZO hdlt
    obtain ⟨k, M, v5, rfl, rfl, hk, hM, hgd, hQ2, hDr⟩ := hrel
    obtain ⟨aM, cM, rfl, _⟩ := hQ2.shape
    have hMl := hM.out.1
    by_cases hk3 : k < 3
    ·by_cases hM0 : 0 < M.length
     ·by_cases hM24 : M.length < 24
      ·go_wp2_with fail
       refine Calls.mono (belowS_ok _ wr db (M.length : Nat) hDr.out (by omega) (by omega)) ?_
       rintro e6 w6 ⟨v6, rfl, hg6, x6, rfl, hx0, hx1, hD6⟩
       obtain ⟨i, rfl⟩ := Int.eq_ofNat_of_zero_le hx0
       have hi : i < M.length := by omega
       have hW6 : Ext wL w6 := grown_own hgd hg6 (fun j hj hlt => by have := Option.some.inj hj; omega)
       have hQ6 := hQ2.dice hg6 hM.out.2.2.2
       obtain ⟨mb, mo, u6, hme, _, _, hmc, hmx⟩ := hQ6.head i hi
       subst hme
       obtain ⟨xa, xc, hxe, _, _⟩ := hmx.shape
       subst hxe
       clear hQ2 hg6 hDr hgd
       go_wp2
       have f1_ : ∀ w', Ext wL w' → w'.cell? ⟨pb, 0, none⟩ = some (.slice a1 n1 c1) := fun w' h => (HA.out w' (grown_trans hgw h)).1.2.1
       have f2_ : ∀ w', Ext wL w' → w'.cell? ⟨pb, 1, none⟩ = some (.slice a2 n2 c2) := fun w' h => (HA.out w' (grown_trans hgw h)).1.2.2.1
       have f3_ : ∀ w', Ext wL w' → w'.cell? ⟨pb, 2, none⟩ = some (.slice a3 n3 c3) := fun w' h => (HA.out w' (grown_trans hgw h)).1.2.2.2.1
       have hiV := HH.out.1.vec _ (hM.out.2.1 _ (gtMem hi))
       have HX := Lib.hid (And.intro hmx (And.intro hiV (hD6.ext (grown_drew w6 none)))); clear hmx hiV hD6 hmc
       refine wp_region_held_drew (S := fun w' => Ext wL w') (by kernel_rfl) (grown_trans hW6 (grown_drew _ _)) (fun hHeld => ?_)
       refine wpAnyH_take (i := 0) (v := ?vs0_1) rfl (by kernel_rfl) (by kernel_rfl) (by kernel_rfl) (fun _ _ _ h => h) (Or.inl ⟨by rfl, ?hys0_1⟩) (by assumption) ?rests0_1
       case hys0_1 => (intro w hSw; (try dsimp only at hSw); go_simp; try with_reducible rfl)
       try simp only [Act.put, List.getElem_toArray, List.getElem_cons_succ, List.getElem_cons_zero, List.setIfInBounds_toArray, List.set_cons_zero, List.set_cons_succ]
       refine wpAnyH_take (i := 1) (v := ?vs1_2) rfl (by kernel_rfl) (by kernel_rfl) (by kernel_rfl) (fun _ _ _ h => h) (Or.inl ⟨by rfl, ?hys1_2⟩) (by assumption) ?rests1_2
       case hys1_2 => (intro w hSw; (try dsimp only at hSw); go_simp; try with_reducible rfl)
       try simp only [Act.put, List.getElem_toArray, List.getElem_cons_succ, List.getElem_cons_zero, List.setIfInBounds_toArray, List.set_cons_zero, List.set_cons_succ]
       refine wpAnyH_take (i := 2) (v := ?vs2_3) rfl (by kernel_rfl) (by kernel_rfl) (by kernel_rfl) (fun _ _ _ h => h) (Or.inl ⟨by rfl, ?hys2_3⟩) (by assumption) ?rests2_3
       case hys2_3 => (intro w hSw; (try dsimp only at hSw); go_simp; try with_reducible rfl)
       try simp only [Act.put, List.getElem_toArray, List.getElem_cons_succ, List.getElem_cons_zero, List.setIfInBounds_toArray, List.set_cons_zero, List.set_cons_succ]
       refine wpAnyH_take (i := 3) (v := ?vs3_4) rfl (by kernel_rfl) (by kernel_rfl) (by kernel_rfl) (fun _ _ _ h => h) (Or.inl ⟨by rfl, ?hys3_4⟩) (by assumption) ?rests3_4
       case hys3_4 => (intro w hSw; (try dsimp only at hSw); go_simp; try with_reducible rfl)
       try simp only [Act.put, List.getElem_toArray, List.getElem_cons_succ, List.getElem_cons_zero, List.setIfInBounds_toArray, List.set_cons_zero, List.set_cons_succ]
       refine wpAnyH_take (i := 4) (v := ?vs4_5) rfl (by kernel_rfl) (by kernel_rfl) (by kernel_rfl) (fun _ _ _ h => h) (Or.inl ⟨by rfl, ?hys4_5⟩) (by assumption) ?rests4_5
       case hys4_5 => (intro w hSw; (try dsimp only at hSw); go_simp; try with_reducible rfl)
       try simp only [Act.put, List.getElem_toArray, List.getElem_cons_succ, List.getElem_cons_zero, List.setIfInBounds_toArray, List.set_cons_zero, List.set_cons_succ]
       refine wpAnyH_take (i := 5) (v := ?vs5_6) rfl (by kernel_rfl) (by kernel_rfl) (by kernel_rfl) (fun _ _ _ h => h) (Or.inl ⟨by rfl, ?hys5_6⟩) (by assumption) ?rests5_6
       case hys5_6 => (intro w hSw; (try dsimp only at hSw); go_simp; try with_reducible rfl)
       try simp only [Act.put, List.getElem_toArray, List.getElem_cons_succ, List.getElem_cons_zero, List.setIfInBounds_toArray, List.set_cons_zero, List.set_cons_succ]
       refine wpAnyH_take (i := 6) (v := ?vs6_7) rfl (by kernel_rfl) (by kernel_rfl) (by kernel_rfl) (fun _ _ _ h => h) (Or.inl ⟨by rfl, ?hys6_7⟩) (by assumption) ?rests6_7
       case hys6_7 => (intro w hSw; (try dsimp only at hSw); go_simp; try with_reducible rfl)
       try simp only [Act.put, List.getElem_toArray, List.getElem_cons_succ, List.getElem_cons_zero, List.setIfInBounds_toArray, List.set_cons_zero, List.set_cons_succ]
       refine wpAnyH_ready (rs := [7]) (by kernel_rfl) (by simp) ?_
       refine AllReadyH.cons rfl (fun Kc hKc => ?_) AllReadyH.nil
       go_simp
       go_at_call 52
       refine Calls.mono (belowS_ok _ w6.drew db _ HX.out.2.2 (by omega) (by omega)) ?_
       rintro e7 w7 ⟨v7, rfl, hg7a, x7, rfl, hx70, hx71, hD7⟩
       have hg7 : w6.grownBy w7 (some db) := grown_trans (grown_of_ext (some db) (grown_drew _ _)) hg7a
       have hW7 : Ext wL w7 := grown_own hW6 hg7 (fun j hj hlt => by have := Option.some.inj hj; omega)
       obtain ⟨i2, rfl⟩ := Int.eq_ofNat_of_zero_le hx70
       have hi2 : i2 < M.length := (by omega)
       have hQ7 := hQ6.dice hg7 hM.out.2.2.2
       obtain ⟨mb2, mo2, u7, hme2, _, _, hmc2, hmy⟩ := hQ7.head i2 hi2
       cases hme2
       obtain ⟨ya, yc, hye, _, _⟩ := hmy.shape
       subst hye
       have hi2V := HH.out.1.vec _ (hM.out.2.1 _ (gtMem hi2))
       have hi2I : (i2 : Int) < M.length := by omega
       go_wp2_with fail
       refine hKc.out _ _ ?_ (fun hHeld => ?_)
       ·exact hW7
       clear hKc Kc
       try simp only [Act.put, List.getElem_toArray, List.getElem_cons_succ, List.getElem_cons_zero, List.setIfInBounds_toArray, List.set_cons_zero, List.set_cons_succ]
       refine wpAnyH_take (i := 8) (v := ?vs8_8) rfl (by kernel_rfl) (by kernel_rfl) (by kernel_rfl) (fun _ _ _ h => h) (Or.inl ⟨by rfl, ?hys8_8⟩) (by assumption) ?rests8_8
       case hys8_8 => (intro w hSw; (try dsimp only at hSw); go_simp; try with_reducible rfl)
       try simp only [Act.put, List.getElem_toArray, List.getElem_cons_succ, List.getElem_cons_zero, List.setIfInBounds_toArray, List.set_cons_zero, List.set_cons_succ]
       refine wpAnyH_ready (rs := [9]) (by kernel_rfl) (by simp) ?_
       refine AllReadyH.cons rfl (fun Kc hKc => ?_) AllReadyH.nil
       go_simp
       refine hKc.out _ _ ?_ (fun hHeld => ?_)
       ·exact hW7
       clear hKc Kc
       try simp only [Act.put, List.getElem_toArray, List.getElem_cons_succ, List.getElem_cons_zero, List.setIfInBounds_toArray, List.set_cons_zero, List.set_cons_succ]
       refine wpAnyH_ready (rs := [10]) (by kernel_rfl) (by simp) ?_
       refine AllReadyH.cons rfl (fun Kc hKc => ?_) AllReadyH.nil
       go_simp
       go_at_call 27
       refine Calls.mono (mul9_ok P hr w7 _ _ _ (gt M i) (gt M i2) _ _ _ (HA.out w7 (grown_trans hgw hW7)).2.1 (Ints.mono HX.out.1 (frame_of hg7 (fun k hk _ => ⟨hk, fun e => hk.1 (by cases e; rfl)⟩))) hmy HX.out.2.1 hi2V) ?_
       rintro e8 w8 ⟨v8, rfl, hg8, oa, on, oc, rfl, hO8⟩
       have hW8 : Ext wL w8 := grown_trans hW7 hg8
       have hTV := G.mulV HX.out.2.1 hi2V
       have hd7 := hD7.lt
       have hTI : Ints (fun k => ¬ k = db ∧ (Value.slice (some ⟨mb, mo, none⟩) M.length cM).ownBlock ≠ some k) w8 (.slice oa on oc) (rMul P (gt M i) (gt M i2)) := ints_of_own hO8 (by rw [hTV.1]; omega) (fun k hk => by
        have h1 := (hO8.lt k hk).1
        exact ⟨by omega, fun e => by have := (hQ7.lt k e).2; omega⟩)
       go_wp2_with fail
       refine hKc.out _ _ ?_ (fun hHeld => ?_)
       ·exact hW8
       clear hKc Kc
       try simp only [Act.put, List.getElem_toArray, List.getElem_cons_succ, List.getElem_cons_zero, List.setIfInBounds_toArray, List.set_cons_zero, List.set_cons_succ]
       refine wpAnyH_ready (rs := [11]) (by kernel_rfl) (by simp) ?_
       refine AllReadyH.cons rfl (fun Kc hKc => ?_) AllReadyH.nil
       go_simp
       refine hKc.out _ _ ?_ (fun hHeld => ?_)
       ·exact grown_trans hW8 (World.grownBy_alloc _ _ _)
       clear hKc Kc
       try simp only [Act.put, List.getElem_toArray, List.getElem_cons_succ, List.getElem_cons_zero, List.setIfInBounds_toArray, List.set_cons_zero, List.set_cons_succ]
       refine wpAnyH_ready (rs := [12]) (by kernel_rfl) (by simp) ?_
       refine AllReadyH.cons rfl (fun Kc hKc => ?_) AllReadyH.nil
       refine step_shq_app rfl _ _ rfl (fun k => k = db) wL.heap.size _ _ M _ rfl w8 (hQ7.ext hg8) rfl hTI rfl (by omega) hW8.size ?_
       intro v9 w9 hQ9 hg9 hb9
       have hW9 : Ext wL w9 := grown_own hW8 hg9 (fun j hj hlt => by have := (hQ7.lt j hj).1; omega)
       refine hKc.out _ _ ?_ (fun hHeld => ?_)
       ·exact hW9
       clear hKc Kc
       try simp only [Act.put, List.getElem_toArray, List.getElem_cons_succ, List.getElem_cons_zero, List.setIfInBounds_toArray, List.set_cons_zero, List.set_cons_succ]
       refine wpAnyH_take (i := 13) (v := ?vs13_9) rfl (by kernel_rfl) (by kernel_rfl) (by kernel_rfl) (fun _ _ _ h => h) (Or.inl ⟨by rfl, ?hys13_9⟩) (by assumption) ?rests13_9
       case hys13_9 => (intro w hSw; (try dsimp only at hSw); go_simp; try with_reducible rfl)
       try simp only [Act.put, List.getElem_toArray, List.getElem_cons_succ, List.getElem_cons_zero, List.setIfInBounds_toArray, List.set_cons_zero, List.set_cons_succ]
       refine wpAnyH_done (by kernel_rfl) ?_ _
       have hTm : gU P U (rMul P (gt M i) (gt M i2)) := HH.out.1.mul _ _ (hM.out.2.1 _ (gtMem hi)) (hM.out.2.1 _ (gtMem hi2))
       have hD9 := (hD7.ext hg8).own hg9 (fun j hj => ⟨fun hk => by have h1 := hk.1; have := (hQ7.lt j hj).1; omega, fun e => hM.out.2.2.2 (hj.trans (congrArg some e))⟩)
       have hn9 : v9.ownBlock ≠ some db := fun e => by
        rcases hb9 with h | h
        ·exact hM.out.2.2.2 (h.symm.trans e)
        ·have h1 := h db e; have h2 := hg8.size; omega
       obtain ⟨T, hT⟩ : ∃ T, T = rMul P (gt M i) (gt M i2) := ⟨_, rfl⟩
       rw [← hT] at hQ9 hTm
       have H9 := Lib.hid (And.intro hTm (And.intro hD9 hn9)); clear hTm hD9 hn9 hT hTI hTV hO8 hmy hmc2 f1_ f2_ f3_ hb9 hg9 hg8 hg7 hg7a hD7 hQ7 hQ6
       go_wp2
       go_roundw
       case rel => exact ⟨k + 1, M ++ [T], v9, rfl, by go_num, by omega, Lib.hid ⟨by rw [List.length_append, List.length_singleton]; omega, fun x hx => by
        rcases List.mem_append.1 hx with h | h
        ·exact hM.out.2.1 x h
        ·rw [List.mem_singleton.1 h]; exact H9.out.1, fun x hx => List.mem_append_left _ (hM.out.2.2.1 x hx), H9.out.2.2⟩, hW9, hQ9, Lib.hid H9.out.2.1⟩
       case measure => simp [intOf]; omega
      ·skip
       obtain ⟨w6, rfl⟩ : ∃ w6 : World, w6 = wr := ⟨_, rfl⟩
       have hdw := hgw.size
       have hdZ := hgZ.size
       replace hgw := grown_trans hgw hgd
       replace hgZ := grown_trans hgZ hgd
       have eM := gU_same G hVH.out hM.out.2.1 hM.out.2.2.1
       have hMok : gsOk P M := ⟨hr, fun x hx => HH.out.1.vec x (hM.out.2.1 x hx)⟩
       have hM24' : ¬ 24 < M.length := by omega
       have hMr := hQ2.rows
       have hMg := gs_ok hMok hM24'
       rw [eM] at hMg
       have HMG := Lib.hid (And.intro hMr hMg); clear hMr hMg eM hMok hM24' hQ2
       have hgQ := grown_refl w6 none
       obtain ⟨b0_, b1_, b2_, b3_, _⟩ := id (HA.out w6 hgw).1
       go_wp2_with fail
       clear b0_ b1_ b2_ b3_
       refine Calls.mono (iGenSub_ok P w6 _ _ M _ _ (HA.out w6 hgw).2.1 HMG.out.1) ?_
       rintro e7 w7 ⟨v7, rfl, hg_, ga, gn, gc, rfl, hR_⟩
       replace hgw := grown_trans hgw hg_
       replace hgZ := grown_trans hgZ hg_
       replace hgQ := grown_trans hgQ hg_
       rw [HMG.out.2.1]
       rw [HMG.out.2.2] at hR_
       have hKl : (cseq P (gU P U)).length ≤ P.orders.length := G.cseq_len HH.out.1
       have hRr : Rows2 Any w7 (.slice ga gn gc) (cseq P (gU P U)) := Rows2.sub (RowsD.rows (SlO.toD hR_ (by omega))) (fun _ _ _ => trivial)
       have hRx : ∀ w', Ext w7 w' → Rows2 Any w' (.slice ga gn gc) (cseq P (gU P U)) := fun w' h => Rows2.ext hRr h
       have HR := Lib.hid hRx; clear hRr hRx
       have hgR := grown_refl w7 none
       clear hR_ hKl HMG
       clear hg_
       go_wp2_with fail
       refine Calls.mono (like29_ok _ _ _ _ w7 Any Any (HR.out w7 hgR) (HZ.out w7 hgZ)) ?_
       rintro e8 w8 ⟨v8, rfl, hg_, rfl⟩
       replace hgw := grown_trans hgw hg_
       replace hgZ := grown_trans hgZ hg_
       replace hgQ := grown_trans hgQ hg_
       replace hgR := grown_trans hgR hg_
       rw [show eqB (cseq P (gU P U)) (cseq P (gU P U)) = true from eqB_true.2 rfl]
       clear HR hgR
       clear hg_
       obtain ⟨b0_, b1_, b2_, b3_, _⟩ := id (HA.out w8 hgw).1
       go_wp2_with fail
       clear b0_ b1_ b2_ b3_
       refine Calls.mono (iIsSub_ok P w8 _ _ _ _ _ (HA.out w8 hgw).2.1 (HZ.out w8 hgZ)) ?_
       rintro e9 w9 ⟨v9, rfl, hg_, r_, rfl, hr_⟩
       replace hgw := grown_trans hgw hg_
       replace hgZ := grown_trans hgZ hg_
       replace hgQ := grown_trans hgQ hg_
       obtain rfl : r_ = true := hr_.2 ⟨hr, HH.out.2.1⟩
       clear hr_
       clear hg_
       obtain ⟨b0_, b1_, b2_, b3_, _⟩ := id (HA.out w9 hgw).1
       go_wp2_with fail
       clear b0_ b1_ b2_ b3_
       refine Calls.mono (iOrder_ok P hr w9 _ _ _ _ _ (HA.out w9 hgw).2.1 (HZ.out w9 hgZ) HH.out.2.1) ?_
       rintro e10 w10 ⟨v10, rfl, hg_, rfl⟩
       replace hgw := grown_trans hgw hg_
       replace hgZ := grown_trans hgZ hg_
       replace hgQ := grown_trans hgQ hg_
       rw [HH.out.2.2.2.2.2.2.2.1, HH.out.2.2.2.2.2.2.2.2]
       have hN1 : 1 ≤ (((elemsIn P (gU P U)).length : Nat) : Int) := by rw [← HH.out.2.2.2.2.2.2.2.2]; exact HH.out.2.2.2.2.1
       have hN2 : (((elemsIn P (gU P U)).length : Nat) : Int) ≤ 729 := by rw [← HH.out.2.2.2.2.2.2.2.2]; exact HH.out.2.2.2.2.2.1
       have hmod : (ordP P).tmod (((elemsIn P (gU P U)).length : Nat) : Int) = 0 := by rw [← HH.out.2.2.2.2.2.2.2.2]; exact HH.out.2.2.2.2.2.2.1
       obtain ⟨E, hE⟩ : ∃ E, E = elemsIn P (gU P U) := ⟨_, rfl⟩
       rw [← hE] at hN1 hN2 hmod
       rw [← hE]
       have HE := Lib.hid hE; clear hE
       have hN0 : ¬ E = [] := fun e => by rw [e] at hN1; simp at hN1
       have hN3 : ¬ ((E.length : Nat) : Int) < 1 := by omega
       clear hg_
       obtain ⟨b0_, b1_, b2_, b3_, _⟩ := id (HA.out w10 hgw).1
       go_wp2_with fail
       clear b0_ b1_ b2_ b3_
       refine Calls.mono (size9_ok P hr w10 _ _ (HA.out w10 hgw).2.1) ?_
       rintro e11 w11 ⟨v11, rfl, hg_, rfl⟩
       replace hgw := grown_trans hgw hg_
       replace hgZ := grown_trans hgZ hg_
       replace hgQ := grown_trans hgQ hg_
       have hsQ := hgQ.size
       clear hg_
       obtain ⟨b0_, b1_, b2_, b3_, _⟩ := id (HA.out w11 hgw).1
       go_wp2_with fail
       clear b0_ b1_ b2_ b3_
       refine Calls.mono (iSubEl_ok P w11 _ _ _ _ _ (HA.out w11 hgw).2.1 (HZ.out w11 hgZ)) ?_
       rintro e12 w12 ⟨v12, rfl, hg_, ea, en, ec, rfl, hE_⟩
       replace hgw := grown_trans hgw hg_
       replace hgZ := grown_trans hgZ hg_
       replace hgQ := grown_trans hgQ hg_
       clear hmod
       clear hg_
       have hKK : prodU P (cseq P (gU P U)) (cseq P (gU P U)).length = ((E.length : Nat) : Int) := by rw [HE.out, ← HH.out.2.2.2.2.2.2.2.2]; exact HH.out.2.2.2.2.2.2.2.1
       by_cases hb : 128 < ((E.length : Nat) : Int)
       ·have hs := (selL_big (P := P) (U := cseq P (gU P U)) ⟨hr, HH.out.2.1⟩ (by rw [hKK]; exact hb)).1
        rw [hs]
        clear hs hKK
        go_wp2
        go_ret
        exact ⟨_, rfl, grown_trans HA0.out.2.2.1 hgw, rfl⟩
       have hs := selL_ok (P := P) (U := cseq P (gU P U)) ⟨hr, HH.out.2.1⟩ (by rw [hKK]; exact hb)
       rw [hs.1]
       rw [hs.2, show genP P (fun x => x ∈ cseq P (gU P U)) = gU P U from HH.out.2.2.1, ← HE.out] at hE_
       clear hs hKK
       have hEd := hE_.toD (by omega)
       obtain ⟨ea2, ec2, hee, _⟩ := SlD.shape hEd
       cases hee
       have hDq := hDr.out.ext hgQ
       have hdq := hDr.out.lt
       have hEr : Rows2 (fun k => k ≠ db) w12 (.slice ea E.length ec) E := Rows2.sub (RowsD.rows hEd) (fun k hk _ => by have hk : w11.heap.size ≤ k := hk; omega)
       clear hE_ hEd
       have hEm : ∀ i, i < E.length → gU P U (gt E i) := fun i hi => (elemsIn_mem G.v (fun x hx => HH.out.1.vec x hx) _).1 (by rw [← HE.out]; exact gtMem hi)
       have HEM := Lib.hid hEm; clear hEm
       go_wp2_with fail
       refine Calls.mono (belowS_ok _ w12 db ((E.length : Nat) : Int) hDq hN1 (by omega)) ?_
       rintro eX wX ⟨vX, rfl, hgX, x1, rfl, hx10, hx11, hDX⟩
       obtain ⟨i1, rfl⟩ := Int.eq_ofNat_of_zero_le hx10
       have hi1 : i1 < E.length := by omega
       have hErX := Rows2.mono hEr (frame_of hgX (fun k hk _ => ⟨hk, fun e => hk (by cases e; rfl)⟩))
       obtain ⟨eb, eo, xa, xc, hee, _, _, hcX, hx⟩ := Rows2.at hErX i1 hi1
       subst hee
       have hX1 := HEM.out i1 hi1
       have hX1V := HH.out.1.vec _ hX1
       replace hgw := grown_own hgw hgX (fun j hj hlt => by have := Option.some.inj hj; omega)
       replace hgZ := grown_own hgZ hgX (fun j hj hlt => by have := Option.some.inj hj; omega)
       have H1 := Lib.hid (And.intro hX1 (And.intro hX1V hx)); clear hX1 hX1V hx hgX hEr
       go_wp2_with fail
       refine Calls.mono (belowS_ok _ wX db ((E.length : Nat) : Int) hDX hN1 (by omega)) ?_
       rintro eY wY ⟨vY, rfl, hgY, x2, rfl, hx20, hx21, hDY⟩
       obtain ⟨i2, rfl⟩ := Int.eq_ofNat_of_zero_le hx20
       have hi2 : i2 < E.length := by omega
       have hErY := Rows2.mono hErX (frame_of hgY (fun k hk _ => ⟨hk, fun e => hk (by cases e; rfl)⟩))
       obtain ⟨eb2, eo2, ya, yc, hee2, _, _, hcY, hy⟩ := Rows2.at hErY i2 hi2
       cases hee2
       have hX2 := HEM.out i2 hi2
       have hX2V := HH.out.1.vec _ hX2
       have hxY := Ints.mono H1.out.2.2 (frame_of hgY (fun k hk _ => ⟨hk, fun e => hk (by cases e; rfl)⟩))
       replace hgw := grown_own hgw hgY (fun j hj hlt => by have := Option.some.inj hj; omega)
       replace hgZ := grown_own hgZ hgY (fun j hj hlt => by have := Option.some.inj hj; omega)
       have hTV := G.mulV H1.out.2.1 hX2V
       have hTm := HH.out.1.mul _ _ H1.out.1 hX2
       have H2 := Lib.hid (And.intro hX2V (And.intro hxY (And.intro hy (And.intro hTV hTm)))); clear hX2 hX2V hxY hy hTV hTm hgY hErX hErY hcX
       go_wp2
       clear hcY
       have f1_ : ∀ w', Ext wY w' → w'.cell? ⟨pb, 0, none⟩ = some (.slice a1 n1 c1) := fun w' h => (HA.out w' (grown_trans hgw h)).1.2.1
       have f2_ : ∀ w', Ext wY w' → w'.cell? ⟨pb, 1, none⟩ = some (.slice a2 n2 c2) := fun w' h => (HA.out w' (grown_trans hgw h)).1.2.2.1
       have f3_ : ∀ w', Ext wY w' → w'.cell? ⟨pb, 2, none⟩ = some (.slice a3 n3 c3) := fun w' h => (HA.out w' (grown_trans hgw h)).1.2.2.2.1
       go_region_held3 (fun w' => Ext wY w') (first | exact grown_drew _ _ | assumption)
        (first
         | (go_at_call 27; refine Calls.mono (Calls.rel2 (w0 := wY) (by assumption) (mul9_ok P hr _ _ _ _ (gt E i1) (gt E i2) _ _ _ (HA.out _ (grown_trans hgw (by assumption))).2.1 (Ints.ext H2.out.2.1 (by assumption)) (Ints.ext H2.out.2.2.1 (by assumption)) H1.out.2.1 H2.out.1)) ?_; rintro eI wI ⟨vI, rfl, hgI, _, _, ia, in_, ic, rfl, hI_⟩; have hIi := hI_.ints (by rw [H2.out.2.2.2.1.1]; omega))
         | (go_at_call 29; refine Calls.mono (Calls.rel (w0 := wY) (by assumption) (iMember_ok P hr _ _ _ _ _ (rMul P (gt E i1) (gt E i2)) _ _ _ (HA.out _ (grown_trans hgw (by assumption))).2.1 (HZ.out _ (grown_trans hgZ (by assumption))) hIi HH.out.2.1 H2.out.2.2.2.1)) ?_; rintro eJ wJ ⟨vJ, rfl, hgJ, _, r_, rfl, hr_⟩))
       obtain rfl : r_ = true := hr_.2 (by rw [show gU P (cseq P (gU P U)) = gU P U from HH.out.2.2.1]; exact H2.out.2.2.2.2)
       clear hr_ f1_ f2_ f3_
       have hgwJ := grown_trans hgw hgJ
       go_wp2
       go_ret
       exact ⟨_, rfl, grown_trans HA0.out.2.2.1 hgwJ, rfl⟩
     ·skip
      obtain ⟨w6, rfl⟩ : ∃ w6 : World, w6 = wr := ⟨_, rfl⟩
      have hdw := hgw.size
      have hdZ := hgZ.size
      replace hgw := grown_trans hgw hgd
      replace hgZ := grown_trans hgZ hgd
      have eM := gU_same G hVH.out hM.out.2.1 hM.out.2.2.1
      have hMok : gsOk P M := ⟨hr, fun x hx => HH.out.1.vec x (hM.out.2.1 x hx)⟩
      have hM24' : ¬ 24 < M.length := by omega
      have hMr := hQ2.rows
      have hMg := gs_ok hMok hM24'
      rw [eM] at hMg
      have HMG := Lib.hid (And.intro hMr hMg); clear hMr hMg eM hMok hM24' hQ2
      have hgQ := grown_refl w6 none
      obtain ⟨b0_, b1_, b2_, b3_, _⟩ := id (HA.out w6 hgw).1
      go_wp2_with fail
      clear b0_ b1_ b2_ b3_
      refine Calls.mono (iGenSub_ok P w6 _ _ M _ _ (HA.out w6 hgw).2.1 HMG.out.1) ?_
      rintro e7 w7 ⟨v7, rfl, hg_, ga, gn, gc, rfl, hR_⟩
      replace hgw := grown_trans hgw hg_
      replace hgZ := grown_trans hgZ hg_
      replace hgQ := grown_trans hgQ hg_
      rw [HMG.out.2.1]
      rw [HMG.out.2.2] at hR_
      have hKl : (cseq P (gU P U)).length ≤ P.orders.length := G.cseq_len HH.out.1
      have hRr : Rows2 Any w7 (.slice ga gn gc) (cseq P (gU P U)) := Rows2.sub (RowsD.rows (SlO.toD hR_ (by omega))) (fun _ _ _ => trivial)
      have hRx : ∀ w', Ext w7 w' → Rows2 Any w' (.slice ga gn gc) (cseq P (gU P U)) := fun w' h => Rows2.ext hRr h
      have HR := Lib.hid hRx; clear hRr hRx
      have hgR := grown_refl w7 none
      clear hR_ hKl HMG
      clear hg_
      go_wp2_with fail
      refine Calls.mono (like29_ok _ _ _ _ w7 Any Any (HR.out w7 hgR) (HZ.out w7 hgZ)) ?_
      rintro e8 w8 ⟨v8, rfl, hg_, rfl⟩
      replace hgw := grown_trans hgw hg_
      replace hgZ := grown_trans hgZ hg_
      replace hgQ := grown_trans hgQ hg_
      replace hgR := grown_trans hgR hg_
      rw [show eqB (cseq P (gU P U)) (cseq P (gU P U)) = true from eqB_true.2 rfl]
      clear HR hgR
      clear hg_
      obtain ⟨b0_, b1_, b2_, b3_, _⟩ := id (HA.out w8 hgw).1
      go_wp2_with fail
      clear b0_ b1_ b2_ b3_
      refine Calls.mono (iIsSub_ok P w8 _ _ _ _ _ (HA.out w8 hgw).2.1 (HZ.out w8 hgZ)) ?_
      rintro e9 w9 ⟨v9, rfl, hg_, r_, rfl, hr_⟩
      replace hgw := grown_trans hgw hg_
      replace hgZ := grown_trans hgZ hg_
      replace hgQ := grown_trans hgQ hg_
      obtain rfl : r_ = true := hr_.2 ⟨hr, HH.out.2.1⟩
      clear hr_
      clear hg_
      obtain ⟨b0_, b1_, b2_, b3_, _⟩ := id (HA.out w9 hgw).1
      go_wp2_with fail
      clear b0_ b1_ b2_ b3_
      refine Calls.mono (iOrder_ok P hr w9 _ _ _ _ _ (HA.out w9 hgw).2.1 (HZ.out w9 hgZ) HH.out.2.1) ?_
      rintro e10 w10 ⟨v10, rfl, hg_, rfl⟩
      replace hgw := grown_trans hgw hg_
      replace hgZ := grown_trans hgZ hg_
      replace hgQ := grown_trans hgQ hg_
      rw [HH.out.2.2.2.2.2.2.2.1, HH.out.2.2.2.2.2.2.2.2]
      have hN1 : 1 ≤ (((elemsIn P (gU P U)).length : Nat) : Int) := by rw [← HH.out.2.2.2.2.2.2.2.2]; exact HH.out.2.2.2.2.1
      have hN2 : (((elemsIn P (gU P U)).length : Nat) : Int) ≤ 729 := by rw [← HH.out.2.2.2.2.2.2.2.2]; exact HH.out.2.2.2.2.2.1
      have hmod : (ordP P).tmod (((elemsIn P (gU P U)).length : Nat) : Int) = 0 := by rw [← HH.out.2.2.2.2.2.2.2.2]; exact HH.out.2.2.2.2.2.2.1
      obtain ⟨E, hE⟩ : ∃ E, E = elemsIn P (gU P U) := ⟨_, rfl⟩
      rw [← hE] at hN1 hN2 hmod
      rw [← hE]
      have HE := Lib.hid hE; clear hE
      have hN0 : ¬ E = [] := fun e => by rw [e] at hN1; simp at hN1
      have hN3 : ¬ ((E.length : Nat) : Int) < 1 := by omega
      clear hg_
      obtain ⟨b0_, b1_, b2_, b3_, _⟩ := id (HA.out w10 hgw).1
      go_wp2_with fail
      clear b0_ b1_ b2_ b3_
      refine Calls.mono (size9_ok P hr w10 _ _ (HA.out w10 hgw).2.1) ?_
      rintro e11 w11 ⟨v11, rfl, hg_, rfl⟩
      replace hgw := grown_trans hgw hg_
      replace hgZ := grown_trans hgZ hg_
      replace hgQ := grown_trans hgQ hg_
      have hsQ := hgQ.size
      clear hg_
      obtain ⟨b0_, b1_, b2_, b3_, _⟩ := id (HA.out w11 hgw).1
      go_wp2_with fail
      clear b0_ b1_ b2_ b3_
      refine Calls.mono (iSubEl_ok P w11 _ _ _ _ _ (HA.out w11 hgw).2.1 (HZ.out w11 hgZ)) ?_
      rintro e12 w12 ⟨v12, rfl, hg_, ea, en, ec, rfl, hE_⟩
      replace hgw := grown_trans hgw hg_
      replace hgZ := grown_trans hgZ hg_
      replace hgQ := grown_trans hgQ hg_
      clear hmod
      clear hg_
      have hKK : prodU P (cseq P (gU P U)) (cseq P (gU P U)).length = ((E.length : Nat) : Int) := by rw [HE.out, ← HH.out.2.2.2.2.2.2.2.2]; exact HH.out.2.2.2.2.2.2.2.1
      by_cases hb : 128 < ((E.length : Nat) : Int)
      ·have hs := (selL_big (P := P) (U := cseq P (gU P U)) ⟨hr, HH.out.2.1⟩ (by rw [hKK]; exact hb)).1
       rw [hs]
       clear hs hKK
       go_wp2
       go_ret
       exact ⟨_, rfl, grown_trans HA0.out.2.2.1 hgw, rfl⟩
      have hs := selL_ok (P := P) (U := cseq P (gU P U)) ⟨hr, HH.out.2.1⟩ (by rw [hKK]; exact hb)
      rw [hs.1]
      rw [hs.2, show genP P (fun x => x ∈ cseq P (gU P U)) = gU P U from HH.out.2.2.1, ← HE.out] at hE_
      clear hs hKK
      have hEd := hE_.toD (by omega)
      obtain ⟨ea2, ec2, hee, _⟩ := SlD.shape hEd
      cases hee
      have hDq := hDr.out.ext hgQ
      have hdq := hDr.out.lt
      have hEr : Rows2 (fun k => k ≠ db) w12 (.slice ea E.length ec) E := Rows2.sub (RowsD.rows hEd) (fun k hk _ => by have hk : w11.heap.size ≤ k := hk; omega)
      clear hE_ hEd
      have hEm : ∀ i, i < E.length → gU P U (gt E i) := fun i hi => (elemsIn_mem G.v (fun x hx => HH.out.1.vec x hx) _).1 (by rw [← HE.out]; exact gtMem hi)
      have HEM := Lib.hid hEm; clear hEm
      go_wp2_with fail
      refine Calls.mono (belowS_ok _ w12 db ((E.length : Nat) : Int) hDq hN1 (by omega)) ?_
      rintro eX wX ⟨vX, rfl, hgX, x1, rfl, hx10, hx11, hDX⟩
      obtain ⟨i1, rfl⟩ := Int.eq_ofNat_of_zero_le hx10
      have hi1 : i1 < E.length := by omega
      have hErX := Rows2.mono hEr (frame_of hgX (fun k hk _ => ⟨hk, fun e => hk (by cases e; rfl)⟩))
      obtain ⟨eb, eo, xa, xc, hee, _, _, hcX, hx⟩ := Rows2.at hErX i1 hi1
      subst hee
      have hX1 := HEM.out i1 hi1
      have hX1V := HH.out.1.vec _ hX1
      replace hgw := grown_own hgw hgX (fun j hj hlt => by have := Option.some.inj hj; omega)
      replace hgZ := grown_own hgZ hgX (fun j hj hlt => by have := Option.some.inj hj; omega)
      have H1 := Lib.hid (And.intro hX1 (And.intro hX1V hx)); clear hX1 hX1V hx hgX hEr
      go_wp2_with fail
      refine Calls.mono (belowS_ok _ wX db ((E.length : Nat) : Int) hDX hN1 (by omega)) ?_
      rintro eY wY ⟨vY, rfl, hgY, x2, rfl, hx20, hx21, hDY⟩
      obtain ⟨i2, rfl⟩ := Int.eq_ofNat_of_zero_le hx20
      have hi2 : i2 < E.length := by omega
      have hErY := Rows2.mono hErX (frame_of hgY (fun k hk _ => ⟨hk, fun e => hk (by cases e; rfl)⟩))
      obtain ⟨eb2, eo2, ya, yc, hee2, _, _, hcY, hy⟩ := Rows2.at hErY i2 hi2
      cases hee2
      have hX2 := HEM.out i2 hi2
      have hX2V := HH.out.1.vec _ hX2
      have hxY := Ints.mono H1.out.2.2 (frame_of hgY (fun k hk _ => ⟨hk, fun e => hk (by cases e; rfl)⟩))
      replace hgw := grown_own hgw hgY (fun j hj hlt => by have := Option.some.inj hj; omega)
      replace hgZ := grown_own hgZ hgY (fun j hj hlt => by have := Option.some.inj hj; omega)
      have hTV := G.mulV H1.out.2.1 hX2V
      have hTm := HH.out.1.mul _ _ H1.out.1 hX2
      have H2 := Lib.hid (And.intro hX2V (And.intro hxY (And.intro hy (And.intro hTV hTm)))); clear hX2 hX2V hxY hy hTV hTm hgY hErX hErY hcX
      go_wp2
      clear hcY
      have f1_ : ∀ w', Ext wY w' → w'.cell? ⟨pb, 0, none⟩ = some (.slice a1 n1 c1) := fun w' h => (HA.out w' (grown_trans hgw h)).1.2.1
      have f2_ : ∀ w', Ext wY w' → w'.cell? ⟨pb, 1, none⟩ = some (.slice a2 n2 c2) := fun w' h => (HA.out w' (grown_trans hgw h)).1.2.2.1
      have f3_ : ∀ w', Ext wY w' → w'.cell? ⟨pb, 2, none⟩ = some (.slice a3 n3 c3) := fun w' h => (HA.out w' (grown_trans hgw h)).1.2.2.2.1
      go_region_held3 (fun w' => Ext wY w') (first | exact grown_drew _ _ | assumption)
       (first
        | (go_at_call 27; refine Calls.mono (Calls.rel2 (w0 := wY) (by assumption) (mul9_ok P hr _ _ _ _ (gt E i1) (gt E i2) _ _ _ (HA.out _ (grown_trans hgw (by assumption))).2.1 (Ints.ext H2.out.2.1 (by assumption)) (Ints.ext H2.out.2.2.1 (by assumption)) H1.out.2.1 H2.out.1)) ?_; rintro eI wI ⟨vI, rfl, hgI, _, _, ia, in_, ic, rfl, hI_⟩; have hIi := hI_.ints (by rw [H2.out.2.2.2.1.1]; omega))
        | (go_at_call 29; refine Calls.mono (Calls.rel (w0 := wY) (by assumption) (iMember_ok P hr _ _ _ _ _ (rMul P (gt E i1) (gt E i2)) _ _ _ (HA.out _ (grown_trans hgw (by assumption))).2.1 (HZ.out _ (grown_trans hgZ (by assumption))) hIi HH.out.2.1 H2.out.2.2.2.1)) ?_; rintro eJ wJ ⟨vJ, rfl, hgJ, _, r_, rfl, hr_⟩))
      obtain rfl : r_ = true := hr_.2 (by rw [show gU P (cseq P (gU P U)) = gU P U from HH.out.2.2.1]; exact H2.out.2.2.2.2)
      clear hr_ f1_ f2_ f3_
      have hgwJ := grown_trans hgw hgJ
      go_wp2
      go_ret
      exact ⟨_, rfl, grown_trans HA0.out.2.2.1 hgwJ, rfl⟩
    ·skip
     obtain ⟨w6, rfl⟩ : ∃ w6 : World, w6 = wr := ⟨_, rfl⟩
     have hdw := hgw.size
     have hdZ := hgZ.size
     replace hgw := grown_trans hgw hgd
     replace hgZ := grown_trans hgZ hgd
     have eM := gU_same G hVH.out hM.out.2.1 hM.out.2.2.1
     have hMok : gsOk P M := ⟨hr, fun x hx => HH.out.1.vec x (hM.out.2.1 x hx)⟩
     have hM24' : ¬ 24 < M.length := by omega
     have hMr := hQ2.rows
     have hMg := gs_ok hMok hM24'
     rw [eM] at hMg
     have HMG := Lib.hid (And.intro hMr hMg); clear hMr hMg eM hMok hM24' hQ2
     have hgQ := grown_refl w6 none
     obtain ⟨b0_, b1_, b2_, b3_, _⟩ := id (HA.out w6 hgw).1
     go_wp2_with fail
     clear b0_ b1_ b2_ b3_
     refine Calls.mono (iGenSub_ok P w6 _ _ M _ _ (HA.out w6 hgw).2.1 HMG.out.1) ?_
     rintro e7 w7 ⟨v7, rfl, hg_, ga, gn, gc, rfl, hR_⟩
     replace hgw := grown_trans hgw hg_
     replace hgZ := grown_trans hgZ hg_
     replace hgQ := grown_trans hgQ hg_
     rw [HMG.out.2.1]
     rw [HMG.out.2.2] at hR_
     have hKl : (cseq P (gU P U)).length ≤ P.orders.length := G.cseq_len HH.out.1
     have hRr : Rows2 Any w7 (.slice ga gn gc) (cseq P (gU P U)) := Rows2.sub (RowsD.rows (SlO.toD hR_ (by omega))) (fun _ _ _ => trivial)
     have hRx : ∀ w', Ext w7 w' → Rows2 Any w' (.slice ga gn gc) (cseq P (gU P U)) := fun w' h => Rows2.ext hRr h
     have HR := Lib.hid hRx; clear hRr hRx
     have hgR := grown_refl w7 none
     clear hR_ hKl HMG
     clear hg_
     go_wp2_with fail
     refine Calls.mono (like29_ok _ _ _ _ w7 Any Any (HR.out w7 hgR) (HZ.out w7 hgZ)) ?_
     rintro e8 w8 ⟨v8, rfl, hg_, rfl⟩
     replace hgw := grown_trans hgw hg_
     replace hgZ := grown_trans hgZ hg_
     replace hgQ := grown_trans hgQ hg_
     replace hgR := grown_trans hgR hg_
     rw [show eqB (cseq P (gU P U)) (cseq P (gU P U)) = true from eqB_true.2 rfl]
     clear HR hgR
     clear hg_
     obtain ⟨b0_, b1_, b2_, b3_, _⟩ := id (HA.out w8 hgw).1
     go_wp2_with fail
     clear b0_ b1_ b2_ b3_
     refine Calls.mono (iIsSub_ok P w8 _ _ _ _ _ (HA.out w8 hgw).2.1 (HZ.out w8 hgZ)) ?_
     rintro e9 w9 ⟨v9, rfl, hg_, r_, rfl, hr_⟩
     replace hgw := grown_trans hgw hg_
     replace hgZ := grown_trans hgZ hg_
     replace hgQ := grown_trans hgQ hg_
     obtain rfl : r_ = true := hr_.2 ⟨hr, HH.out.2.1⟩
     clear hr_
     clear hg_
     obtain ⟨b0_, b1_, b2_, b3_, _⟩ := id (HA.out w9 hgw).1
     go_wp2_with fail
     clear b0_ b1_ b2_ b3_
     refine Calls.mono (iOrder_ok P hr w9 _ _ _ _ _ (HA.out w9 hgw).2.1 (HZ.out w9 hgZ) HH.out.2.1) ?_
     rintro e10 w10 ⟨v10, rfl, hg_, rfl⟩
     replace hgw := grown_trans hgw hg_
     replace hgZ := grown_trans hgZ hg_
     replace hgQ := grown_trans hgQ hg_
     rw [HH.out.2.2.2.2.2.2.2.1, HH.out.2.2.2.2.2.2.2.2]
     have hN1 : 1 ≤ (((elemsIn P (gU P U)).length : Nat) : Int) := by rw [← HH.out.2.2.2.2.2.2.2.2]; exact HH.out.2.2.2.2.1
     have hN2 : (((elemsIn P (gU P U)).length : Nat) : Int) ≤ 729 := by rw [← HH.out.2.2.2.2.2.2.2.2]; exact HH.out.2.2.2.2.2.1
     have hmod : (ordP P).tmod (((elemsIn P (gU P U)).length : Nat) : Int) = 0 := by rw [← HH.out.2.2.2.2.2.2.2.2]; exact HH.out.2.2.2.2.2.2.1
     obtain ⟨E, hE⟩ : ∃ E, E = elemsIn P (gU P U) := ⟨_, rfl⟩
     rw [← hE] at hN1 hN2 hmod
     rw [← hE]
     have HE := Lib.hid hE; clear hE
     have hN0 : ¬ E = [] := fun e => by rw [e] at hN1; simp at hN1
     have hN3 : ¬ ((E.length : Nat) : Int) < 1 := by omega
     clear hg_
     obtain ⟨b0_, b1_, b2_, b3_, _⟩ := id (HA.out w10 hgw).1
     go_wp2_with fail
     clear b0_ b1_ b2_ b3_
     refine Calls.mono (size9_ok P hr w10 _ _ (HA.out w10 hgw).2.1) ?_
     rintro e11 w11 ⟨v11, rfl, hg_, rfl⟩
     replace hgw := grown_trans hgw hg_
     replace hgZ := grown_trans hgZ hg_
     replace hgQ := grown_trans hgQ hg_
     have hsQ := hgQ.size
     clear hg_
     obtain ⟨b0_, b1_, b2_, b3_, _⟩ := id (HA.out w11 hgw).1
     go_wp2_with fail
     clear b0_ b1_ b2_ b3_
     refine Calls.mono (iSubEl_ok P w11 _ _ _ _ _ (HA.out w11 hgw).2.1 (HZ.out w11 hgZ)) ?_
     rintro e12 w12 ⟨v12, rfl, hg_, ea, en, ec, rfl, hE_⟩
     replace hgw := grown_trans hgw hg_
     replace hgZ := grown_trans hgZ hg_
     replace hgQ := grown_trans hgQ hg_
     clear hmod
     clear hg_
     have hKK : prodU P (cseq P (gU P U)) (cseq P (gU P U)).length = ((E.length : Nat) : Int) := by rw [HE.out, ← HH.out.2.2.2.2.2.2.2.2]; exact HH.out.2.2.2.2.2.2.2.1
     by_cases hb : 128 < ((E.length : Nat) : Int)
     ·have hs := (selL_big (P := P) (U := cseq P (gU P U)) ⟨hr, HH.out.2.1⟩ (by rw [hKK]; exact hb)).1
      rw [hs]
      clear hs hKK
      go_wp2
      go_ret
      exact ⟨_, rfl, grown_trans HA0.out.2.2.1 hgw, rfl⟩
     have hs := selL_ok (P := P) (U := cseq P (gU P U)) ⟨hr, HH.out.2.1⟩ (by rw [hKK]; exact hb)
     rw [hs.1]
     rw [hs.2, show genP P (fun x => x ∈ cseq P (gU P U)) = gU P U from HH.out.2.2.1, ← HE.out] at hE_
     clear hs hKK
     have hEd := hE_.toD (by omega)
     obtain ⟨ea2, ec2, hee, _⟩ := SlD.shape hEd
     cases hee
     have hDq := hDr.out.ext hgQ
     have hdq := hDr.out.lt
     have hEr : Rows2 (fun k => k ≠ db) w12 (.slice ea E.length ec) E := Rows2.sub (RowsD.rows hEd) (fun k hk _ => by have hk : w11.heap.size ≤ k := hk; omega)
     clear hE_ hEd
     have hEm : ∀ i, i < E.length → gU P U (gt E i) := fun i hi => (elemsIn_mem G.v (fun x hx => HH.out.1.vec x hx) _).1 (by rw [← HE.out]; exact gtMem hi)
     have HEM := Lib.hid hEm; clear hEm
     go_wp2_with fail
     refine Calls.mono (belowS_ok _ w12 db ((E.length : Nat) : Int) hDq hN1 (by omega)) ?_
     rintro eX wX ⟨vX, rfl, hgX, x1, rfl, hx10, hx11, hDX⟩
     obtain ⟨i1, rfl⟩ := Int.eq_ofNat_of_zero_le hx10
     have hi1 : i1 < E.length := by omega
     have hErX := Rows2.mono hEr (frame_of hgX (fun k hk _ => ⟨hk, fun e => hk (by cases e; rfl)⟩))
     obtain ⟨eb, eo, xa, xc, hee, _, _, hcX, hx⟩ := Rows2.at hErX i1 hi1
     subst hee
     have hX1 := HEM.out i1 hi1
     have hX1V := HH.out.1.vec _ hX1
     replace hgw := grown_own hgw hgX (fun j hj hlt => by have := Option.some.inj hj; omega)
     replace hgZ := grown_own hgZ hgX (fun j hj hlt => by have := Option.some.inj hj; omega)
     have H1 := Lib.hid (And.intro hX1 (And.intro hX1V hx)); clear hX1 hX1V hx hgX hEr
     go_wp2_with fail
     refine Calls.mono (belowS_ok _ wX db ((E.length : Nat) : Int) hDX hN1 (by omega)) ?_
     rintro eY wY ⟨vY, rfl, hgY, x2, rfl, hx20, hx21, hDY⟩
     obtain ⟨i2, rfl⟩ := Int.eq_ofNat_of_zero_le hx20
     have hi2 : i2 < E.length := by omega
     have hErY := Rows2.mono hErX (frame_of hgY (fun k hk _ => ⟨hk, fun e => hk (by cases e; rfl)⟩))
     obtain ⟨eb2, eo2, ya, yc, hee2, _, _, hcY, hy⟩ := Rows2.at hErY i2 hi2
     cases hee2
     have hX2 := HEM.out i2 hi2
     have hX2V := HH.out.1.vec _ hX2
     have hxY := Ints.mono H1.out.2.2 (frame_of hgY (fun k hk _ => ⟨hk, fun e => hk (by cases e; rfl)⟩))
     replace hgw := grown_own hgw hgY (fun j hj hlt => by have := Option.some.inj hj; omega)
     replace hgZ := grown_own hgZ hgY (fun j hj hlt => by have := Option.some.inj hj; omega)
     have hTV := G.mulV H1.out.2.1 hX2V
     have hTm := HH.out.1.mul _ _ H1.out.1 hX2
     have H2 := Lib.hid (And.intro hX2V (And.intro hxY (And.intro hy (And.intro hTV hTm)))); clear hX2 hX2V hxY hy hTV hTm hgY hErX hErY hcX
     go_wp2
     clear hcY
     have f1_ : ∀ w', Ext wY w' → w'.cell? ⟨pb, 0, none⟩ = some (.slice a1 n1 c1) := fun w' h => (HA.out w' (grown_trans hgw h)).1.2.1
     have f2_ : ∀ w', Ext wY w' → w'.cell? ⟨pb, 1, none⟩ = some (.slice a2 n2 c2) := fun w' h => (HA.out w' (grown_trans hgw h)).1.2.2.1
     have f3_ : ∀ w', Ext wY w' → w'.cell? ⟨pb, 2, none⟩ = some (.slice a3 n3 c3) := fun w' h => (HA.out w' (grown_trans hgw h)).1.2.2.2.1
     go_region_held3 (fun w' => Ext wY w') (first | exact grown_drew _ _ | assumption)
      (first
       | (go_at_call 27; refine Calls.mono (Calls.rel2 (w0 := wY) (by assumption) (mul9_ok P hr _ _ _ _ (gt E i1) (gt E i2) _ _ _ (HA.out _ (grown_trans hgw (by assumption))).2.1 (Ints.ext H2.out.2.1 (by assumption)) (Ints.ext H2.out.2.2.1 (by assumption)) H1.out.2.1 H2.out.1)) ?_; rintro eI wI ⟨vI, rfl, hgI, _, _, ia, in_, ic, rfl, hI_⟩; have hIi := hI_.ints (by rw [H2.out.2.2.2.1.1]; omega))
       | (go_at_call 29; refine Calls.mono (Calls.rel (w0 := wY) (by assumption) (iMember_ok P hr _ _ _ _ _ (rMul P (gt E i1) (gt E i2)) _ _ _ (HA.out _ (grown_trans hgw (by assumption))).2.1 (HZ.out _ (grown_trans hgZ (by assumption))) hIi HH.out.2.1 H2.out.2.2.2.1)) ?_; rintro eJ wJ ⟨vJ, rfl, hgJ, _, r_, rfl, hr_⟩))
     obtain rfl : r_ = true := hr_.2 (by rw [show gU P (cseq P (gU P U)) = gU P U from HH.out.2.2.1]; exact H2.out.2.2.2.2)
     clear hr_ f1_ f2_ f3_
     have hgwJ := grown_trans hgw hgJ
     go_wp2
     go_ret
     exact ⟨_, rfl, grown_trans HA0.out.2.2.1 hgwJ, rfl⟩
end Go.Proofs.YtdcobapnlpeaaaaGreat
