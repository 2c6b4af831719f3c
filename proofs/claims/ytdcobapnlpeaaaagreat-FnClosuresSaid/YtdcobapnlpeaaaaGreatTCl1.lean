/-
  Lists of lists that a call builds by append: each row in blocks of its own.
  spec.IsPresentation; orders of groups.
  Numbers of elements: impl.numberOf, spec.l10Number, impl.elementAt, spec.l10At, spec.l10One.
  impl.allElements, impl.generators.
  Lists of lists that a call builds by append, none of whose blocks is in A (a map that is written beside them).
  The reference's inverse, conjugate and power: spec.l10From, l10Inv, l10Conj, l08Repeat.
  Plain: a level without a fault makes the tail before it a group; so the two sides' words 'consistent' agree, and in a consistent presentation the two products.
  Plain: the two sides' inverses and conjugates in a consistent presentation.
  Plain: depths; every subgroup has a canonical sequence, and every element a representative.
  Plain: the steps of (*impl.sequence).add on the invariant of SubAdd; how often it can go round.
  Plain: the numbers of elements: num and elAt undo one another.
  cmp.Compare at int64 and slices.Compare at []int64.
  The order of slices.Compare is a total order on lists of integers. Plain.
  Plain: lexicographic order is the order of numbers; all elements stand ascending.
  Plain: the elements of a subgroup as products along its sequence.
  Plain: generated subgroups of sets; intersections.
  Plain: the list of products, element by element (for impl.elementsOf).
  The reference's list of the elements of a subgroup: spec.l12Product, l12Elements.
  Drawing: spec.DrawNormalClosure (printed by gen_drawfn.py).
  impl.conjugates, impl.conjugateSubgroup.
  impl.isNormal.
  Plain: the greatest normal subgroup within a subgroup.
  append of a row that lay there before: the list takes it out of the set of blocks that it avoids.
  [][]int64{row} as a list of the call's own.
  The library's sort at [][]int64, laid from the shelf.
  A row that the call has built, sorted by the library: any elements of one cell. (After the library's Sort/OwnSortedInts, at a general reading.)
  impl.elementsOf.
  Small things of the subgroup statements.
  impl.meet, impl.productSize.
-/
import Derived.Test.YtdcobapnlpeaaaaGreatK10
import Derived.Test.YtdcobapnlpeaaaaGreatK1
import Derived.Test.YtdcobapnlpeaaaaGreatK2
import Derived.Test.YtdcobapnlpeaaaaGreatK3
import Derived.Test.YtdcobapnlpeaaaaGreatK4
import Derived.Test.YtdcobapnlpeaaaaGreatK5
import Derived.Test.YtdcobapnlpeaaaaGreatK6
import Derived.Test.YtdcobapnlpeaaaaGreatK7
import Derived.Test.YtdcobapnlpeaaaaGreatK8
import Derived.Test.YtdcobapnlpeaaaaGreatK9
import Derived.Laws.BitsAllLaws
import Derived.Deep.RegionHeld3
import Derived.BigRegion
import Derived.Shelf.SlSortCmp.NoneTotal
import Derived.Sort.OwnSortedInts
namespace Go.Proofs.YtdcobapnlpeaaaaGreat
open Go.RowKit
theorem SlO.ext {α : Type} [Inhabited α] {El : (Nat → Prop) → World → Value → α → Prop} (hEl : RdOk El) {E B : Nat} {w w' : World} {v : Value} {xs : List α} (h : SlO El E B w v xs) (hg : Ext w w') : SlO El E B w' v xs := by
 obtain ⟨vs, G, hvl, hO, hG, hd, hE⟩ := h
 refine ⟨vs, G, hvl, hO.kept hg (by cases hv : v.ownBlock <;> simp), fun i k hi hk => ?_, hd, fun i hi => hEl.mono (hE i hi) (fun k hk hlt => ⟨hk, Nat.lt_of_lt_of_le hlt hg.size, hg.block k hlt (by simp)⟩)⟩
 obtain ⟨a, b, c⟩ := hG i k hi hk
 exact ⟨a, b, Nat.lt_of_lt_of_le c hg.size⟩
end Go.Proofs.YtdcobapnlpeaaaaGreat
namespace Go.Proofs.YtdcobapnlpeaaaaGreat
open Go.RowKit
def ordP (P : Pr) : Int := prodTo P.orders P.orders.length
end Go.Proofs.YtdcobapnlpeaaaaGreat
namespace Go.Proofs.YtdcobapnlpeaaaaGreat
open Go.RowKit
def numTo (o x : List Int) : Nat → Int
 | 0 => 0
 | k + 1 => numTo o x k * gt o k + gt x k
def num (P : Pr) (x : List Int) : Int := numTo P.orders x P.orders.length
theorem numTo_bd {P : Pr} (hP : Valid P) {x : List Int} (hx : Vec P.orders x) (k : Nat) (hk : k ≤ P.orders.length) : 0 ≤ numTo P.orders x k ∧ numTo P.orders x k + 1 ≤ prodTo P.orders k := by
 induction k with
 | zero => simp [numTo, prodTo]
 | succ k ih =>
  obtain ⟨h1, h2⟩ := ih (by omega)
  have h3 := hP.pos k (by omega)
  have h4 := hx.2 k (by omega)
  have h5 : 0 ≤ numTo P.orders x k * gt P.orders k := Int.mul_nonneg h1 (by omega)
  have h6 : (numTo P.orders x k + 1) * gt P.orders k ≤ prodTo P.orders k * gt P.orders k := Int.mul_le_mul_of_nonneg_right h2 (by omega)
  rw [Int.add_mul, Int.one_mul] at h6
  simp only [numTo, prodTo]
  omega
theorem num_bd {P : Pr} (hP : Valid P) {x : List Int} (hx : Vec P.orders x) : 0 ≤ num P x ∧ num P x < ordP P := by
 have := numTo_bd hP hx P.orders.length (Nat.le_refl _)
 unfold num ordP; omega
def elTo (o : List Int) (N : Nat) (m : Int) : Nat → List Int × Int
 | 0 => (List.replicate N 0, m)
 | k + 1 =>
  let s := elTo o N m k
  (s.1.set (N - 1 - k) (s.2 % gt o (N - 1 - k)), s.2 / gt o (N - 1 - k))
def elAt (P : Pr) (m : Int) : List Int := (elTo P.orders P.orders.length m P.orders.length).1
theorem elTo_inv {P : Pr} (hP : Valid P) (m : Int) (hm : 0 ≤ m) (k : Nat) (hk : k ≤ P.orders.length) :
  Vec P.orders (elTo P.orders P.orders.length m k).1 ∧ 0 ≤ (elTo P.orders P.orders.length m k).2 ∧ (elTo P.orders P.orders.length m k).2 ≤ m := by
 induction k with
 | zero =>
  refine ⟨⟨by simp [elTo], fun i hi => ?_⟩, hm, Int.le_refl _⟩
  have := hP.ord7 i hi
  simp only [elTo]; rw [gt_replicate]; omega
 | succ k ih =>
  obtain ⟨h1, h2, h3⟩ := ih (by omega)
  have ho := hP.ord7 (P.orders.length - 1 - k) (by omega)
  refine ⟨h1.set _ _ ⟨Int.emod_nonneg _ (by omega), fun _ => Int.emod_lt_of_pos _ (by omega)⟩, Int.ediv_nonneg h2 (by omega), ?_⟩
  exact Int.le_trans (Int.ediv_le_self _ h2) h3
theorem elAt_vec {P : Pr} (hP : Valid P) (m : Int) (hm : 0 ≤ m) : Vec P.orders (elAt P m) := (elTo_inv hP m hm _ (Nat.le_refl _)).1
end Go.Proofs.YtdcobapnlpeaaaaGreat
namespace Go.Proofs.YtdcobapnlpeaaaaGreat
open Go.RowKit
theorem range_map_succ {α : Type} (f : Nat → α) (k : Nat) : (List.range (k + 1)).map f = (List.range k).map f ++ [f k] := by
 rw [List.range_succ, List.map_append]; rfl
def gensOf (n : Nat) : List (List Int) := (List.range n).map (fun k : Nat => unitV n k)
set_option maxHeartbeats 400000 in
theorem generators_ok (P : Pr) (hP : Valid P) (w : World) (p : Value) (Sp : Nat → Prop) (hp : PresP Sp w p P) :
  Calls Tryz.prog 168 #[p] w (Ret w fun w' v => RowsO w.heap.size w' v (gensOf P.orders.length)) := by
 have hn6 := hP.n6
 obtain ⟨pb, po, rfl⟩ := hp.shape
 obtain ⟨ao, capo, hco0, hoi⟩ := hp.ordAt
 have hco := hco0
 go_enter Tryz.func168, Tryz.ntmps168
 go_wp2
 clear hco
 have HCO := Lib.hid hco0; clear hco0
 go_loopw [3, 10] (fun v i wr => ∃ k : Nat, i = .int .i64 k ∧ k ≤ P.orders.length ∧ Ext w wr ∧ RowsO w.heap.size wr v ((List.range k).map (fun k : Nat => unitV P.orders.length k))) (fun _ i _ => P.orders.length - (intOf i).toNat)
 case atStart => exact ⟨0, rfl, by omega, Ext.refl _, SlO.nil _ _ _ _⟩
 case round =>
  obtain ⟨k, rfl, hk, hg, hO⟩ := hrel
  by_cases hlt : k < P.orders.length
  ·have hco := hg.cell HCO.out (by simp)
   go_wp2_with fail
   refine Calls.mono (unitVector_ok P.orders.length k wr hlt (by omega)) ?_
   rintro e2 w2 ⟨r, rfl, hg2, hR⟩
   have hRi : OwnIn (From wr.heap.size) w2 r (unitV P.orders.length k) := OwnIn.of hR (by simp [unitV]; omega) (fun j hj _ => hj)
   obtain ⟨ar, capr, rfl, _, _⟩ := hRi.ints.shape
   go_wp2_with (at_builtin; go_must (refine wp_app_row rfl _ _ rfl w.heap.size wr w2 _ _ _ (unitV P.orders.length k) rfl hO hg2 hRi rfl rfl (by simp; omega) hg.size ?_); intro v3 w3 hO3 hg3 hg4)
   have hgx := hO.extw hg (Nat.le_refl _) hg3
   rw [← range_map_succ (fun k : Nat => unitV P.orders.length k)] at hO3
   go_roundw
   case rel => exact ⟨k + 1, by go_num, by omega, hgx, hO3⟩
   case measure => simp [intOf]; omega
  ·have hke : k = P.orders.length := by omega
   subst hke
   go_wp2
   go_ret
   exact ⟨_, rfl, hg, hO⟩
end Go.Proofs.YtdcobapnlpeaaaaGreat
namespace Go.Proofs.YtdcobapnlpeaaaaGreat
open Go.RowKit
def SlOA {α : Type} [Inhabited α] (El : (Nat → Prop) → World → Value → α → Prop) (E B : Nat) (A : Nat → Prop) (w : World) (v : Value) (xs : List α) : Prop :=
 ∃ (vs : List Value) (G : Nat → Nat → Prop), vs.length = xs.length ∧ OwnV B E w v vs ∧ (∀ i k, i < xs.length → G i k → B ≤ k ∧ v.ownBlock ≠ some k ∧ k < w.heap.size) ∧
  (∀ i j k, i < xs.length → j < xs.length → G i k → G j k → i = j) ∧ (∀ i, i < xs.length → El (G i) w (gt vs i) (gt xs i)) ∧ (∀ i k, i < xs.length → G i k → ¬ A k) ∧ ∀ k, v.ownBlock = some k → ¬ A k
theorem SlOA.o {α : Type} [Inhabited α] {El : (Nat → Prop) → World → Value → α → Prop} {E B : Nat} {A : Nat → Prop} {w : World} {v : Value} {xs : List α} (h : SlOA El E B A w v xs) : SlO El E B w v xs := by
 obtain ⟨vs, G, h1, h2, h3, h4, h5, _⟩ := h
 exact ⟨vs, G, h1, h2, h3, h4, h5⟩
theorem SlOA.ext {α : Type} [Inhabited α] {El : (Nat → Prop) → World → Value → α → Prop} (hEl : RdOk El) {E B : Nat} {A : Nat → Prop} {w w' : World} {v : Value} {xs : List α} (h : SlOA El E B A w v xs) (hg : Ext w w') : SlOA El E B A w' v xs := by
 obtain ⟨vs, G, hvl, hO, hG, hd, hE, hr⟩ := h
 refine ⟨vs, G, hvl, hO.kept hg (by cases hv : v.ownBlock <;> simp), fun i k hi hk => ?_, hd, fun i hi => hEl.mono (hE i hi) (fun k hk hlt => ⟨hk, Nat.lt_of_lt_of_le hlt hg.size, hg.block k hlt (by simp)⟩), hr⟩
 obtain ⟨a, b, c⟩ := hG i k hi hk
 exact ⟨a, b, Nat.lt_of_lt_of_le c hg.size⟩
theorem SlOA.more {α : Type} [Inhabited α] {El : (Nat → Prop) → World → Value → α → Prop} {E B : Nat} {A A' : Nat → Prop} {w : World} {v : Value} {xs : List α} (h : SlOA El E B A w v xs) (hA : ∀ k, A' k → A k ∨ w.heap.size ≤ k) : SlOA El E B A' w v xs := by
 obtain ⟨vs, G, h1, h2, h3, h4, h5, h6, h7⟩ := h
 refine ⟨vs, G, h1, h2, h3, h4, h5, fun i k hi hk ha => ?_, fun k hk ha => ?_⟩
 ·rcases hA k ha with h | h
  ·exact h6 i k hi hk h
  ·have := (h3 i k hi hk).2.2; omega
 ·rcases hA k ha with h | h
  ·exact h7 k hk h
  ·have := (h2.lt k hk).2; omega
theorem SlOA.less {α : Type} [Inhabited α] {El : (Nat → Prop) → World → Value → α → Prop} {E B : Nat} {A A' : Nat → Prop} {w : World} {v : Value} {xs : List α} (h : SlOA El E B A w v xs) (hA : ∀ k, A' k → A k) : SlOA El E B A' w v xs :=
 h.more fun k hk => .inl (hA k hk)
theorem SlOA.avoids {α : Type} [Inhabited α] {El : (Nat → Prop) → World → Value → α → Prop} {E B : Nat} {A : Nat → Prop} {w : World} {v : Value} {xs : List α} (h : SlOA El E B A w v xs) (k : Nat) (hk : v.ownBlock = some k) : ¬ A k ∧ B ≤ k ∧ k < w.heap.size := by
 obtain ⟨vs, G, h1, h2, h3, h4, h5, h6, h7⟩ := h
 exact ⟨h7 k hk, h2.lt k hk⟩
end Go.Proofs.YtdcobapnlpeaaaaGreat
namespace Go.Proofs.YtdcobapnlpeaaaaGreat
open Go.RowKit
theorem rMul_vec {P : Pr} (hP : Valid P) (A B : List Int) (hA : Vec P.orders A) (hB : Vec P.orders B) : Vec P.orders (rMul P A B) := rAt_vec hP _ 0 A B (by omega) hA hB
set_option maxHeartbeats 2000000 in
theorem l10Conj_ok (P : Pr) (hP : Valid P) (w : World) (pv a b : Value) (A B : List Int) (Sp Sa Sb : Nat → Prop) (hp : PresV Sp w pv P) (ha : Ints Sa w a A) (hb : Ints Sb w b B) (hA : Vec P.orders A) (hB : Vec P.orders B) :
  Calls Tryz.prog 150 #[pv, a, b] w (Ret w fun w' v => Own w.heap.size w' v (rConj P A B)) := by
 obtain ⟨vo, vp, vc, rfl, h3⟩ := hp
 have hn6 := hP.n6
 have hl1 := (rInv_vec hP B hB).1
 have hl2 := (rMul_vec hP A B hA hB).1
 have HL1 := Lib.hid hl1; have HL2 := Lib.hid hl2; clear hl1 hl2
 have hg0 : Ext w (w.alloc (.cells #[vo, vp, vc] 28)) := World.grownBy_alloc _ _ _
 have hBx := PresP.box h3 28
 have ha0 := ha.ext hg0
 have hb0 := hb.ext hg0
 have hs0 : (w.alloc (.cells #[vo, vp, vc] 28)).heap.size = w.heap.size + 1 := by simp
 have HS := Lib.hid hs0; clear hs0 ha hb
 go_enter Tryz.func150, Tryz.ntmps150
 go_wp2
 generalize hw0 : w.alloc (.cells #[vo, vp, vc] 28) = w0 at *
 clear hw0
 obtain ⟨vo6, vp6, vc6, _, _, hc0, hc1, hc2, h36⟩ := hBx.at
 have e1 : ∀ w', Ext w0 w' → w'.cell? ⟨w.heap.size, 0, none⟩ = some vo6 := fun w' h => h.cell hc0 (by simp)
 have e2 : ∀ w', Ext w0 w' → w'.cell? ⟨w.heap.size, 1, none⟩ = some vp6 := fun w' h => h.cell (by simpa using hc1) (by simp)
 have e3 : ∀ w', Ext w0 w' → w'.cell? ⟨w.heap.size, 2, none⟩ = some vc6 := fun w' h => h.cell (by simpa using hc2) (by simp)
 clear hc0 hc1 hc2
 go_region_held3 (fun w' => Ext w0 w') (first | exact grown_drew _ _ | assumption)
  (first
   | (go_at_call 211; refine Calls.mono (Calls.rel (w0 := w0) (by assumption) (l10Inv_ok P hP _ _ _ _ Any Any ⟨_, _, _, rfl, Pres3.ext h36 (by assumption)⟩ (Ints.sub (Ints.ext hb0 (by assumption)) (fun _ _ _ => trivial)) hB)) ?_; rintro eA wA ⟨vA, rfl, hgA, hsA, hOA⟩)
   | (go_at_call_of 240 (a); refine Calls.mono (Calls.rel2 (w0 := w0) (by assumption) (l08Mul_ok P hP _ _ _ _ _ _ Any Sa Sb ⟨_, _, _, rfl, Pres3.ext h36 (by assumption)⟩ (Ints.ext ha0 (by assumption)) (Ints.ext hb0 (by assumption)) hA hB)) ?_; rintro eF wF ⟨vF, rfl, hgF, hgF2, hsF, hOF⟩; have hOA2 := (hOA.ext0 hgF2).ints (by rw [HL1.out]; omega); have hOF2 := hOF.ints (by rw [HL2.out]; omega))
   | (go_at_call 240; refine Calls.mono (Calls.rel (w0 := w0) (by assumption) (l08Mul_ok P hP _ _ _ _ _ _ Any Any Any ⟨_, _, _, rfl, Pres3.ext h36 (by assumption)⟩ hOA2 hOF2 (rInv_vec hP B hB) (rMul_vec hP A B hA hB))) ?_; rintro eB wB ⟨vB, rfl, hgB, hsB, hOB⟩))
 clear e1 e2 e3
 go_wp2
 go_ret
 exact ⟨_, rfl, grown_trans hg0 hgB, hOB.weak (by have := HS.out; omega)⟩
end Go.Proofs.YtdcobapnlpeaaaaGreat
namespace Go.Proofs.YtdcobapnlpeaaaaGreat
section
variable {P : Pr} {f i : Nat}
end
section
variable {P : Pr} (G : Grp P)
include G
theorem Grp.nf {x : List Int} (hx : Vec P.orders x) : npr (rMul P) (unitV P.orders.length) x 0 (zeros P.orders.length) P.orders.length = x := G.lvl.nf x (T_zero.2 hx)
end
end Go.Proofs.YtdcobapnlpeaaaaGreat
namespace Go.Proofs.YtdcobapnlpeaaaaGreat
section
variable {P : Pr} {f i : Nat}
end
section
variable {P : Pr} (G : Grp P)
include G
theorem Grp.conj_back {x y : List Int} (hx : Vec P.orders x) (hy : Vec P.orders y) : rConj P (rConj P x y) (rInv P y) = x := by
 rw [G.conj_mul hx hy (G.invV hy), G.mul_inv hy, G.conj_one hx]
theorem Grp.gen_ind (Q : List Int → Prop) (h1 : Q (zeros P.orders.length)) (hm : ∀ y j, Vec P.orders y → Q y → j < P.orders.length → Q (rMul P y (unitV P.orders.length j))) {x : List Int} (hx : Vec P.orders x) : Q x := by
 have := acc_inv (fun y => Vec P.orders y ∧ Q y) (fun y j => rMul P y (unitV P.orders.length j)) x 0 (zeros P.orders.length) P.orders.length ⟨G.oneV, h1⟩ (fun y j hy _ b _ => ⟨G.mulV hy.1 (unitV_vec G.v j), hm y j hy.1 hy.2 (by omega)⟩)
 have h2 := G.nf hx
 unfold npr at h2
 rw [h2] at this
 exact this.2
end
end Go.Proofs.YtdcobapnlpeaaaaGreat
namespace Go.Proofs.YtdcobapnlpeaaaaGreat
section
variable {P : Pr} (G : Grp P)
include G
theorem Grp.rep_ex {H : List Int → Prop} {b : Nat → List Int} (I : Ind P H b) {x : List Int} (hx : Vec P.orders x) : ∃ y, Rep P H b x y := by
 obtain ⟨y, h, h1, h2, h3, h4, h5⟩ := G.rep_from I P.orders.length 0 x (by omega) hx
 refine ⟨y, h4, ?_, fun e he hb => h5 e (by omega) he hb⟩
 rw [h3, ← G.ass (G.invV hx) hx h2.1, G.inv_mul hx, G.grp.el _ h2.1]; exact h1
end
/-! ### a sequence as a list -/
def depsOf (n : Nat) (r : Nat → List Int) : List Nat := (List.range n).filter (fun d => decide (r d ≠ []))
theorem seqOf_map (n : Nat) (r : Nat → List Int) : seqOf n r = (depsOf n r).map r := by
 unfold seqOf depsOf
 induction n with
 | zero => rfl
 | succ n ih =>
  rw [List.range_succ, List.filterMap_append, List.filter_append, List.map_append, ih]
  by_cases h : r n = [] <;> simp [h]
theorem depsOf_mem {n : Nat} {r : Nat → List Int} {d : Nat} : d ∈ depsOf n r ↔ d < n ∧ r d ≠ [] := by unfold depsOf; simp
end Go.Proofs.YtdcobapnlpeaaaaGreat
namespace Go.Proofs.YtdcobapnlpeaaaaGreat
section
variable {P : Pr} (G : Grp P)
include G
theorem Grp.ind_same {H H' : List Int → Prop} {b : Nat → List Int} (I : Ind P H b) (I' : Ind P H' b) (hle : ∀ x, H x → H' x) (x : List Int) (hx : H' x) : H x := by
 have hxV := I'.sub.vec x hx
 have hxi := G.invV hxV
 obtain ⟨y, hy⟩ := G.rep_ex I hxV
 obtain ⟨hyV, h1, h2⟩ := hy
 have e1 : rMul P x (rMul P (rInv P x) y) = y := by rw [← G.ass hxV hxi hyV, G.mul_inv hxV, G.grp.el _ hyV]
 have hyH : H' y := by rw [← e1]; exact I'.sub.mul _ _ hx (hle _ h1)
 by_cases h0 : y = zeros P.orders.length
 ·rw [h0, G.grp.er _ hxi] at h1
  have := I.sub.inv _ h1
  rwa [G.inv_inv hxV] at this
 ·obtain ⟨d, hd, hT, hyd⟩ := depth_ex hyV h0
  exact absurd (h2 d hd (I'.piv y hyH d hd hT hyd)) hyd
end
end Go.Proofs.YtdcobapnlpeaaaaGreat
namespace Go.Proofs.YtdcobapnlpeaaaaGreat
theorem elTo_len (o : List Int) (N : Nat) (m : Int) (k : Nat) : (elTo o N m k).1.length = N := by
 induction k with
 | zero => simp [elTo]
 | succ k ih => simp only [elTo]; rw [List.length_set, ih]
theorem elTo_keep (o : List Int) (N : Nat) (m : Int) (j k : Nat) (hk : j < k) (hkN : k ≤ N) : gt (elTo o N m k).1 (N - 1 - j) = (elTo o N m j).2 % gt o (N - 1 - j) := by
 induction k with
 | zero => omega
 | succ k ih =>
  simp only [elTo]
  by_cases e : j = k
  ·subst e; rw [gt_set_eq _ _ _ (by rw [elTo_len]; omega)]
  ·rw [gt_set_ne _ _ _ _ (by omega)]; exact ih (by omega) (by omega)
theorem elTo_lt {P : Pr} (hP : Valid P) (m : Int) (h1 : m < ordP P) (k : Nat) (hk : k ≤ P.orders.length) : (elTo P.orders P.orders.length m k).2 < prodTo P.orders (P.orders.length - k) := by
 induction k with
 | zero => exact h1
 | succ k ih =>
  have h2 := ih (by omega)
  have ho := hP.ord7 (P.orders.length - 1 - k) (by omega)
  simp only [elTo]
  have e : P.orders.length - k = (P.orders.length - (k + 1)) + 1 := by omega
  rw [e] at h2
  simp only [prodTo] at h2
  rw [show P.orders.length - (k + 1) = P.orders.length - 1 - k by omega] at h2 ⊢
  exact Int.ediv_lt_of_lt_mul (by omega) h2
theorem num_elAt {P : Pr} (hP : Valid P) (m : Int) (h0 : 0 ≤ m) (h1 : m < ordP P) : num P (elAt P m) = m := by
 have hz : (elTo P.orders P.orders.length m P.orders.length).2 = 0 := by
  have h2 := elTo_lt hP m h1 P.orders.length (Nat.le_refl _)
  have h3 := (elTo_inv hP m h0 P.orders.length (Nat.le_refl _)).2.1
  rw [Nat.sub_self] at h2
  simp only [prodTo] at h2
  omega
 have key : ∀ k, k ≤ P.orders.length → numTo P.orders (elAt P m) k = (elTo P.orders P.orders.length m (P.orders.length - k)).2 := by
  intro k
  induction k with
  | zero => intro _; simp only [numTo, Nat.sub_zero]; exact hz.symm
  | succ k ih =>
   intro hk
   simp only [numTo]
   rw [ih (by omega)]
   have e : P.orders.length - k = (P.orders.length - (k + 1)) + 1 := by omega
   have hg : gt (elAt P m) k = (elTo P.orders P.orders.length m (P.orders.length - (k + 1))).2 % gt P.orders k := by
    have := elTo_keep P.orders P.orders.length m (P.orders.length - (k + 1)) P.orders.length (by omega) (Nat.le_refl _)
    rw [show P.orders.length - 1 - (P.orders.length - (k + 1)) = k by omega] at this
    exact this
   rw [hg, e]
   simp only [elTo]
   rw [show P.orders.length - 1 - (P.orders.length - (k + 1)) = k by omega]
   have := Int.emod_add_mul_ediv (elTo P.orders P.orders.length m (P.orders.length - (k + 1))).2 (gt P.orders k)
   rw [Int.mul_comm] at this
   omega
 have h4 := key P.orders.length (Nat.le_refl _)
 rw [Nat.sub_self] at h4
 exact h4
theorem num_inj {P : Pr} (hP : Valid P) {x y : List Int} (hx : Vec P.orders x) (hy : Vec P.orders y) (h : num P x = num P y) : x = y := by
 have key : ∀ k, k ≤ P.orders.length → numTo P.orders x (P.orders.length - k) = numTo P.orders y (P.orders.length - k) ∧ ∀ j, P.orders.length - k ≤ j → j < P.orders.length → gt x j = gt y j := by
  intro k
  induction k with
  | zero => intro _; exact ⟨h, fun j a b => by omega⟩
  | succ k ih =>
   intro hk
   obtain ⟨h1, h2⟩ := ih (by omega)
   have e : P.orders.length - k = (P.orders.length - (k + 1)) + 1 := by omega
   rw [e] at h1
   simp only [numTo] at h1
   have ho := hP.ord7 (P.orders.length - (k + 1)) (by omega)
   have hxk := hx.2 (P.orders.length - (k + 1)) (by omega)
   have hyk := hy.2 (P.orders.length - (k + 1)) (by omega)
   have e1 : gt x (P.orders.length - (k + 1)) = gt y (P.orders.length - (k + 1)) := by
    have h3 : (numTo P.orders x (P.orders.length - (k + 1)) * gt P.orders (P.orders.length - (k + 1)) + gt x (P.orders.length - (k + 1))) % gt P.orders (P.orders.length - (k + 1)) = (numTo P.orders y (P.orders.length - (k + 1)) * gt P.orders (P.orders.length - (k + 1)) + gt y (P.orders.length - (k + 1))) % gt P.orders (P.orders.length - (k + 1)) := by rw [h1]
    rw [Int.add_comm, Int.add_mul_emod_self_right, Int.add_comm _ (gt y _), Int.add_mul_emod_self_right, Int.emod_eq_of_lt hxk.1 hxk.2, Int.emod_eq_of_lt hyk.1 hyk.2] at h3
    exact h3
   refine ⟨?_, fun j a b => ?_⟩
   ·have h4 : numTo P.orders x (P.orders.length - (k + 1)) * gt P.orders (P.orders.length - (k + 1)) = numTo P.orders y (P.orders.length - (k + 1)) * gt P.orders (P.orders.length - (k + 1)) := by omega
    exact Int.eq_of_mul_eq_mul_right (by omega) h4
   ·by_cases ej : j = P.orders.length - (k + 1)
    ·rw [ej]; exact e1
    ·exact h2 j (by omega) b
 have h5 := (key P.orders.length (Nat.le_refl _)).2
 exact ext_gt (by rw [hx.1, hy.1]) (fun k hk => h5 k (by omega) (by rw [← hx.1]; exact hk))
theorem elAt_num {P : Pr} (hP : Valid P) {x : List Int} (hx : Vec P.orders x) : elAt P (num P x) = x := by
 have hb := num_bd hP hx
 exact num_inj hP (elAt_vec hP _ hb.1) hx (num_elAt hP _ hb.1 hb.2)
end Go.Proofs.YtdcobapnlpeaaaaGreat
namespace Go.Proofs.YtdcobapnlpeaaaaGreat
open Go.RowKit
def cmpI (a b : Int) : Int := if a < b then -1 else if b < a then 1 else 0
theorem isNaN_ok (a : Int) (w : World) : Calls Tryz.prog 322 #[.int .i64 a] w fun e w' => e = .returned (.bool false) ∧ w' = w := by
 go_enter Tryz.func322, Tryz.ntmps322
 go_wp2
 exact bodyPost_ret (v := .bool false) (by simp [results, Tryz.results322, go_sem]) rfl ⟨rfl, rfl⟩
set_option maxHeartbeats 1000000 in
theorem cmpI_ok (a b : Int) (w : World) : Calls Tryz.prog 294 #[.int .i64 a, .int .i64 b] w fun e w' => e = .returned (.int .i64 (cmpI a b)) ∧ w' = w := by
 go_enter Tryz.func294, Tryz.ntmps294
 go_wp2_with fail
 refine Calls.mono (isNaN_ok a w) ?_
 rintro e1 w1 ⟨rfl, rfl⟩
 go_wp2_with fail
 refine Calls.mono (isNaN_ok b _) ?_
 rintro e1 w1 ⟨rfl, rfl⟩
 by_cases h1 : a < b
 ·go_wp2
  exact bodyPost_ret (v := .int .i64 (-1)) (by simp [results, Tryz.results294, go_sem]) rfl ⟨by simp [cmpI, h1], rfl⟩
 ·by_cases h2 : b < a
  ·have h1' : b ≤ a := by omega
   go_wp2
   exact bodyPost_ret (v := .int .i64 1) (by simp [results, Tryz.results294, go_sem]) rfl ⟨by simp [cmpI, h1, h2], rfl⟩
  ·have h1' : b = a := by omega
   subst h1'
   clear h1 h2
   go_wp2
   exact bodyPost_ret (v := .int .i64 0) (by simp [results, Tryz.results294, go_sem]) rfl ⟨by simp [cmpI], rfl⟩
def cmpL : List Int → List Int → Int
 | [], [] => 0
 | [], _ :: _ => -1
 | _ :: _, [] => 1
 | x :: xs, y :: ys => if cmpI x y = 0 then cmpL xs ys else cmpI x y
theorem drop_gt {l : List Int} {k : Nat} (h : k < l.length) : l.drop k = gt l k :: l.drop (k + 1) := by
 rw [List.drop_eq_getElem_cons h]; simp [gt, h]
set_option maxHeartbeats 4000000 in
theorem sCompare_ok (a b : Value) (X Y : List Int) (w : World) (Sa Sb : Nat → Prop) (ha : Ints Sa w a X) (hb : Ints Sb w b Y) :
  Calls Tryz.prog 245 #[a, b] w fun e w' => e = .returned (.int .i64 (cmpL X Y)) ∧ w' = w := by
 obtain ⟨aa, capa, rfl, hla, _⟩ := ha.shape
 obtain ⟨ab, capb, rfl, hlb, _⟩ := hb.shape
 go_enter Tryz.func245, Tryz.ntmps245
 go_wp2
 go_loopw [11] (fun v wr => ∃ k : Nat, v = .int .i64 k ∧ k ≤ X.length ∧ k ≤ Y.length ∧ wr = w ∧ cmpL X Y = cmpL (X.drop k) (Y.drop k)) (fun v _ => X.length - (intOf v).toNat)
 case atStart => exact ⟨0, rfl, by omega, by omega, rfl, by simp⟩
 case round =>
  obtain ⟨k, rfl, hk, hkY, rfl, hcmp⟩ := hrel
  by_cases hlt : k < X.length
  ·obtain ⟨ba, oa, rfl, _, _, hca⟩ := Ints.at ha k hlt
   by_cases hltY : k < Y.length
   ·obtain ⟨bb, ob, rfl, _, _, hcb⟩ := Ints.at hb k hltY
    rw [drop_gt hlt, drop_gt hltY] at hcmp
    simp only [cmpL] at hcmp
    have HC := Lib.hid hcmp; clear hcmp
    go_wp2_with fail
    refine Calls.mono (cmpI_ok (gt X k) (gt Y k) _) ?_
    rintro e1 w1 ⟨rfl, rfl⟩
    by_cases hz : cmpI (gt X k) (gt Y k) = 0
    ·have hcn := HC.out
     rw [if_pos hz] at hcn
     have HC2 := Lib.hid hcn; clear hcn HC
     go_wp2
     go_roundw
     case rel => exact ⟨k + 1, by go_num, by omega, by omega, trivial, HC2.out⟩
     case measure => simp [intOf]; omega
    ·have hcn := HC.out
     rw [if_neg hz] at hcn
     have HC2 := Lib.hid hcn; clear hcn HC
     go_wp2
     exact bodyPost_ret (v := .int .i64 (cmpI (gt X k) (gt Y k))) (by simp [results, Tryz.results245, go_sem]) rfl ⟨by rw [HC2.out], rfl⟩
   ·have hke : k = Y.length := by omega
    subst hke
    rw [drop_gt hlt, List.drop_length] at hcmp
    simp only [cmpL] at hcmp
    have HC := Lib.hid hcmp; clear hcmp
    go_wp2
    exact bodyPost_ret (v := .int .i64 1) (by simp [results, Tryz.results245, go_sem]) rfl ⟨by rw [HC.out], rfl⟩
  ·have hke : k = X.length := by omega
   subst hke
   rw [List.drop_length] at hcmp
   by_cases hltY : X.length < Y.length
   ·rw [drop_gt hltY] at hcmp
    simp only [cmpL] at hcmp
    have HC := Lib.hid hcmp; clear hcmp
    go_wp2
    exact bodyPost_ret (v := .int .i64 (-1)) (by simp [results, Tryz.results245, go_sem]) rfl ⟨by rw [HC.out], rfl⟩
   ·have hle : Y.length ≤ X.length := by omega
    rw [List.drop_of_length_le hle] at hcmp
    simp only [cmpL] at hcmp
    have HC := Lib.hid hcmp; clear hcmp
    go_wp2
    exact bodyPost_ret (v := .int .i64 0) (by simp [results, Tryz.results245, go_sem]) rfl ⟨by rw [HC.out], rfl⟩
end Go.Proofs.YtdcobapnlpeaaaaGreat
namespace Go.Proofs.YtdcobapnlpeaaaaGreat
open Go.RowKit
theorem cmpI_cases (a b : Int) : (cmpI a b = -1 ∧ a < b) ∨ (cmpI a b = 0 ∧ a = b) ∨ (cmpI a b = 1 ∧ b < a) := by
 unfold cmpI
 by_cases h : a < b
 ·simp [h]
 ·by_cases h2 : b < a
  ·simp [h, h2]
  ·simp [h, h2]; omega
theorem cmpL_zero : ∀ (x y : List Int), cmpL x y = 0 ↔ x = y
 | [], [] => by simp [cmpL]
 | [], _ :: _ => by simp [cmpL]
 | _ :: _, [] => by simp [cmpL]
 | x :: xs, y :: ys => by
  simp only [cmpL]
  rcases cmpI_cases x y with ⟨h, h2⟩ | ⟨h, h2⟩ | ⟨h, h2⟩
  ·simp [h]; omega
  ·rw [if_pos h, cmpL_zero xs ys]; simp [h2]
  ·simp [h]; omega
theorem cmpL_swap : ∀ (x y : List Int), cmpL y x = - cmpL x y
 | [], [] => by simp [cmpL]
 | [], _ :: _ => by simp [cmpL]
 | _ :: _, [] => by simp [cmpL]
 | x :: xs, y :: ys => by
  simp only [cmpL]
  have ih := cmpL_swap xs ys
  rcases cmpI_cases x y with ⟨h, h2⟩ | ⟨h, h2⟩ | ⟨h, h2⟩ <;> rcases cmpI_cases y x with ⟨k, k2⟩ | ⟨k, k2⟩ | ⟨k, k2⟩ <;> simp [h, k, ih] <;> omega
theorem cmpL_le_trans : ∀ (x y z : List Int), cmpL x y ≤ 0 → cmpL y z ≤ 0 → cmpL x z ≤ 0
 | [], [], [] => by simp [cmpL]
 | [], [], _ :: _ => by simp [cmpL]
 | [], _ :: _, [] => by simp [cmpL]
 | [], _ :: _, _ :: _ => by simp [cmpL]
 | _ :: _, [], [] => by simp [cmpL]
 | _ :: _, [], _ :: _ => by simp [cmpL]
 | _ :: _, _ :: _, [] => by simp [cmpL]
 | x :: xs, y :: ys, z :: zs => by
  simp only [cmpL]
  have ih := cmpL_le_trans xs ys zs
  rcases cmpI_cases x y with ⟨h, h2⟩ | ⟨h, h2⟩ | ⟨h, h2⟩ <;> rcases cmpI_cases y z with ⟨k, k2⟩ | ⟨k, k2⟩ | ⟨k, k2⟩ <;> rcases cmpI_cases x z with ⟨l, l2⟩ | ⟨l, l2⟩ | ⟨l, l2⟩ <;> simp [h, k, l] <;> first | omega | (intros; omega) | exact ih | skip
theorem cmpL_total (x y : List Int) : cmpL x y ≤ 0 ∨ cmpL y x ≤ 0 := by have := cmpL_swap x y; omega
theorem cmpL_antisymm {x y : List Int} (h : cmpL x y ≤ 0) (k : cmpL y x ≤ 0) : x = y := by
 have := cmpL_swap x y
 exact (cmpL_zero x y).1 (by omega)
def SortedL (L : List (List Int)) : Prop := L.Pairwise (fun x y => cmpL x y ≤ 0)
def sortL (L : List (List Int)) : List (List Int) := L.mergeSort (fun x y => decide (cmpL x y ≤ 0))
theorem sortL_perm (L : List (List Int)) : (sortL L).Perm L := List.mergeSort_perm _ _
theorem sortL_sorted (L : List (List Int)) : SortedL (sortL L) := by
 have h := List.pairwise_mergeSort (le := fun x y => decide (cmpL x y ≤ 0)) (fun a b c h k => by simp at *; exact cmpL_le_trans a b c h k) (fun a b => by simp; exact cmpL_total a b) L
 exact h.imp (fun h => by simpa using h)
theorem sorted_unique : ∀ (L M : List (List Int)), SortedL L → SortedL M → L.Perm M → L = M := by
 intro L
 induction L with
 | nil => intro M _ _ h; exact (List.nil_perm.1 h).symm ▸ rfl
 | cons x L ih =>
  intro M hL hM hp
  cases M with
  | nil => exact absurd hp.symm (by simp)
  | cons y M =>
   have hxM : x ∈ y :: M := hp.subset (by simp)
   have hyL : y ∈ x :: L := hp.symm.subset (by simp)
   have hxy : x = y := by
    rcases List.mem_cons.1 hxM with h | h
    ·exact h
    ·rcases List.mem_cons.1 hyL with k | k
     ·exact k.symm
     ·exact cmpL_antisymm ((List.pairwise_cons.1 hL).1 y k) ((List.pairwise_cons.1 hM).1 x h)
   subst hxy
   rw [ih M (List.pairwise_cons.1 hL).2 (List.pairwise_cons.1 hM).2 (List.perm_cons x |>.1 hp)]
theorem sortL_unique {L M : List (List Int)} (h : M.Perm L) (hs : SortedL M) : M = sortL L :=
 sorted_unique _ _ hs (sortL_sorted L) (h.trans (sortL_perm L).symm)
end Go.Proofs.YtdcobapnlpeaaaaGreat
namespace Go.Proofs.YtdcobapnlpeaaaaGreat
theorem cmpL_append : ∀ (a b : List Int) (u v : Int), a.length = b.length → cmpL (a ++ [u]) (b ++ [v]) = if cmpL a b = 0 then cmpL [u] [v] else cmpL a b
 | [], [], u, v, _ => by simp [cmpL]
 | [], _ :: _, _, _, h => by simp at h
 | _ :: _, [], _, _, h => by simp at h
 | x :: a, y :: b, u, v, h => by
  have ih := cmpL_append a b u v (by simpa using h)
  generalize cmpL [u] [v] = c at ih ⊢
  simp only [List.cons_append, cmpL]
  rcases cmpI_cases x y with ⟨h1, _⟩ | ⟨h1, _⟩ | ⟨h1, _⟩ <;> simp [h1, ih]
theorem cmpL_one (u v : Int) : (cmpL [u] [v] < 0 ↔ u < v) ∧ (cmpL [u] [v] = 0 ↔ u = v) := by
 simp only [cmpL]
 rcases cmpI_cases u v with ⟨h1, h2⟩ | ⟨h1, h2⟩ | ⟨h1, h2⟩ <;> simp [h1] <;> omega
theorem cmpL_num {P : Pr} (hP : Valid P) {x y : List Int} (hx : Vec P.orders x) (hy : Vec P.orders y) : cmpL x y < 0 ↔ num P x < num P y := by
 have key : ∀ k, k ≤ P.orders.length → (cmpL (x.take k) (y.take k) < 0 ↔ numTo P.orders x k < numTo P.orders y k) ∧ (cmpL (x.take k) (y.take k) = 0 ↔ numTo P.orders x k = numTo P.orders y k) := by
  intro k
  induction k with
  | zero => intro _; simp [numTo, cmpL]
  | succ k ih =>
   intro hk
   obtain ⟨h1, h2⟩ := ih (by omega)
   have ho := hP.ord7 k (by omega)
   have hxk := hx.2 k (by omega)
   have hyk := hy.2 k (by omega)
   rw [take_succ_gt x k (by rw [hx.1]; omega), take_succ_gt y k (by rw [hy.1]; omega), cmpL_append _ _ _ _ (by simp [hx.1, hy.1])]
   simp only [numTo]
   obtain ⟨c1, c2⟩ := cmpL_one (gt x k) (gt y k)
   rcases Int.lt_trichotomy (numTo P.orders x k) (numTo P.orders y k) with h | h | h
   ·have hc : cmpL (x.take k) (y.take k) < 0 := h1.2 h
    rw [if_neg (by omega)]
    have h3 : (numTo P.orders x k + 1) * gt P.orders k ≤ numTo P.orders y k * gt P.orders k := Int.mul_le_mul_of_nonneg_right (by omega) (by omega)
    rw [Int.add_mul, Int.one_mul] at h3
    exact ⟨⟨fun _ => by omega, fun _ => hc⟩, ⟨fun h => by omega, fun h => by omega⟩⟩
   ·have hc : cmpL (x.take k) (y.take k) = 0 := h2.2 h
    rw [if_pos hc, h]
    exact ⟨by rw [c1]; omega, by rw [c2]; omega⟩
   ·have hc : ¬ cmpL (x.take k) (y.take k) < 0 := fun e => by have := h1.1 e; omega
    have hc2 : ¬ cmpL (x.take k) (y.take k) = 0 := fun e => by have := h2.1 e; omega
    rw [if_neg hc2]
    have h3 : (numTo P.orders y k + 1) * gt P.orders k ≤ numTo P.orders x k * gt P.orders k := Int.mul_le_mul_of_nonneg_right (by omega) (by omega)
    rw [Int.add_mul, Int.one_mul] at h3
    exact ⟨⟨fun h => absurd h hc, fun h => by omega⟩, ⟨fun h => absurd h hc2, fun h => by omega⟩⟩
 have h := (key P.orders.length (Nat.le_refl _)).1
 rw [List.take_of_length_le (by rw [hx.1]; omega), List.take_of_length_le (by rw [hy.1]; omega)] at h
 exact h
theorem asc_unique {P : Pr} (hP : Valid P) {L M : List (List Int)} (hL : ∀ x ∈ L, Vec P.orders x) (hsL : L.Pairwise (fun x y => num P x < num P y)) (hM : M.Pairwise (fun x y => num P x < num P y)) (h : ∀ x, x ∈ L ↔ x ∈ M) : L = M := by
 have nd : ∀ {K : List (List Int)}, K.Pairwise (fun x y => num P x < num P y) → K.Nodup := fun hK => hK.imp (fun h e => by rw [e] at h; omega)
 have hp : L.Perm M := (List.perm_ext_iff_of_nodup (nd hsL) (nd hM)).2 h
 have hMv : ∀ x ∈ M, Vec P.orders x := fun x hx => hL x ((h x).2 hx)
 have s1 : SortedL L := by
  refine List.Pairwise.imp_of_mem ?_ hsL
  intro a b ha hb hab
  have := (cmpL_num hP (hL a ha) (hL b hb)).2 hab
  omega
 have s2 : SortedL M := by
  refine List.Pairwise.imp_of_mem ?_ hM
  intro a b ha hb hab
  have := (cmpL_num hP (hMv a ha) (hMv b hb)).2 hab
  omega
 exact sorted_unique L M s1 s2 hp
open Classical in
noncomputable def elemsIn (P : Pr) (H : List Int → Prop) : List (List Int) := (List.range (ordP P).toNat).filterMap (fun t : Nat => if H (elAt P (t : Int)) then some (elAt P (t : Int)) else none)
theorem elemsIn_mem {P : Pr} (hP : Valid P) {H : List Int → Prop} (hH : ∀ x, H x → Vec P.orders x) (x : List Int) : x ∈ elemsIn P H ↔ H x := by
 unfold elemsIn
 rw [List.mem_filterMap]
 constructor
 ·rintro ⟨t, _, h⟩
  split at h
  ·cases h; assumption
  ·cases h
 ·intro h
  have hb := num_bd hP (hH x h)
  refine ⟨(num P x).toNat, List.mem_range.2 (by omega), ?_⟩
  have e : elAt P (((num P x).toNat : Nat) : Int) = x := by
   rw [show (((num P x).toNat : Nat) : Int) = num P x by omega]; exact elAt_num hP (hH x h)
  rw [e, if_pos h]
theorem elemsIn_asc {P : Pr} (hP : Valid P) (H : List Int → Prop) : (elemsIn P H).Pairwise (fun x y => num P x < num P y) := by
 unfold elemsIn
 rw [List.pairwise_filterMap]
 refine List.Pairwise.imp_of_mem ?_ (List.pairwise_lt_range (n := (ordP P).toNat))
 intro a b ha hb hab x hx y hy
 have ha' := List.mem_range.1 ha
 have hb' := List.mem_range.1 hb
 split at hx
 ·split at hy
  ·cases hx; cases hy
   rw [num_elAt hP _ (by omega) (by omega), num_elAt hP _ (by omega) (by omega)]
   omega
  ·cases hy
 ·cases hx
theorem sort_elemsIn {P : Pr} (hP : Valid P) {H : List Int → Prop} (hH : ∀ x, H x → Vec P.orders x) {L : List (List Int)} (hn : L.Nodup) (hm : ∀ x, x ∈ L ↔ H x) : sortL L = elemsIn P H := by
 have hp := sortL_perm L
 have hmem : ∀ x, x ∈ sortL L ↔ H x := fun x => hp.mem_iff.trans (hm x)
 have hnd : (sortL L).Nodup := hp.nodup_iff.2 hn
 refine asc_unique hP (fun x hx => hH x ((hmem x).1 hx)) ?_ (elemsIn_asc hP H) (fun x => (hmem x).trans (elemsIn_mem hP hH x).symm)
 have hs := sortL_sorted L
 have h2 : (sortL L).Pairwise (fun x y => cmpL x y ≤ 0 ∧ x ≠ y) := by
  have := List.pairwise_and_iff.2 ⟨hs, hnd⟩
  exact this
 refine List.Pairwise.imp_of_mem ?_ h2
 intro a b ha hb hab
 have hva := hH a ((hmem a).1 ha)
 have hvb := hH b ((hmem b).1 hb)
 refine (cmpL_num hP hva hvb).1 ?_
 have h0 : cmpL a b ≠ 0 := fun e => hab.2 ((cmpL_zero a b).1 e)
 omega
end Go.Proofs.YtdcobapnlpeaaaaGreat
namespace Go.Proofs.YtdcobapnlpeaaaaGreat
section
variable {P : Pr} (G : Grp P)
include G
theorem Grp.elsP_nodup {U : List (List Int)} (hU : SeqOk P U) : (elsP P U U.length).Nodup :=
 (G.elsP_diff hU U.length P.orders.length (Nat.le_refl _) (fun j hj => (hU.1 _ (gtMem hj)).2.1) (Nat.le_refl _)).imp (fun ⟨j, _, h⟩ e => h (by rw [e]))
theorem Grp.els_sorted {H : List Int → Prop} (S : Sub P H) : sortL (elsP P (cseq P H) (cseq P H).length) = elemsIn P H := by
 obtain ⟨h1, h2, h3⟩ := G.seq_facts S
 exact sort_elemsIn G.v S.vec (G.elsP_nodup h1) (G.elsP_mem S h1 h2 h3)
end
end Go.Proofs.YtdcobapnlpeaaaaGreat
namespace Go.Proofs.YtdcobapnlpeaaaaGreat
theorem genP_self {P : Pr} {H : List Int → Prop} (S : Sub P H) : genP P H = H :=
 funext fun _ => propext ⟨fun h => h H S (fun _ hy => hy), fun h => genP_mem h⟩
theorem genP_or (P : Pr) (Q L : List Int → Prop) : genP P (fun x => genP P Q x ∨ L x) = genP P (fun x => Q x ∨ L x) :=
 funext fun _ => propext ⟨fun h K S hQ => h K S (fun y hy => hy.elim (fun h => h K S (fun z hz => hQ z (.inl hz))) (fun h => hQ y (.inr h))),
  fun h K S hQ => h K S (fun y hy => hy.elim (fun h => hQ y (.inl (genP_mem h))) (fun h => hQ y (.inr h)))⟩
theorem Sub.and {P : Pr} {H K : List Int → Prop} (S : Sub P H) (R : Sub P K) : Sub P (fun x => H x ∧ K x) :=
 ⟨fun _ h => S.vec _ h.1, ⟨S.one, R.one⟩, fun _ _ h k => ⟨S.mul _ _ h.1 k.1, R.mul _ _ h.2 k.2⟩, fun _ h => ⟨S.inv _ h.1, R.inv _ h.2⟩⟩
theorem Grp.genP_none {P : Pr} (G : Grp P) : genP P (fun _ => False) = fun x => x = zeros P.orders.length :=
 funext fun _ => propext ⟨fun h => h _ G.sub_one (fun _ h => h.elim), fun h K S _ => by rw [h]; exact S.one⟩
end Go.Proofs.YtdcobapnlpeaaaaGreat
namespace Go.Proofs.YtdcobapnlpeaaaaGreat
theorem stepE_succ (P : Pr) (u : List Int) (o : Nat) (x : List Int) : stepE P u (o + 1) x = stepE P u o x ++ [rMul P x (pw P u o)] := by
 unfold stepE
 rw [List.range_succ, List.map_append]; rfl
theorem flatMap_take_succ {α β : Type} [Inhabited α] (l : List α) (f : α → List β) (i : Nat) (hi : i < l.length) : (l.take (i + 1)).flatMap f = (l.take i).flatMap f ++ f (gt l i) := by
 rw [take_succ_gt l i hi, List.flatMap_append]; simp
theorem stepE_len (P : Pr) (u : List Int) (o : Nat) (x : List Int) : (stepE P u o x).length = o := by unfold stepE; simp
theorem flatMap_len (P : Pr) (u : List Int) (o : Nat) (l : List (List Int)) : (l.flatMap (stepE P u o)).length = l.length * o := by
 induction l with
 | nil => simp
 | cons x l ih => rw [List.flatMap_cons, List.length_append, ih, stepE_len, List.length_cons, Nat.add_mul]; omega
theorem elsP_len {P : Pr} (hP : Valid P) {U : List (List Int)} (hU : SeqOk P U) (k : Nat) (hk : k ≤ U.length) : ((elsP P U k).length : Int) = prodU P U k := by
 induction k with
 | zero => simp [elsP, prodU]
 | succ k ih =>
  have ih := ih (by omega)
  have ho := hP.ord7 (dep (gt U k)) (hU.1 _ (gtMem (by omega))).2.1
  simp only [elsP, prodU]
  rw [flatMap_len, Int.natCast_mul, ih, show (((gt P.orders (dep (gt U k))).toNat : Nat) : Int) = gt P.orders (dep (gt U k)) by omega]
theorem Grp.step_mul {P : Pr} (G : Grp P) {x u : List Int} (hx : Vec P.orders x) (hu : Vec P.orders u) (t : Nat) : rMul P (rMul P x (pw P u t)) u = rMul P x (pw P u (t + 1)) := by
 rw [pw_succ, G.ass hx (G.pw_vec hu t) hu]
end Go.Proofs.YtdcobapnlpeaaaaGreat
namespace Go.Proofs.YtdcobapnlpeaaaaGreat
open Go.RowKit
noncomputable def elemsTo (P : Pr) (H : List Int → Prop) (k : Nat) : List (List Int) := by
 classical exact (List.range k).filterMap (fun t : Nat => if H (elAt P (t : Int)) then some (elAt P (t : Int)) else none)
theorem elemsTo_all (P : Pr) (H : List Int → Prop) : elemsTo P H (ordP P).toNat = elemsIn P H := by
 unfold elemsTo elemsIn
 rfl
theorem elemsTo_len (P : Pr) (H : List Int → Prop) (k : Nat) : (elemsTo P H k).length ≤ k := by
 unfold elemsTo
 have := List.length_filterMap_le (fun t : Nat => by classical exact (if H (elAt P (t : Int)) then some (elAt P (t : Int)) else none)) (List.range k)
 rw [List.length_range] at this
 exact this
end Go.Proofs.YtdcobapnlpeaaaaGreat
namespace Go.Proofs.YtdcobapnlpeaaaaGreat
open Go.RowKit
attribute [local go_sem ↓] Go.wp_at_zero Go.wp_at_succ
set_option maxRecDepth 100000 in
set_option maxHeartbeats 400000 in
theorem DrawNormalClosure_ok (w : World) (cv : Value) (bs : List Int) (S : Nat → Prop) (hb : Bytes S w cv bs) :
  Calls Tryz.prog 68 #[cv] w (Ret w (PairA 7 w.heap.size)) := by
 obtain ⟨a, cap, rfl, _, _⟩ := Sl.shape hb
 have hbB := Box3.made w 28 (.slice none 0 0) (.slice none 0 0) (.slice none 0 0)
 have hg0 : Ext w (w.alloc (.cells #[.slice none 0 0, .slice none 0 0, .slice none 0 0] 28)) := World.grownBy_alloc _ _ _
 have hs0 : (w.alloc (.cells #[.slice none 0 0, .slice none 0 0, .slice none 0 0] 28)).heap.size = w.heap.size + 1 := by simp
 have hb0 := Bytes.ext hb hg0
 go_enter Tryz.func68, Tryz.ntmps68
 go_wp2_with fail
 generalize w.alloc (.cells #[.slice none 0 0, .slice none 0 0, .slice none 0 0] 28) = w0 at *
 have hs00 : w.heap.size + 1 ≤ w0.heap.size := by omega
 clear hs0
 refine Calls.mono (l01From_ok w0 _ bs S hb0) ?_
 rintro e1 w1 ⟨v1, rfl, hg1, rfl, hs1⟩
 have hz1 : w0.heap.size + 1 ≤ w1.heap.size := by have := hs1.lt; omega
 have hb1 := hbB.ext hg1
 clear hbB hb0
 go_wp2_with fail
 refine Calls.mono (l12Pair_ok (w0.heap.size + 1) w1 w0.heap.size 108 (by omega) hs1) ?_
 rintro e2 w2 ⟨v2, rfl, hg2, ⟨vo, vp, vc, rv, Q, rfl, hQl, hQ, hR1⟩, hs2⟩
 obtain ⟨a1, n1, c1, hy1⟩ : ∃ a n c, vo = .slice a n c := by obtain ⟨a, c, e, _⟩ := hQ.o.shape; exact ⟨_, _, _, e⟩
 obtain ⟨a2, n2, c2, hy2⟩ : ∃ a n c, vp = .slice a n c := by obtain ⟨a, c, e, _⟩ := Sl.shape hQ.p; exact ⟨_, _, _, e⟩
 obtain ⟨a3, n3, c3, hy3⟩ : ∃ a n c, vc = .slice a n c := by obtain ⟨a, c, e, _⟩ := Sl.shape hQ.c; exact ⟨_, _, _, e⟩
 obtain ⟨ra, rn, rc, rfl⟩ := hR1.shape
 subst hy1 hy2 hy3
 have hgw2 : Ext w w2 := grown_own (grown_trans hg0 hg1) hg2 (fun j hj hlt => by have := Option.some.inj hj; omega)
 have hb2 := hb1.moved hg2 (by omega)
 obtain ⟨b0, b1, b2, b3, b4⟩ := id hb2
 have hT := grown_set3 w2 w.heap.size (.slice a1 n1 c1) (.slice a2 n2 c2) (.slice a3 n3 c3)
 have hA := World.grownBy_alloc (((w2.setCell ⟨w.heap.size, 0, none⟩ (.slice a1 n1 c1)).setCell ⟨w.heap.size, 1, none⟩ (.slice a2 n2 c2)).setCell ⟨w.heap.size, 2, none⟩ (.slice a3 n3 c3)) (.cells #[.slice a1 n1 c1, .slice a2 n2 c2, .slice a3 n3 c3] 28) none
 have hZ := (hb2.all (.slice a1 n1 c1) (.slice a2 n2 c2) (.slice a3 n3 c3)).ext hA
 obtain ⟨-, z0, z1, z2, -⟩ := id hZ
 have hin : ∀ k, some w.heap.size = some k → k < w1.heap.size := fun k hk => by have := Option.some.inj hk; omega
 have hend : Ret w (PairA 7 w.heap.size) (.returned (.tuple #[.agg #[.slice a1 n1 c1, .slice a2 n2 c2, .slice a3 n3 c3], .slice ra rn rc])) ((((w2.setCell ⟨w.heap.size, 0, none⟩ (.slice a1 n1 c1)).setCell ⟨w.heap.size, 1, none⟩ (.slice a2 n2 c2)).setCell ⟨w.heap.size, 2, none⟩ (.slice a3 n3 c3)).alloc (.cells #[.slice a1 n1 c1, .slice a2 n2 c2, .slice a3 n3 c3] 28)) :=
  ⟨_, rfl, grown_trans (grown_own hgw2 hT (fun j hj hlt => by have := Option.some.inj hj; omega)) hA, _, _, _, _, Q, rfl, hQl, ((hQ.keptB hT hin).ext hA).low (by omega), ((hR1.kept hT hin).kept hA (fun k hk => by cases hk)).low (by omega)⟩
 have HE := Lib.hid hend; clear hend hT hA hZ hb2 hb1 hQ hR1 hgw2 hg1 hg2 hg0 hs1 hs2 hin
 go_wp2_with fail
 refine bodyPost_ret (v := .tuple #[.agg #[.slice a1 n1 c1, .slice a2 n2 c2, .slice a3 n3 c3], .slice ra rn rc]) (by simp [results, Tryz.results68, go_sem, z0, z1, z2]) rfl ?_
 exact HE.out
end Go.Proofs.YtdcobapnlpeaaaaGreat
namespace Go.Proofs.YtdcobapnlpeaaaaGreat
open Go.RowKit
def conjL (P : Pr) (L : List (List Int)) (X : List Int) : List (List Int) := L.map (fun y => rConj P y X)
set_option maxHeartbeats 1000000 in
theorem conjugates_ok (P : Pr) (G : Grp P) (w : World) (p lv xv : Value) (L : List (List Int)) (X : List Int) (Sp Sr Sx : Nat → Prop) (hp : PresP Sp w p P) (hl : Rows2 Sr w lv L) (hL : ∀ y ∈ L, Vec P.orders y) (hlen : L.length ≤ 10000) (hx : Ints Sx w xv X) (hX : Vec P.orders X) :
  Calls Tryz.prog 230 #[p, lv, xv] w (Ret w fun w' v => RowsO w.heap.size w' v (conjL P L X)) := by
 have hP := G.v
 have hn6 := hP.n6
 obtain ⟨pb, po, rfl⟩ := hp.shape
 obtain ⟨al, capl, rfl, _, _⟩ := Sl.shape hl
 obtain ⟨ax, capx, rfl, _, _⟩ := hx.shape
 have HL := Lib.hid (And.intro hL hX); clear hL hX
 have hcl : (conjL P L X).length = L.length := by unfold conjL; rw [List.length_map]
 have HCL := Lib.hid hcl; clear hcl
 go_enter Tryz.func230, Tryz.ntmps230
 go_wp2
 go_loopw [7, 12] (fun ov iv wr => ∃ (k : Nat) (v4 : Value), v4 = ov ∧ iv = .int .i64 k ∧ k ≤ L.length ∧ Ext w wr ∧ RowsO w.heap.size wr v4 ((conjL P L X).take k)) (fun _ iv _ => L.length - (intOf iv).toNat)
 case atStart => exact ⟨0, _, rfl, rfl, by omega, Ext.refl _, SlO.nil _ _ _ _⟩
 case round =>
  obtain ⟨k, v4, rfl, rfl, hk, hg, hO⟩ := hrel
  by_cases hlt : k < L.length
  ·have hlt' : (k : Int) < L.length := by omega
   obtain ⟨b, off, a2, cap2, rfl, _, _, hc, hi⟩ := Rows2.at (Rows2.ext hl hg) k hlt
   have hyV := HL.out.1 _ (gtMem hlt)
   have hstep : (conjL P L X).take (k + 1) = (conjL P L X).take k ++ [rConj P (gt L k) X] := by
    rw [take_succ_gt _ k (by rw [HCL.out]; exact hlt)]
    unfold conjL
    rw [gt_map _ _ _ hlt]
   have htl : ((conjL P L X).take k).length ≤ 1000000 := by rw [List.length_take]; have := HCL.out; omega
   have HS := Lib.hid (And.intro hstep hyV); clear hstep hyV
   go_wp2_with fail
   refine Calls.mono (conjugate_ok P hP wr _ _ _ (gt L k) X Sp Sr Sx (hp.ext hg) hi (hx.ext hg) HS.out.2 HL.out.2) ?_
   rintro eC wC ⟨vC, rfl, hgC, hOC⟩
   rw [G.iConj_eq HS.out.2 HL.out.2] at hOC
   have hcV := G.conjV HS.out.2 HL.out.2
   have hYO : OwnIn (From wr.heap.size) wC vC (rConj P (gt L k) X) := OwnIn.of hOC (by rw [hcV.1]; omega) (fun j h1 _ => h1)
   obtain ⟨ay, capy, hvy, _, _⟩ := hYO.ints.shape
   subst hvy
   clear hc hcV
   go_wp2_with (first | (at_builtin; refine wp_app_row rfl _ _ rfl w.heap.size wr wC v4 _ ((conjL P L X).take k) (rConj P (gt L k) X) rfl hO hgC hYO rfl rfl htl hg.size ?_; intro v5 w5 hO5 hg5 hg6; have hgw5 := hO.extw hg (Nat.le_refl _) hg5) | fail)
   go_roundw
   case rel => exact ⟨k + 1, v5, rfl, by go_num, by omega, hgw5, by rw [HS.out.1]; exact hO5⟩
   case measure => simp [intOf]; omega
  ·have hke : k = L.length := by omega
   subst hke
   rw [List.take_of_length_le (by rw [HCL.out]; exact Nat.le_refl _)] at hO
   obtain ⟨az, capz, hvz, _, _⟩ := SlD.shape (hO.toD (by rw [HCL.out]; omega))
   subst hvz
   go_wp2
   go_ret
   exact ⟨_, rfl, hg, hO⟩
set_option maxHeartbeats 400000 in
theorem conjugateSubgroup_ok (P : Pr) (G : Grp P) (w : World) (p lv xv : Value) (L : List (List Int)) (X : List Int) (Sp Sr Sx : Nat → Prop) (hp : PresP Sp w p P) (hl : Rows2 Sr w lv L) (hL : ∀ y ∈ L, Vec P.orders y) (hlen : L.length ≤ 10000) (hx : Ints Sx w xv X) (hX : Vec P.orders X) :
  Calls Tryz.prog 132 #[p, lv, xv] w (Ret w fun w' v => RowsO w.heap.size w' v (cseq P (genP P (fun z => z ∈ conjL P L X)))) := by
 have hcl : (conjL P L X).length = L.length := by unfold conjL; rw [List.length_map]
 have hcon := conjugates_ok P G w p lv xv L X Sp Sr Sx hp hl hL hlen hx hX
 obtain ⟨pb, po, rfl⟩ := hp.shape
 obtain ⟨al, capl, rfl, _, _⟩ := Sl.shape hl
 obtain ⟨ax, capx, rfl, _, _⟩ := hx.shape
 have hCV : ∀ z ∈ conjL P L X, Vec P.orders z := fun z hz => by
  unfold conjL at hz
  obtain ⟨y, hy, rfl⟩ := List.mem_map.1 hz
  exact G.conjV (hL y hy) hX
 have HC := Lib.hid (And.intro hCV hcl); clear hCV hcl
 go_enter Tryz.func132, Tryz.ntmps132
 go_wp2_with fail
 refine Calls.mono hcon ?_
 rintro e1 w1 ⟨v1, rfl, hg1, hO⟩
 clear hcon
 have hR := RowsD.rows (hO.toD (by rw [HC.out.2]; omega))
 obtain ⟨a1, cap1, hv1, _, _⟩ := Sl.shape hR
 subst hv1
 go_wp2_with fail
 refine Calls.mono (generated_ok P G w1 _ _ (conjL P L X) Sp _ (hp.ext hg1) hR HC.out.1 (by rw [HC.out.2]; omega)) ?_
 rintro e2 w2 ⟨v2, rfl, hg2, hO2⟩
 go_wp2
 go_ret
 exact ⟨_, rfl, grown_trans hg1 hg2, hO2.weak hg1.size⟩
end Go.Proofs.YtdcobapnlpeaaaaGreat
namespace Go.Proofs.YtdcobapnlpeaaaaGreat
open Go.RowKit
theorem gensOf_vec {P : Pr} (hP : Valid P) : ∀ g ∈ gensOf P.orders.length, Vec P.orders g := fun g hg => by
 unfold gensOf at hg
 obtain ⟨k, _, rfl⟩ := List.mem_map.1 hg
 exact unitV_vec hP k
def NormG (P : Pr) (H : List Int → Prop) (U : List (List Int)) : Prop := ∀ g ∈ gensOf P.orders.length, ∀ x ∈ U, H (rConj P x g)
set_option maxRecDepth 100000 in
set_option maxHeartbeats 2000000 in
theorem isNormal_ok (P : Pr) (G : Grp P) (w : World) (p uv : Value) (H : List Int → Prop) (Sp Su : Nat → Prop) (S : Sub P H) (hp : PresP Sp w p P) (hu : Rows2 Su w uv (cseq P H)) :
  Calls Tryz.prog 113 #[p, uv] w (Ret w fun _ v => ∃ r : Bool, v = .bool r ∧ (r = true ↔ NormG P H (cseq P H))) := by
 have hP := G.v
 have hn6 := hP.n6
 have hl := G.cseq_len S
 have hUH := (G.seq_facts S).2.1
 obtain ⟨pb, po, rfl⟩ := hp.shape
 obtain ⟨au, capu, rfl, _, _⟩ := Sl.shape hu
 have hgl : (gensOf P.orders.length).length ≤ 6 := by unfold gensOf; simp; omega
 have HG := Lib.hid (And.intro (gensOf_vec hP) hUH); clear hUH
 go_enter Tryz.func113, Tryz.ntmps113
 go_wp2_with fail
 refine Calls.mono (generators_ok P hP w _ Sp hp) ?_
 rintro e1 w1 ⟨v1, rfl, hg1, hO⟩
 have hR := RowsD.rows (hO.toD (by omega))
 obtain ⟨a1, cap1, hv1, _, _⟩ := Sl.shape hR
 subst hv1
 generalize hgs : gensOf P.orders.length = GS at *
 have HGS := Lib.hid hgs; clear hgs hO
 go_wp2
 go_loopw [12] (fun iv wr => ∃ i : Nat, iv = .int .i64 i ∧ i ≤ GS.length ∧ Ext w1 wr ∧ Hid (∀ j, j < i → ∀ x ∈ cseq P H, H (rConj P x (gt GS j)))) (fun iv _ => GS.length - (intOf iv).toNat)
 case atStart => exact ⟨0, rfl, by omega, Ext.refl _, Lib.hid (fun j h => by omega)⟩
 case round =>
  obtain ⟨i, rfl, hi, hg, hN⟩ := hrel
  by_cases hlt : i < GS.length
  ·have hlt' : (i : Int) < GS.length := by omega
   obtain ⟨b, off, a2, cap2, rfl, _, _, hc, hgi⟩ := Rows2.at hR i hlt
   have hcr := hg.cell hc (by simp)
   have hgV := HG.out.1 _ (gtMem hlt)
   have HV := Lib.hid hgV; clear hgV
   go_wp2
   clear hcr
   go_loopw [18] (fun jv wr => ∃ j : Nat, jv = .int .i64 j ∧ j ≤ (cseq P H).length ∧ Ext w1 wr ∧ Hid (∀ l, l < j → H (rConj P (gt (cseq P H) l) (gt GS i)))) (fun jv _ => (cseq P H).length - (intOf jv).toNat)
   case atStart => exact ⟨0, rfl, by omega, hg, Lib.hid (fun j h => by omega)⟩
   case round =>
    clear hg
    obtain ⟨j, rfl, hj, hg, hM⟩ := hrel
    have hgw := grown_trans hg1 hg
    by_cases hjl : j < (cseq P H).length
    ·have hjl' : (j : Int) < (cseq P H).length := by omega
     obtain ⟨b3, off3, a3, cap3, rfl, _, _, hc3, hr3⟩ := Rows2.at (Rows2.ext hu hgw) j hjl
     have hxV := S.vec _ (HG.out.2 _ (gtMem hjl))
     have HX := Lib.hid hxV; clear hxV
     go_wp2_with fail
     refine Calls.mono (conjugate_ok P hP wr _ _ _ (gt (cseq P H) j) (gt GS i) Sp _ _ (hp.ext hgw) hr3 (hgi.ext hg) HX.out HV.out) ?_
     rintro eC wC ⟨vC, rfl, hgC, hOC⟩
     rw [G.iConj_eq HX.out HV.out] at hOC
     have hcV := G.conjV HX.out HV.out
     have hCI := hOC.ints (by rw [hcV.1]; omega)
     obtain ⟨aC, capC, hvC, _, _⟩ := hCI.shape
     subst hvC
     have HCV := Lib.hid hcV; clear hcV
     have hgwC := grown_trans hgw hgC
     go_wp2_with fail
     refine Calls.mono (isMember_ok P G wC _ _ _ H (rConj P (gt (cseq P H) j) (gt GS i)) Sp Su Any S (hp.ext hgwC) (Rows2.ext hu hgwC) hCI HCV.out) ?_
     rintro eM wM ⟨vM, rfl, hgM, r, rfl, hr⟩
     have hgT := grown_trans (grown_trans hg hgC) hgM
     cases r with
     | true =>
      have HR := Lib.hid (hr.1 rfl); clear hr
      go_wp2
      go_roundw
      case rel => exact ⟨j + 1, by go_num, by omega, hgT, Lib.hid (fun l hl => by
       rcases Nat.lt_succ_iff_lt_or_eq.1 hl with h | h
       ·exact hM.out l h
       ·rw [h]; exact HR.out)⟩
      case measure => simp [intOf]; omega
     | false =>
      have hno : ¬ H (rConj P (gt (cseq P H) j) (gt GS i)) := fun h => by have := hr.2 h; cases this
      have HR := Lib.hid hno; clear hr hno
      go_wp2
      go_ret
      exact ⟨_, rfl, grown_trans hg1 hgT, false, rfl, by
       simp only [Bool.false_eq_true, false_iff]
       intro h
       unfold NormG at h
       rw [HGS.out] at h
       exact HR.out (h _ (gtMem hlt) _ (gtMem hjl))⟩
    ·have hje : j = (cseq P H).length := by omega
     subst hje
     go_wp2
     go_roundw
     case rel => exact ⟨i + 1, by go_num, by omega, hg, Lib.hid (fun l hl => by
      rcases Nat.lt_succ_iff_lt_or_eq.1 hl with h | h
      ·exact hN.out l h
      ·rw [h]
       intro x hx
       obtain ⟨m, hm, rfl⟩ := List.getElem_of_mem hx
       rw [← gt_eq _ m hm]; exact hM.out m hm)⟩
     case measure => simp [intOf]; omega
  ·have hie : i = GS.length := by omega
   subst hie
   go_wp2
   go_ret
   exact ⟨_, rfl, grown_trans hg1 hg, true, rfl, by
    simp only [true_iff]
    unfold NormG
    rw [HGS.out]
    intro g hgm x hx
    obtain ⟨l, hl, rfl⟩ := List.getElem_of_mem hgm
    rw [← gt_eq _ l hl]; exact hN.out l hl x hx⟩
end Go.Proofs.YtdcobapnlpeaaaaGreat
namespace Go.Proofs.YtdcobapnlpeaaaaGreat
def coreP (P : Pr) (H : List Int → Prop) (x : List Int) : Prop := Vec P.orders x ∧ ∀ g, Vec P.orders g → H (rConj P x g)
def NormP (P : Pr) (K : List Int → Prop) : Prop := ∀ x, K x → ∀ g, Vec P.orders g → K (rConj P x g)
def cjS (P : Pr) (K : List Int → Prop) (g x : List Int) : Prop := ∃ y, K y ∧ x = rConj P y g
section
variable {P : Pr} (G : Grp P)
include G
theorem Grp.conj_zeros {g : List Int} (hg : Vec P.orders g) : rConj P (zeros P.orders.length) g = zeros P.orders.length := by
 unfold rConj
 rw [G.grp.el _ hg, G.inv_mul hg]
theorem Grp.conj_inv {x g : List Int} (hx : Vec P.orders x) (hg : Vec P.orders g) : rConj P (rInv P x) g = rInv P (rConj P x g) := by
 refine G.inv_of (G.conjV hx hg) (G.conjV (G.invV hx) hg) ?_
 rw [← G.conj_hom hx (G.invV hx) hg, G.mul_inv hx, G.conj_zeros hg]
theorem Grp.pull_sub {H : List Int → Prop} (S : Sub P H) {g : List Int} (hg : Vec P.orders g) : Sub P (fun y => Vec P.orders y ∧ H (rConj P y g)) :=
 ⟨fun _ h => h.1, ⟨G.oneV, by rw [G.conj_zeros hg]; exact S.one⟩, fun x y hx hy => ⟨G.mulV hx.1 hy.1, by rw [G.conj_hom hx.1 hy.1 hg]; exact S.mul _ _ hx.2 hy.2⟩,
  fun x hx => ⟨G.invV hx.1, by rw [G.conj_inv hx.1 hg]; exact S.inv _ hx.2⟩⟩
theorem Grp.core_sub {H : List Int → Prop} (S : Sub P H) : Sub P (coreP P H) :=
 ⟨fun _ h => h.1, ⟨G.oneV, fun g hg => by rw [G.conj_zeros hg]; exact S.one⟩, fun x y hx hy => ⟨G.mulV hx.1 hy.1, fun g hg => by rw [G.conj_hom hx.1 hy.1 hg]; exact S.mul _ _ (hx.2 g hg) (hy.2 g hg)⟩,
  fun x hx => ⟨G.invV hx.1, fun g hg => by rw [G.conj_inv hx.1 hg]; exact S.inv _ (hx.2 g hg)⟩⟩
theorem Grp.core_le {H : List Int → Prop} (x : List Int) (h : coreP P H x) : H x := by
 have := h.2 _ G.oneV
 rwa [G.conj_one h.1] at this
theorem Grp.core_norm {H : List Int → Prop} : NormP P (coreP P H) := fun x hx g hg =>
 ⟨G.conjV hx.1 hg, fun k hk => by rw [G.conj_mul hx.1 hg hk]; exact hx.2 _ (G.mulV hg hk)⟩
theorem Grp.cj_sub {K : List Int → Prop} (S : Sub P K) {g : List Int} (hg : Vec P.orders g) : Sub P (cjS P K g) := by
 refine ⟨?_, ⟨_, S.one, (G.conj_zeros hg).symm⟩, ?_, ?_⟩
 ·rintro x ⟨y, hy, rfl⟩; exact G.conjV (S.vec y hy) hg
 ·rintro x x' ⟨y, hy, rfl⟩ ⟨y', hy', rfl⟩
  exact ⟨_, S.mul _ _ hy hy', (G.conj_hom (S.vec y hy) (S.vec y' hy') hg).symm⟩
 ·rintro x ⟨y, hy, rfl⟩
  exact ⟨_, S.inv _ hy, (G.conj_inv (S.vec y hy) hg).symm⟩
theorem Grp.genP_conjL {K : List Int → Prop} (S : Sub P K) {g : List Int} (hg : Vec P.orders g) : genP P (fun z => z ∈ conjL P (cseq P K) g) = cjS P K g := by
 have hf := (G.seq_facts S).2.1
 have hV : ∀ z, z ∈ conjL P (cseq P K) g → Vec P.orders z := fun z hz => by
  unfold conjL at hz
  obtain ⟨y, hy, rfl⟩ := List.mem_map.1 hz
  exact G.conjV (S.vec y (hf y hy)) hg
 have S2 := G.genP_sub (Q := fun z => z ∈ conjL P (cseq P K) g) hV
 refine funext fun x => propext ⟨fun h => h _ (G.cj_sub S hg) (fun z hz => ?_), ?_⟩
 ·unfold conjL at hz
  obtain ⟨y, hy, rfl⟩ := List.mem_map.1 hz
  exact ⟨y, hf y hy, rfl⟩
 ·rintro ⟨y, hy, rfl⟩
  have h1 : genP P (fun z => z ∈ cseq P K) y := by rw [G.genP_cseq S]; exact hy
  exact (h1 _ (G.pull_sub S2 hg) (fun z hz => ⟨S.vec z (hf z hz), genP_mem (List.mem_map.2 ⟨z, hz, rfl⟩)⟩)).2
omit G in
theorem cj_mono {K K' : List Int → Prop} {g x : List Int} (h : ∀ y, K y → K' y) (hx : cjS P K g x) : cjS P K' g x := by
 obtain ⟨y, hy, rfl⟩ := hx; exact ⟨y, h y hy, rfl⟩
theorem Grp.norm_cj {N K : List Int → Prop} (hN : NormP P N) (hv : ∀ x, N x → Vec P.orders x) (h : ∀ x, N x → K x) {g : List Int} (hg : Vec P.orders g) (x : List Int) (hx : N x) : cjS P K g x := by
 have hi := G.invV hg
 refine ⟨rConj P x (rInv P g), h _ (hN x hx _ hi), ?_⟩
 rw [G.conj_mul (hv x hx) hi hg, G.inv_mul hg, G.conj_one (hv x hx)]
theorem Grp.norm_of_gens {K : List Int → Prop} (S : Sub P K) (h : ∀ j, j < P.orders.length → ∀ x, K x → K (rConj P x (unitV P.orders.length j))) : NormP P K := by
 have key : ∀ g, Vec P.orders g → ∀ x, K x → K (rConj P x g) := fun g hg => by
  refine G.gen_ind (fun g => ∀ x, K x → K (rConj P x g)) (fun x hx => ?_) (fun y j hy ih hj x hx => ?_) hg
  ·rw [G.conj_one (S.vec x hx)]; exact hx
  ·have hu := unitV_vec G.v j
   rw [← G.conj_mul (S.vec x hx) hy hu]
   exact h j hj _ (ih x hx)
 exact fun x hx g hg => key g hg x hx
omit G in
theorem gensOf_at (n j : Nat) (hj : j < n) : gt (gensOf n) j = unitV n j := by
 unfold gensOf
 have h : j < (List.range n).length := by rw [List.length_range]; exact hj
 rw [gt_map _ _ _ h]
 simp [gt, hj]
omit G in
theorem gensOf_len (n : Nat) : (gensOf n).length = n := by unfold gensOf; simp
theorem Grp.norm_iff {K : List Int → Prop} (S : Sub P K) : NormG P K (cseq P K) ↔ NormP P K := by
 have hf := (G.seq_facts S).2.1
 constructor
 ·intro h
  refine G.norm_of_gens S (fun j hj x hx => ?_)
  have hu := unitV_vec G.v j
  have h1 : genP P (fun z => z ∈ cseq P K) x := by rw [G.genP_cseq S]; exact hx
  have hm : unitV P.orders.length j ∈ gensOf P.orders.length := by rw [← gensOf_at _ _ hj]; exact gtMem (by rw [gensOf_len]; exact hj)
  exact (h1 _ (G.pull_sub S hu) (fun z hz => ⟨S.vec z (hf z hz), h _ hm z hz⟩)).2
 ·intro h g hg x hx
  exact h x (hf x hx) g (gensOf_vec G.v g hg)
theorem Grp.norm_of_cj {K : List Int → Prop} (S : Sub P K) (h : ∀ j, j < P.orders.length → ∀ x, K x → cjS P K (unitV P.orders.length j) x) : NormP P K := by
 refine G.norm_of_gens S (fun j hj => ?_)
 obtain ⟨g, hg⟩ : ∃ g, g = unitV P.orders.length j := ⟨_, rfl⟩
 have hV : Vec P.orders g := by rw [hg]; exact unitV_vec G.v j
 rw [← hg]
 have hi := G.invV hV
 have hA : ∀ x, K x → K (rConj P x (rInv P g)) := fun x hx => by
  obtain ⟨y, hy, he⟩ := h j hj x hx
  rw [← hg] at he
  rw [he, G.conj_back (S.vec y hy) hV]; exact hy
 have hpw : ∀ k x, K x → K (rConj P x (pw P (rInv P g) k)) := fun k => by
  induction k with
  | zero => intro x hx; rw [pw_zero, G.conj_one (S.vec x hx)]; exact hx
  | succ k ih =>
   intro x hx
   rw [pw_succ, ← G.conj_mul (S.vec x hx) (G.pw_vec hi k) hi]
   exact hA _ (ih x hx)
 obtain ⟨k, hk⟩ := G.inv_pw hi
 rw [G.inv_inv hV] at hk
 intro x hx
 rw [hk]; exact hpw k x hx
theorem Grp.len_le {K' K : List Int → Prop} (S' : Sub P K') (S : Sub P K) (h : ∀ x, K' x → K x) : (cseq P K').length ≤ (cseq P K).length ∧ ((cseq P K').length = (cseq P K).length → ∀ x, K x → K' x) := by
 obtain ⟨r', hR', he'⟩ := G.cseq_spec S'
 obtain ⟨r, hR, he⟩ := G.cseq_spec S
 have hl' : (cseq P K').length = (depsOf P.orders.length r').length := by rw [he', seqOf_map, List.length_map]
 have hl : (cseq P K).length = (depsOf P.orders.length r).length := by rw [he, seqOf_map, List.length_map]
 have himp : ∀ d, d < P.orders.length → r' d ≠ [] → r d ≠ [] := fun d hd hne => by
  obtain ⟨m1, m2, m3⟩ := hR'.mem d hd hne
  exact hR.piv _ (h _ m1) d hd m2 (by rw [m3]; decide)
 have hff : (depsOf P.orders.length r').length = ((depsOf P.orders.length r).filter (fun d => decide (r' d ≠ []))).length := by
  unfold depsOf
  rw [List.filter_filter]
  congr 1
  refine List.filter_congr (fun d hd => ?_)
  have hd := List.mem_range.1 hd
  by_cases h1 : r' d = []
  ·simp [h1]
  ·simp [h1, himp d hd h1]
 rw [hl', hl, hff]
 refine ⟨List.length_filter_le _ _, fun heq x hx => ?_⟩
 have hall := List.length_filter_eq_length_iff.1 heq
 have I' : Ind P K (r') := ⟨S, fun d hd hne => ⟨h _ (hR'.mem d hd hne).1, (hR'.mem d hd hne).2⟩, fun y hy d hd hT h0 => by
  have h1 := hR.piv y hy d hd hT h0
  have h2 := hall d (depsOf_mem.2 ⟨hd, h1⟩)
  exact of_decide_eq_true h2⟩
 exact G.ind_same hR'.toInd I' h x hx
end
end Go.Proofs.YtdcobapnlpeaaaaGreat
namespace Go.Proofs.YtdcobapnlpeaaaaGreat
open Go.RowKit
theorem wp_app_take {ops : Array Oper} {rest : List Oper} {o : Oper} {a : Act} {Q : Exit → Act → World → Prop} {w : World} (hgd : o.guard = none) (s x : Operand)
  (ho : o.op = Op.call { callee := Callee.builtin Builtin.append, args := #[s, x], argTypes := #[25, 25] }) (B : Nat) (A A' F : Nat → Prop) (w0 : World) (v u : Value) (xs : List (List Int)) (y : List Int) (hs : a.eval s = v)
  (hown : SlOA OwnIn 24 B A w0 v xs) (hu : OwnIn F w0 u y) (hF : ∀ k, F k → k < w0.heap.size → A k ∧ B ≤ k) (hA' : ∀ k, A' k → A k ∧ ¬ F k) (hAl : ∀ k, A k → k < w0.heap.size) (hw : w = w0.alloc (.cells #[u] 24))
  (hx : a.eval x = .slice (some ⟨w0.heap.size, 0, none⟩) 1 1) (hlen : xs.length ≤ 1000000) (hbase : B ≤ w0.heap.size)
  (h : ∀ v' w', SlOA OwnIn 24 B A' w' v' (xs ++ [y]) → w0.grownBy w' v.ownBlock → (v'.ownBlock = v.ownBlock ∨ ∀ k, v'.ownBlock = some k → w0.heap.size ≤ k) → wpList Tryz.prog ops Q rest (a.put o.dst v') w') :
  wpList Tryz.prog ops Q (o :: rest) a w := by
 subst hw
 obtain ⟨vs, G, hvl, hO, hG, hd, hE, hr, hr2⟩ := hown
 have hga : Ext w0 (w0.alloc (.cells #[u] 24)) := World.grownBy_alloc _ _ _
 refine wp_app 25 24 (.slice none 0 0) 24 und_rows Tryz.infoRow rfl (by decide) hgd s x ho B v vs hs (hO.kept hga (by cases hv : v.ownBlock <;> simp)) (some ⟨w0.heap.size, 0, none⟩) 1 1 [u] hx rfl (by simp) ?_ ?_ (by simp; omega) (by have := hga.size; omega) ?_
 ·intro j hj
  have : j = 0 := by omega
  subst this
  exact ⟨_, _, rfl, by rw [World.cell?_alloc_at _ _ _ _ rfl]; rfl⟩
 ·intro u' hu'
  simp at hu'; subst hu'; exact rdOwn.one hu
 ·intro v' w' k1 k2 _ k4
  have hg : w0.grownBy w' v.ownBlock := grown_trans (grown_of_ext _ hga) k2
  have hown2 : v'.ownBlock = v.ownBlock ∨ ∀ k, v'.ownBlock = some k → w0.heap.size ≤ k := by
   rcases k4 with h | h
   ·exact .inl h
   ·refine .inr (fun k hk => ?_)
    rw [h] at hk
    have : (w0.alloc (.cells #[u] 24)).heap.size = k := by simpa using hk
    simp at this
    omega
  have hown : ∀ k, v'.ownBlock = some k → v.ownBlock = some k ∨ w0.heap.size ≤ k := fun k hk => by
   rcases k4 with h | h
   ·exact .inl (by rw [← h]; exact hk)
   ·rw [h] at hk
    have : (w0.alloc (.cells #[u] 24)).heap.size = k := by simpa using hk
    simp at this
    exact .inr (by omega)
  refine h v' w' ⟨vs ++ [u], fun i k => if i < xs.length then G i k else F k ∧ k < w0.heap.size, by simp [hvl], k1, ?_, ?_, ?_, ?_, ?_⟩ hg hown2
  ·intro i k hi hk
   split at hk
   ·rename_i hlt
    obtain ⟨a1, a2, a3⟩ := hG i k hlt hk
    exact ⟨a1, fun e => (hown k e).elim a2 (fun h => by omega), Nat.lt_of_lt_of_le a3 hg.size⟩
   ·obtain ⟨b1, b2⟩ := hF k hk.1 hk.2
    exact ⟨b2, fun e => (hown k e).elim (fun h => hr2 k h b1) (fun h => by have := hk.2; omega), Nat.lt_of_lt_of_le hk.2 hg.size⟩
  ·intro i j k hi hj hk hk'
   simp only [List.length_append, List.length_singleton] at hi hj
   split at hk <;> split at hk'
   ·exact hd i j k (by assumption) (by assumption) hk hk'
   ·exact absurd (hF k hk'.1 hk'.2).1 (hr i k (by assumption) hk)
   ·exact absurd (hF k hk.1 hk.2).1 (hr j k (by assumption) hk')
   ·omega
  ·intro i hi
   simp only [List.length_append, List.length_singleton] at hi
   by_cases hlt : i < xs.length
   ·rw [gt_append_left _ _ _ (by omega), gt_append_left _ _ _ hlt]
    simp only [if_pos hlt]
    exact rdOwn.mono (hE i hlt) (fun k hk hkl => ⟨hk, Nat.lt_of_lt_of_le hkl hg.size, hg.block k hkl (fun e => (hG i k hlt hk).2.1 e.symm)⟩)
   ·have hi2 : i = xs.length := by omega
    subst hi2
    rw [gt_concat, ← hvl, gt_concat]
    simp only [hvl, Nat.lt_irrefl, if_false]
    exact rdOwn.mono hu (fun k hk hkl => ⟨⟨hk, hkl⟩, Nat.lt_of_lt_of_le hkl hg.size, hg.block k hkl (fun e => hr2 k e.symm (hF k hk hkl).1)⟩)
  ·intro i k hi hk ha
   obtain ⟨c1, c2⟩ := hA' k ha
   split at hk
   ·rename_i hlt; exact hr i k hlt hk c1
   ·exact c2 hk.1
  ·intro k hk ha
   obtain ⟨c1, _⟩ := hA' k ha
   rcases hown k hk with h | h
   ·exact hr2 k h c1
   ·have := hAl k c1; omega
end Go.Proofs.YtdcobapnlpeaaaaGreat
namespace Go.Proofs.YtdcobapnlpeaaaaGreat
open Go.RowKit
theorem rowsOne {B : Nat} {w2 : World} {u : Value} {y : List Int} (hu : OwnIn (From B) w2 u y) (hB : B ≤ w2.heap.size) : RowsO B (w2.alloc (.cells #[u] 24)) (.slice (some ⟨w2.heap.size, 0, none⟩) 1 1) [y] := by
 have hga : Ext w2 (w2.alloc (.cells #[u] 24)) := World.grownBy_alloc _ _ _
 refine ⟨[u], fun _ k => B ≤ k ∧ k < w2.heap.size, rfl, World.ownsRow_lit w2 #[u] 1 hB (by decide) rfl, fun i k hi hk => ?_, fun i j k hi hj _ _ => ?_, fun i hi => ?_⟩
 ·exact ⟨hk.1, fun e => by have := own_blk e; omega, Nat.lt_of_lt_of_le hk.2 hga.size⟩
 ·simp at hi hj; omega
 ·have : i = 0 := by simpa using hi
  subst this
  exact rdOwn.mono hu (fun k hk hkl => ⟨⟨hk, hkl⟩, Nat.lt_of_lt_of_le hkl hga.size, hga.block k hkl (by simp)⟩)
end Go.Proofs.YtdcobapnlpeaaaaGreat
namespace Go.Proofs.YtdcobapnlpeaaaaGreat
open Go.Proofs Go.Shelf Go.RowKit Go.Lib Go.Sort
def Tryz.sortRows_ren : Go.Shelf.Ren := ⟨fun | 6 => 247 | 15 => 297 | 14 => 296 | 28 => 332 | 29 => 333 | 20 => 324 | 21 => 325 | 22 => 326 | 23 => 327 | 24 => 328 | 25 => 329 | 26 => 330 | 27 => 331 | 46 => 351 | 47 => 352 | 48 => 353 | 49 => 354 | 50 => 355 | 57 => 367 | n => n, fun | 22 => 25 | 24 => 24 | 25 => 195 | 3 => 3 | 39 => 139 | 0 => 0 | 53 => 266 | 55 => 62 | 4 => 4 | 46 => 260 | 45 => 259 | 50 => 193 | 5 => 5 | 9 => 9 | 66 => 281 | 70 => 285 | 76 => 296 | 77 => 297 | n => n, fun | n => n⟩
theorem Tryz.sortRows : Go.Proofs.SlLaysF.n6 Tryz.prog Tryz.sortRows_ren := {
  mixed := by kernel_rfl
  f6 := ⟨Tryz.f247.name, by decide, Tryz.func247.trans (congrArg some (by kernel_rfl))⟩
  f14 := ⟨Tryz.f296.name, by decide, Tryz.func296.trans (congrArg some (by kernel_rfl))⟩
  f15 := Tryz.func297.trans (congrArg some (by kernel_rfl))
  f20 := ⟨Tryz.f324.name, by decide, Tryz.func324.trans (congrArg some (by kernel_rfl))⟩
  f21 := ⟨Tryz.f325.name, by decide, Tryz.func325.trans (congrArg some (by kernel_rfl))⟩
  f22 := ⟨Tryz.f326.name, by decide, Tryz.func326.trans (congrArg some (by kernel_rfl))⟩
  f23 := ⟨Tryz.f327.name, by decide, Tryz.func327.trans (congrArg some (by kernel_rfl))⟩
  f24 := ⟨Tryz.f328.name, by decide, Tryz.func328.trans (congrArg some (by kernel_rfl))⟩
  f25 := ⟨Tryz.f329.name, by decide, Tryz.func329.trans (congrArg some (by kernel_rfl))⟩
  f26 := ⟨Tryz.f330.name, by decide, Tryz.func330.trans (congrArg some (by kernel_rfl))⟩
  f27 := ⟨Tryz.f331.name, by decide, Tryz.func331.trans (congrArg some (by kernel_rfl))⟩
  f28 := Tryz.func332.trans (congrArg some (by kernel_rfl))
  f29 := Tryz.func333.trans (congrArg some (by kernel_rfl))
  f46 := ⟨Tryz.f351.name, by decide, Tryz.func351.trans (congrArg some (by kernel_rfl))⟩
  f47 := Tryz.func352.trans (congrArg some (by kernel_rfl))
  f48 := Tryz.func353.trans (congrArg some (by kernel_rfl))
  f49 := ⟨Tryz.f354.name, by decide, Tryz.func354.trans (congrArg some (by kernel_rfl))⟩
  f50 := ⟨Tryz.f355.name, by decide, Tryz.func355.trans (congrArg some (by kernel_rfl))⟩
  f57 := ⟨Tryz.f367.name, by decide, Tryz.func367.trans (congrArg some (by kernel_rfl))⟩
  t0 := Tryz.underlying0
  a0 := Tryz.isAgg0
  z0 := Tryz.sizeOf0
  v0 := Tryz.zeroValue0
  t3 := Tryz.underlying3
  a3 := Tryz.isAgg3
  z3 := Tryz.sizeOf3
  v3 := Tryz.zeroValue3
  t4 := Tryz.underlying4
  a4 := Tryz.isAgg4
  z4 := Tryz.sizeOf4
  v4 := Tryz.zeroValue4
  t5 := Tryz.underlying5
  a5 := Tryz.isAgg5
  z5 := Tryz.sizeOf5
  v5 := Tryz.zeroValue5
  t9 := Tryz.underlying9
  a9 := Tryz.isAgg9
  z9 := Tryz.sizeOf9
  v9 := Tryz.zeroValue9
  t22 := Tryz.underlying25
  a22 := Tryz.isAgg25
  z22 := Tryz.sizeOf25
  v22 := Tryz.zeroValue25
  a24 := Tryz.isAgg24
  z24 := Tryz.sizeOf24
  t25 := Tryz.underlying195
  a25 := Tryz.isAgg195
  z25 := Tryz.sizeOf195
  v25 := Tryz.zeroValue195
  t39 := Tryz.underlying139
  a39 := Tryz.isAgg139
  z39 := Tryz.sizeOf139
  v39 := Tryz.zeroValue139
  t45 := Tryz.underlying259
  a45 := Tryz.isAgg259
  z45 := Tryz.sizeOf259
  v45 := Tryz.zeroValue259
  t46 := Tryz.underlying260
  a46 := Tryz.isAgg260
  z46 := Tryz.sizeOf260
  v46 := Tryz.zeroValue260
  t50 := Tryz.underlying193
  a50 := Tryz.isAgg193
  z50 := Tryz.sizeOf193
  v50 := Tryz.zeroValue193
  t53 := Tryz.underlying266
  a53 := Tryz.isAgg266
  z53 := Tryz.sizeOf266
  v53 := Tryz.zeroValue266
  t55 := Tryz.underlying62
  a55 := Tryz.isAgg62
  z55 := Tryz.sizeOf62
  v55 := Tryz.zeroValue62
  t66 := Tryz.underlying281
  a66 := Tryz.isAgg281
  z66 := Tryz.sizeOf281
  v66 := Tryz.zeroValue281
  t70 := Tryz.underlying285
  a70 := Tryz.isAgg285
  z70 := Tryz.sizeOf285
  v70 := Tryz.zeroValue285
  t76 := Tryz.underlying296
  a76 := Tryz.isAgg296
  z76 := Tryz.sizeOf296
  v76 := Tryz.zeroValue296
  t77 := Tryz.underlying297
  a77 := Tryz.isAgg297
  z77 := Tryz.sizeOf297
  v77 := Tryz.zeroValue297 }
end Go.Proofs.YtdcobapnlpeaaaaGreat
namespace Go.Proofs.YtdcobapnlpeaaaaGreat
open Go.Proofs Go.Shelf Go.RowKit Go.Lib Go.Sort
section
variable {α : Type} [Inhabited α] {enc : α → Value}
theorem holds_of_blockV {w : World} {g : Nat} {cur : Array Value} {e : TypeId} {ss : List α} (hb : w.heap[g]? = some (.cells cur e (0, 0))) (ht : cur.toList.take ss.length = ss.map enc) : Go.Sort.Holds enc w g 0 ss.toArray := by
 intro j hj
 have hj' : j < ss.length := by simpa using hj
 refine ⟨?_, by simp [World.frozen?, hb]⟩
 have h1 : (cur.toList.take ss.length)[j]? = (ss.map enc)[j]? := by rw [ht]
 rw [List.getElem?_take_of_lt hj'] at h1
 simp only [World.cell?, hb, Nat.zero_add]
 simp only [Option.isSome_none, Bool.false_eq_true, if_false]
 rw [← Array.getElem?_toList, h1]
 simp [hj']
theorem heap_sortedV {w : World} {g n : Nat} {os : Array Obj} {cur : Array Value} {e : TypeId} {fr : Nat × Nat} (d : Array α) (hb : w.heap[g]? = some (.cells cur e fr)) :
  (sortWorld enc w g 0 n d os).heap[g]? = some (.cells (putCells enc 0 d cur) e fr) := by
 have hg : g < w.heap.size := (Array.getElem?_eq_some_iff.1 hb).1
 unfold sortWorld
 rw [heap_grow_old _ _ (by simpa using hg)]
 simp [putRow, mapBlock, Sort.ahead, Array.getElem?_modify, hb, onCells]
theorem grownBy_sortedV {w : World} {g n : Nat} {os : Array Obj} (d : Array α) : w.grownBy (sortWorld enc w g 0 n d os) (some g) := by
 unfold sortWorld
 refine ⟨rfl, rfl, rfl, by simp, fun k hk hne => ?_⟩
 rw [heap_grow_old _ _ (by simpa using hk)]
 have : g ≠ k := fun e => hne (by rw [e])
 simp [putRow, mapBlock, Sort.ahead, Array.getElem?_modify, this]
theorem take_putCellsV (cur : Array Value) (ts : List α) (h : ts.length ≤ cur.size) : (putCells enc 0 ts.toArray cur).toList.take ts.length = ts.map enc := by
 apply List.ext_getElem?
 intro j
 by_cases hj : j < ts.length
 ·rw [List.getElem?_take_of_lt hj, Array.getElem?_toList]
  simp [putCells, hj, show j < cur.size by omega]
 ·rw [List.getElem?_take_eq_none (by omega), List.getElem?_eq_none (by simp; omega)]
theorem ownsRow_sortedV {w : World} {base g cap n : Nat} {e : TypeId} {os : Array Obj} {cur : Array Value} {ss ts : List α} (hl : ts.length = ss.length) (hbase : base ≤ g) (hb : w.heap[g]? = some (.cells cur e (0, 0)))
  (h1 : ss.length ≤ cap) (h2 : cap ≤ maxLen) (h3 : cur.size = cap * 1) :
  (sortWorld enc w g 0 n ts.toArray os).ownsRow base e 1 (.slice (some ⟨g, 0, none⟩) ss.length cap) ss.length (ts.map enc) :=
 ⟨by simp [hl], .inr ⟨g, cap, _, rfl, hbase, heap_sortedV _ hb, h1, h2, by simp [putCells, h3], by rw [Nat.mul_one, ← hl]; exact take_putCellsV cur ts (by omega)⟩⟩
end
def encAt (vs : List Value) (k : Nat) : Value := if k < vs.length then gt vs k else .slice none 0 0
def cfAt (L : List (List Int)) (i j : Nat) : Int := cmpL (gt L i) (gt L j)
theorem ltOf_true {L : List (List Int)} {x y : Nat} : ltOf (cfAt L) x y = true ↔ cmpL (gt L x) (gt L y) < 0 := by unfold ltOf; rw [decide_eq_true_iff]; rfl
theorem ltOf_false {L : List (List Int)} {x y : Nat} : ltOf (cfAt L) x y = false ↔ 0 ≤ cmpL (gt L x) (gt L y) := by
 unfold ltOf; rw [decide_eq_false_iff_not]; show ¬ (cmpL (gt L x) (gt L y) < 0) ↔ _; omega
theorem swo_cfAt (L : List (List Int)) : SWO (ltOf (cfAt L)) where
 irrefl x := by
  have := (cmpL_zero (gt L x) (gt L x)).2 rfl
  rw [ltOf_false]; omega
 trans x y z h k := by
  rw [ltOf_true] at *
  have h1 := cmpL_le_trans (gt L x) (gt L y) (gt L z) (by omega) (by omega)
  have h2 : cmpL (gt L x) (gt L z) ≠ 0 := by
   intro e
   rw [cmpL_zero] at e
   rw [e] at h
   have := cmpL_swap (gt L z) (gt L y)
   omega
  omega
 ntrans x y z h k := by
  rw [ltOf_false] at *
  have h1 := cmpL_swap (gt L x) (gt L y)
  have h2 := cmpL_swap (gt L y) (gt L z)
  have h3 := cmpL_swap (gt L x) (gt L z)
  have h4 := cmpL_le_trans (gt L z) (gt L y) (gt L x) (by omega) (by omega)
  omega
theorem encAt_one {vs : List Value} (h : ∀ i, i < vs.length → (gt vs i).oneCell' = true) : OneCell (encAt vs) := by
 intro k
 unfold encAt
 split
 ·exact h k (by assumption)
 ·rfl
theorem gt_inj {α : Type} [Inhabited α] {l : List α} (h : l.Nodup) {i j : Nat} (hi : i < l.length) (hj : j < l.length) (he : gt l i = gt l j) : i = j := by
 simp only [gt, List.getD_eq_getElem?_getD, List.getElem?_eq_getElem hi, List.getElem?_eq_getElem hj, Option.getD_some] at he
 rcases Nat.lt_trichotomy i j with h1 | h1 | h1
 ·exact absurd he (List.pairwise_iff_getElem.1 h i j hi hj h1)
 ·exact h1
 ·exact absurd he.symm (List.pairwise_iff_getElem.1 h j i hj hi h1)
theorem sortRows_ok (w : World) (v : Value) (L : List (List Int)) (B : Nat) (hL : RowsO B w v L) (hne : 0 < L.length) (hlen : L.length ≤ 1000000) :
  Calls Tryz.prog 247 #[v, .func (.func 245) #[] #[]] w fun e w' => e = .returned (.tuple #[]) ∧ RowsO B w' v (sortL L) ∧ w.grownBy w' v.ownBlock := by
 obtain ⟨vs, G, hvl, hO, hG, hd, hE⟩ := hL
 obtain ⟨_, ⟨rfl, h0⟩ | ⟨g, cap, cur, rfl, hBg, hb, hnc, hcm, hsz, hx⟩⟩ := hO
 ·omega
 have hgs : g < w.heap.size := (Array.getElem?_eq_some_iff.1 hb).1
 have hone : OneCell (encAt vs) := encAt_one fun i hi => by
  exact rdOwn.one (hE i (by omega))
 have hmap : (List.range L.length).map (encAt vs) = vs := by
  apply List.ext_getElem (by simp [hvl])
  intro j h1 h2
  simp [encAt, gt, h2]
 have hH : Go.Sort.Holds (encAt vs) w g 0 (List.range L.length).toArray := holds_of_blockV hb (by rw [hmap, List.length_range, ← hvl]; simpa using hx)
 have eg : ∀ args w, (callFunc 245 args).run Tryz.prog w = .ok (.enter 245 args) w := enters_of Tryz.func245 (by kernel_rfl) rfl
 have hcmp : CmpReads Tryz.prog 245 #[] (encAt vs) (cfAt L) g 0 (List.range L.length).toArray.size w := by
  intro m os dk _ x y
  have hgr : w.grownBy (sortWorld (encAt vs) w g 0 m dk os) (some g) := grownBy_sortedV dk
  have hread : ∀ k, Ints Any (sortWorld (encAt vs) w g 0 m dk os) (encAt vs k) (gt L k) := by
   intro k
   by_cases hk : k < vs.length
   ·have he := (hE k (by omega)).ints
    unfold encAt
    rw [if_pos hk]
    exact Ints.mono he (fun b hb2 hlt => ⟨trivial, Nat.lt_of_lt_of_le hlt hgr.size, hgr.block b hlt (fun e => (hG k b (by omega) hb2).2.1 (by cases e; rfl))⟩)
   ·have h1 : gt L k = [] := by simp [gt, show ¬ k < L.length by omega]; rfl
    unfold encAt
    rw [if_neg hk, h1]
    exact ⟨none, 0, rfl, ⟨by simp, by simp, fun _ => rfl⟩, fun i hi => by simp at hi⟩
  refine (sCompare_ok _ _ _ _ _ _ _ (hread x) (hread y)).mono ?_
  rintro e w' ⟨rfl, rfl⟩
  exact ⟨rfl, 0, rfl⟩
 have hcon := Any.slices_SortFunc Tryz.sortRows (encAt vs) hone (cfAt L) (swo_cfAt L) 245 #[] g 0 cap (List.range L.length).toArray w eg hcmp.lays hH hgs (by simp; omega)
 change Calls Tryz.prog 247 _ _ _ at hcon
 have hsz2 : (List.range L.length).toArray.size = vs.length := by simp [hvl]
 rw [hsz2] at hcon
 refine hcon.mono ?_
 rintro e w' ⟨he, d', n, os, ⟨hs1, _, hperm⟩, hsorted, rfl⟩
 have hts : d'.toList.length = L.length := by simpa [hvl] using hs1
 have hP : d'.toList.Perm (List.range L.length) := by
  have h1 : d'.extract 0 vs.length = d' := by
   apply Array.ext'
   rw [hvl, ← hts]; simp
  have h2 : (List.range L.length).toArray.extract 0 vs.length = (List.range L.length).toArray := by
   apply Array.ext'
   rw [hvl]; simp
  rw [h1, h2] at hperm
  simpa using hperm
 have hin : ∀ i, i < L.length → gt d'.toList i < L.length := fun i hi => by
  have := hP.subset (gt_mem (l := d'.toList) (i := i) (by omega))
  simpa using this
 have hnd : d'.toList.Nodup := hP.symm.nodup List.nodup_range
 have hmapL : (List.range L.length).map (gt L) = L := by
  apply List.ext_getElem (by simp)
  intro j h1 h2
  simp [gt, h2]
 have hsort : d'.toList.map (gt L) = sortL L := by
  refine sortL_unique ?_ ?_
  ·have := hP.map (gt L)
   rwa [hmapL] at this
  ·refine List.pairwise_iff_getElem.2 ?_
   intro i j hi hj hij
   have hi' : i < d'.size := by simpa using hi
   have hj' : j < d'.size := by simpa using hj
   have h1 := hsorted i j (Nat.zero_le _) hij (by rw [hs1, hsz2] at hj'; exact hj')
   rw [ltOf_false, getElem!_pos d' i hi', getElem!_pos d' j hj'] at h1
   have h2 := cmpL_swap (gt L d'[j]) (gt L d'[i])
   simp only [List.getElem_map, Array.getElem_toList]
   omega
 have hgr : w.grownBy (sortWorld (encAt vs) w g 0 n d' os) (some g) := grownBy_sortedV d'
 have hgv : ∀ i, i < L.length → gt (d'.toList.map (encAt vs)) i = gt vs (gt d'.toList i) := fun i hi => by
  have h1 : gt (d'.toList.map (encAt vs)) i = encAt vs (gt d'.toList i) := gt_map _ _ _ (by omega)
  rw [h1]; unfold encAt; rw [if_pos (by rw [hvl]; exact hin i hi)]
 have hgL : ∀ i, i < L.length → gt (sortL L) i = gt L (gt d'.toList i) := fun i hi => by
  rw [← hsort]; exact gt_map _ _ _ (by omega)
 have hsl : (sortL L).length = L.length := (sortL_perm L).length_eq
 refine ⟨he, ⟨d'.toList.map (encAt vs), fun i k => G (gt d'.toList i) k, by simp [hsl, ← hts], ?_, ?_, ?_, ?_⟩, hgr⟩
 ·have := ownsRow_sortedV (enc := encAt vs) (n := n) (os := os) (ss := List.range L.length) (ts := d'.toList) (by rw [hts, List.length_range]) hBg hb (by rw [List.length_range, ← hvl]; exact hnc) hcm hsz
  rw [List.length_range, ← hvl] at this
  unfold OwnV
  rw [show (d'.toList.map (encAt vs)).length = vs.length by rw [List.length_map, hts, hvl]]
  simpa using this
 ·intro i k hi hk
  obtain ⟨a1, a2, a3⟩ := hG _ k (hin i (by omega)) hk
  exact ⟨a1, a2, Nat.lt_of_lt_of_le a3 hgr.size⟩
 ·intro i j k hi hj hk hk'
  exact gt_inj hnd (by omega) (by omega) (hd _ _ k (hin i (by omega)) (hin j (by omega)) hk hk')
 ·intro i hi
  show OwnIn _ _ _ _
  rw [hgv i (by omega), hgL i (by omega)]
  have he := hE _ (hin i (by omega))
  exact rdOwn.mono he (fun b hb2 hlt => ⟨hb2, Nat.lt_of_lt_of_le hlt hgr.size, hgr.block b hlt (fun e => (hG _ b (hin i (by omega)) hb2).2.1 (by cases e; rfl))⟩)
end Go.Proofs.YtdcobapnlpeaaaaGreat
namespace Go.Proofs.YtdcobapnlpeaaaaGreat
open Go.RowKit
def Rest (m : Nat) (F : Nat → Nat → Prop) (i n : Nat) : Nat → Prop := fun k => k < m ∧ ∃ j, i ≤ j ∧ j < n ∧ F j k
theorem SlOA.nil {α : Type} [Inhabited α] (El : (Nat → Prop) → World → Value → α → Prop) (E B : Nat) (A : Nat → Prop) (w : World) : SlOA El E B A w (.slice none 0 0) ([] : List α) :=
 ⟨[], fun _ _ => False, rfl, World.ownsRow_nil _ _ _ _, by simp, by simp, by simp, by simp, by simp [Value.ownBlock]⟩
set_option maxRecDepth 100000 in
set_option maxHeartbeats 4000000 in
theorem elementsOf_ok (P : Pr) (G : Grp P) (w : World) (p uv : Value) (U : List (List Int)) (Sp Su : Nat → Prop) (hp : PresP Sp w p P) (hu : Rows2 Su w uv U) (hU : SeqOk P U) (hl : U.length ≤ 6) :
  Calls Tryz.prog 162 #[p, uv] w (Ret w fun w' v => RowsO w.heap.size w' v (sortL (elsP P U U.length))) := by
 have hP := G.v
 have hn6 := hP.n6
 obtain ⟨pb, po, rfl⟩ := hp.shape
 obtain ⟨ao, capo, hco0, hoi⟩ := hp.ordAt
 obtain ⟨au, capu, rfl, _, _⟩ := Sl.shape hu
 have hUz : ∀ z ∈ U, dep z < z.length := fun z hz => by have := hU.1 z hz; rw [this.1.1]; exact this.2.1
 have HU := Lib.hid hU; clear hU
 go_enter Tryz.func162, Tryz.ntmps162
 go_wp2_with (first | (at_make; refine wp_make_ints rfl _ _ rfl w.heap.size P.orders.length w.heap.size rfl _ rfl rfl rfl (by omega) (Nat.le_refl _) ?_; intro w1 ho1 hg1 hlt1) | fail)
 have hz1 : OwnIn (From w.heap.size) w1 (.slice (some ⟨w.heap.size, 0, none⟩) P.orders.length P.orders.length) (zeros P.orders.length) := OwnIn.of ho1 (by simp [zeros]; omega) (fun j h1 _ => h1)
 have hO1 := rowsOne hz1 hg1.size
 have hga : Ext w1 (w1.alloc (.cells #[.slice (some ⟨w.heap.size, 0, none⟩) P.orders.length P.orders.length] 24)) := World.grownBy_alloc _ _ _
 have hg2 := grown_trans hg1 hga
 clear ho1 hz1 hga hg1 hlt1
 generalize hw2 : w1.alloc (.cells #[.slice (some ⟨w.heap.size, 0, none⟩) P.orders.length P.orders.length] 24) = w2 at *
 clear hw2
 refine Calls.mono (pivots_ok _ U w2 Su (Rows2.ext hu hg2) hUz (by omega)) ?_
 rintro e3 w3 ⟨pv, rfl, hg3, hV3⟩
 have hg03 := grown_trans hg2 hg3
 have hO3 := SlO.ext rdOwn hO1 hg3
 clear hO1 hg2 hg3 hUz
 have hpvs : ∃ az capz, pv = .slice az U.length capz := by
  rcases hV3.form with ⟨h1, h2⟩ | ⟨g, cp, h1, _⟩
  ·have h3 : U.length = 0 := by unfold depV at h2; rw [List.map_eq_nil_iff] at h2; rw [h2]; rfl
   exact ⟨none, 0, by rw [h1, h3]⟩
  ·exact ⟨_, _, by rw [h1]; unfold depV; rw [List.length_map]⟩
 obtain ⟨ap, capp, rfl⟩ := hpvs
 go_wp2
 go_loopw [5, 21] (fun ov iv wr => ∃ (k : Nat) (v4 : Value), v4 = ov ∧ iv = .int .i64 k ∧ k ≤ U.length ∧ Ext w3 wr ∧ RowsO w.heap.size wr v4 (elsP P U k)) (fun _ iv _ => U.length - (intOf iv).toNat)
 case atStart => exact ⟨0, _, rfl, rfl, by omega, Ext.refl _, hO3⟩
 case round =>
  clear hO3
  obtain ⟨k, v4, rfl, rfl, hk, hg, hO⟩ := hrel
  have hXl0 := elsP_len hP HU.out k hk
  have hX729 := prodU_729 hP HU.out k hk
  by_cases hlt : k < U.length
  ·have hlt' : (k : Int) < U.length := by omega
   have hdi : gt (depV U) k = .int .i64 (dep (gt U k)) := by unfold depV; rw [gt_map _ _ _ hlt]
   have hpf : ∃ g, ap = some ⟨g, 0, none⟩ := by
    rcases hV3.form with ⟨h1, h2⟩ | ⟨g, cp, h1, _⟩
    ·unfold depV at h2; rw [List.map_eq_nil_iff] at h2; rw [h2] at hlt; simp at hlt
    ·simp only [Value.slice.injEq] at h1; exact ⟨g, h1.1⟩
   obtain ⟨gp, rfl⟩ := hpf
   have hcp3 := hV3.cell k (by unfold depV; rw [List.length_map]; exact hlt)
   rw [hdi] at hcp3
   clear hdi
   have hcp := hg.cell hcp3 (by simp)
   clear hcp3
   obtain ⟨d, hd⟩ : ∃ d, d = dep (gt U k) := ⟨_, rfl⟩
   obtain ⟨z, hz⟩ : ∃ z, z = gt U k := ⟨_, rfl⟩
   have hdn : d < P.orders.length := by rw [hd]; exact (HU.out.1 _ (gtMem hlt)).2.1
   have hzV : Vec P.orders z := by rw [hz]; exact (HU.out.1 _ (gtMem hlt)).1
   obtain ⟨o, ho⟩ : ∃ o, o = (gt P.orders d).toNat := ⟨_, rfl⟩
   have ho7 := hP.ord7 d hdn
   have hoo : gt P.orders d = (o : Int) := by omega
   obtain ⟨X, hX⟩ : ∃ X, X = elsP P U k := ⟨_, rfl⟩
   have hXn : elsP P U (k + 1) = X.flatMap (stepE P z o) := by rw [hX, ho, hd, hz]; rfl
   have hXV : ∀ x ∈ X, Vec P.orders x := by rw [hX]; exact elsP_sub G.sub_all (fun z hz => (HU.out.1 z hz).1) k hk
   rw [← hd] at hcp
   rw [← hX] at hO hXl0
   have hXl : X.length ≤ 729 := by omega
   have hX1 : 1 ≤ X.length := by omega
   clear hXl0 hX729
   obtain ⟨vs, F, hvl, hOv, hF, hFd, hFE⟩ := hO
   obtain ⟨gx, capx, hv4⟩ : ∃ gx capx, v4 = .slice (some ⟨gx, 0, none⟩) X.length capx := by
    rcases hOv.form with ⟨h1, h2⟩ | ⟨g, cp, h1, _⟩
    ·rw [h2] at hvl; simp at hvl; omega
    ·exact ⟨g, cp, by rw [h1, hvl]⟩
   subst hv4
   have HX := Lib.hid (And.intro hXn (And.intro hXV (And.intro hX (And.intro hd (And.intro hz ho))))); clear hXn hXV hX hd ho
   obtain ⟨wo, rfl⟩ : ∃ wo : World, wo = wr := ⟨_, rfl⟩
   have hgw := grown_trans hg03 hg
   obtain ⟨bo, oo, rfl, _, _, hcod⟩ := Ints.at (hoi.ext hgw) d hdn
   have hc0 := hgw.cell hco0 (by simp)
   obtain ⟨bu, ou, a2, cap2, hau, _, _, hcu, hui⟩ := Rows2.at hu k hlt
   subst hau
   rw [← hz] at hcu hui
   have hcu := hgw.cell hcu (by simp)
   clear hz
   have hdn' : (d : Int) < P.orders.length := by omega
   have HC := Lib.hid (And.intro hc0 (And.intro hcod hcu)); clear hc0 hcod hcu
   go_wp2
   clear hcp
   go_loopw [8, 28] (fun nv jv wr => ∃ (j : Nat) (v5 : Value), v5 = nv ∧ jv = .int .i64 j ∧ j ≤ X.length ∧ Ext wo wr ∧ SlOA OwnIn 24 w.heap.size (Rest wo.heap.size F j X.length) wr v5 ((X.take j).flatMap (stepE P z o)) ∧ Hid (∀ b, v5.ownBlock = some b → wo.heap.size ≤ b)) (fun _ jv _ => X.length - (intOf jv).toNat)
   case atStart => exact ⟨0, _, rfl, rfl, by omega, Ext.refl _, SlOA.nil _ _ _ _ _, Lib.hid (fun b hb => by simp [Value.ownBlock] at hb)⟩
   case round =>
    obtain ⟨j, v5, rfl, rfl, hj, hgm, hA, hob⟩ := hrel
    by_cases hjl : j < X.length
    ·have hjl' : (j : Int) < X.length := by omega
     have hxE := hFE j hjl
     obtain ⟨ax, cx, hvx, _, _⟩ := hxE.ints.shape
     have hcx := hgm.cell (hOv.cell j (by omega)) (by simp)
     rw [hvx] at hcx hxE
     have hc0 := hgm.cell HC.out.1 (by simp)
     have hcod := hgm.cell HC.out.2.1 (by simp)
     rw [hoo] at hcod
     have hxV := HX.out.2.1 _ (gtMem hjl)
     have hxe : rMul P (gt X j) (pw P z 0) = gt X j := G.grp.er _ hxV
     have hpl : ((X.take j).flatMap (stepE P z o)).length ≤ 729 * 7 := by
      rw [flatMap_len, List.length_take]
      exact Nat.mul_le_mul (by omega) (by omega)
     have HPL := Lib.hid (And.intro hxV (And.intro hxe hpl)); clear hxV hxe hpl hvx
     obtain ⟨x, hx⟩ : ∃ x, x = gt X j := ⟨_, rfl⟩
     rw [← hx] at hcx hxE HPL
     have HXJ := Lib.hid hx; clear hx
     have hxE2 := rdOwn.mono (F' := F j) hxE (fun b hb hlt => ⟨hb, Nat.lt_of_lt_of_le hlt hgm.size, hgm.block b hlt (by simp)⟩)
     go_wp2
     clear hc0 hcod hcx
     go_loopw [8, 10, 39] (fun nv xv tv wr => ∃ (t : Nat) (v6 : Value) (Y : List Int) (A Fx : Nat → Prop), v6 = nv ∧ tv = .int .i64 t ∧ t ≤ o ∧ Ext wo wr ∧ OwnIn Fx wr xv Y ∧ SlOA OwnIn 24 w.heap.size A wr v6 ((X.take j).flatMap (stepE P z o) ++ stepE P z t x) ∧
       Hid (Y = rMul P x (pw P z t) ∧ (∀ b, Fx b → b < wr.heap.size → A b ∧ w.heap.size ≤ b) ∧ (∀ b, Rest wo.heap.size F (j + 1) X.length b → A b ∧ ¬ Fx b) ∧ (∀ b, A b → b < wr.heap.size) ∧ ∀ b, v6.ownBlock = some b → wo.heap.size ≤ b)) (fun _ _ tv _ => o - (intOf tv).toNat)
     case atStart =>
      refine ⟨0, v5, x, Rest wo.heap.size F j X.length, F j, rfl, rfl, by omega, hgm, hxE2, ?_, Lib.hid ⟨HPL.out.2.1.symm, fun b hb _ => ?_, fun b hb => ?_, fun b hb => Nat.lt_of_lt_of_le hb.1 hgm.size, hob.out⟩⟩
      ·unfold stepE; rw [List.range_zero, List.map_nil, List.append_nil]; exact hA
      ·obtain ⟨f1, _, f3⟩ := hF j b hjl hb
       exact ⟨⟨f3, j, Nat.le_refl _, hjl, hb⟩, f1⟩
      ·obtain ⟨h1, i, h2, h3, h4⟩ := hb
       exact ⟨⟨h1, i, by omega, h3, h4⟩, fun h => by have := hFd i j b h3 hjl h4 h; omega⟩
     case round =>
      clear hxE2 hA hob hxE
      obtain ⟨t, v6, Y, A, Fx, rfl, rfl, ht, hgi, hxv, hA, hH⟩ := hrel
      by_cases htl : t < o
      ·have htl' : (t : Int) < o := by omega
       obtain ⟨ay, cy, hvy, _, _⟩ := hxv.ints.shape
       subst hvy
       have hgwr := grown_trans hgw hgi
       have hYV : Vec P.orders Y := by rw [hH.out.1]; exact G.mulV HPL.out.1 (G.pw_vec hzV t)
       have hYn : tv P Y z = rMul P x (pw P z (t + 1)) := by rw [G.tv_eq hYV hzV, hH.out.1, G.step_mul HPL.out.1 hzV]
       have hsl : ((X.take j).flatMap (stepE P z o) ++ stepE P z t x).length ≤ 1000000 := by
        rw [List.length_append, stepE_len]; have := HPL.out.2.2; omega
       have hYV2 := G.mulV HPL.out.1 (G.pw_vec hzV (t + 1))
       have HY := Lib.hid (And.intro hYV (And.intro hYn (And.intro hsl hYV2))); clear hYV hYn hsl hYV2
       have hcur := hgi.cell HC.out.2.2 (by simp)
       go_wp2_with (first | (at_builtin; refine wp_app_take rfl _ _ rfl w.heap.size A (Rest wo.heap.size F (j + 1) X.length) Fx wr v6 _ _ Y rfl hA hxv hH.out.2.1 hH.out.2.2.1 hH.out.2.2.2.1 rfl rfl HY.out.2.2.1 hgwr.size ?_; intro v7 w7 hA7 hg7 hob7; have hcur7 := grown_own hgi hg7 (fun b hb hlt => by have := hH.out.2.2.2.2 b hb; omega); have hcu7 := hcur7.cell HC.out.2.2 (by simp)) | fail)
       have hxv7 : Ints Any w7 (.slice ay Y.length cy) Y := Ints.mono hxv.ints (fun b hb hlt => ⟨trivial, Nat.lt_of_lt_of_le hlt hg7.size, hg7.block b hlt (fun e => by
        obtain ⟨a1, _⟩ := hH.out.2.1 b hb hlt
        exact (hA.avoids b e.symm).1 a1)⟩)
       have hgw7 := grown_trans hgw hcur7
       refine Calls.mono (multiply_ok P hP w7 _ _ _ Y z Sp Any Su (hp.ext hgw7) hxv7 (Ints.ext hui hgw7) HY.out.1 hzV) ?_
       rintro eC wC ⟨vC, rfl, hgC, hOC⟩
       rw [HY.out.2.1] at hOC
       have hOC2 : OwnIn (fun b => w7.heap.size ≤ b ∧ b < wC.heap.size) wC vC (rMul P x (pw P z (t + 1))) := OwnIn.of hOC (by rw [HY.out.2.2.2.1]; omega) (fun j h1 h2 => ⟨h1, h2⟩)
       have hA8 : SlOA OwnIn 24 w.heap.size (fun b => Rest wo.heap.size F (j + 1) X.length b ∨ (w7.heap.size ≤ b ∧ b < wC.heap.size)) wC v7 ((X.take j).flatMap (stepE P z o) ++ stepE P z (t + 1) x) := by
        rw [stepE_succ, ← List.append_assoc, ← hH.out.1]
        exact (hA7.more (fun b hb => hb.elim .inl (fun h => .inr h.1))).ext rdOwn hgC
       have hH2 : Hid ((∀ b, (w7.heap.size ≤ b ∧ b < wC.heap.size) → b < wC.heap.size → (Rest wo.heap.size F (j + 1) X.length b ∨ (w7.heap.size ≤ b ∧ b < wC.heap.size)) ∧ w.heap.size ≤ b) ∧ (∀ b, Rest wo.heap.size F (j + 1) X.length b → (Rest wo.heap.size F (j + 1) X.length b ∨ (w7.heap.size ≤ b ∧ b < wC.heap.size)) ∧ ¬ (w7.heap.size ≤ b ∧ b < wC.heap.size)) ∧
         (∀ b, Rest wo.heap.size F (j + 1) X.length b ∨ (w7.heap.size ≤ b ∧ b < wC.heap.size) → b < wC.heap.size) ∧ ∀ b, v7.ownBlock = some b → wo.heap.size ≤ b) := by
        refine Lib.hid ⟨fun b hb _ => ⟨.inr hb, by have := hgw7.size; omega⟩, fun b hb => ⟨.inl hb, fun h => by have := hb.1; have := hcur7.size; omega⟩, fun b hb => ?_, fun b hb => ?_⟩
        ·rcases hb with h | h
         ·have := h.1; have := hcur7.size; have := hgC.size; omega
         ·exact h.2
        ·rcases hob7 with h | h
         ·exact hH.out.2.2.2.2 b (by rw [← h]; exact hb)
         ·have := h b hb; have := hgi.size; omega
       clear hA hH hxv hA7 hob7 hOC hxv7 hcu7 hcur
       go_wp2
       go_roundw
       case rel => exact ⟨t + 1, v7, _, _, _, rfl, by go_num, by omega, grown_trans hcur7 hgC, hOC2, hA8, Lib.hid ⟨rfl, hH2.out⟩⟩
       case measure => simp [intOf]; omega
      ·have hte : t = o := by omega
       subst hte
       have hst := flatMap_take_succ X (stepE P z t) j hjl
       rw [← HXJ.out] at hst
       have hA9 : SlOA OwnIn 24 w.heap.size (Rest wo.heap.size F (j + 1) X.length) wr v6 ((X.take (j + 1)).flatMap (stepE P z t)) := by
        rw [hst]; exact hA.less (fun b hb => (hH.out.2.2.1 b hb).1)
       have hob9 := Lib.hid hH.out.2.2.2.2
       clear hst hA hH hxv
       go_wp2
       go_roundw
       case rel => exact ⟨j + 1, v6, rfl, by go_num, by omega, hgi, hA9, hob9⟩
       case measure => simp [intOf]; omega
    ·have hje : j = X.length := by omega
     subst hje
     have hO9 : RowsO w.heap.size wr v5 (elsP P U (k + 1)) := by
      rw [HX.out.1]
      have := hA.o
      rw [List.take_length] at this
      exact this
     clear hA hob
     go_wp2
     go_roundw
     case rel => exact ⟨k + 1, v5, rfl, by go_num, by omega, grown_trans hg hgm, hO9⟩
     case measure => simp [intOf]; omega
  ·have hke : k = U.length := by omega
   subst hke
   have hne : 0 < (elsP P U U.length).length := by omega
   have hl9 : (elsP P U U.length).length ≤ 1000000 := by omega
   obtain ⟨az, capz, hvz, _, _⟩ := SlD.shape (hO.toD (by omega))
   have HN := Lib.hid (And.intro hne hl9); clear hXl0 hX729 hne hl9
   subst hvz
   go_wp2_with fail
   refine Calls.mono (sortRows_ok wr _ (elsP P U U.length) w.heap.size hO HN.out.1 HN.out.2) ?_
   rintro eS wS ⟨rfl, hOS, hgS⟩
   have hgwS : Ext w wS := grown_own (grown_trans hg03 hg) hgS (fun b hb hlt => by have := (hO.lt b hb).1; omega)
   clear hO
   go_wp2
   go_ret
   exact ⟨_, rfl, hgwS, hOS⟩
end Go.Proofs.YtdcobapnlpeaaaaGreat
namespace Go.Proofs.YtdcobapnlpeaaaaGreat
open Go.RowKit
theorem elemsIn_len {P : Pr} (hP : Valid P) (H : List Int → Prop) : (elemsIn P H).length ≤ 729 := by
 have h1 := elemsTo_len P H (ordP P).toNat
 rw [elemsTo_all] at h1
 have h2 : ordP P ≤ 729 := hP.le729
 omega
end Go.Proofs.YtdcobapnlpeaaaaGreat
namespace Go.Proofs.YtdcobapnlpeaaaaGreat
open Go.RowKit
def inTo (E : List (List Int)) (K : List Int → Prop) (k : Nat) (x : List Int) : Prop := x ∈ E.take k ∧ K x
theorem inTo_succ {E : List (List Int)} {K : List Int → Prop} {k : Nat} (hk : k < E.length) (hK : K (gt E k)) : (fun x => inTo E K k x ∨ x ∈ [gt E k]) = inTo E K (k + 1) := by
 funext x
 unfold inTo
 rw [take_succ_gt E k hk]
 simp only [List.mem_append, List.mem_singleton, eq_iff_iff]
 constructor
 ·rintro (⟨h1, h2⟩ | h)
  ·exact ⟨.inl h1, h2⟩
  ·exact ⟨.inr h, by rw [h]; exact hK⟩
 ·rintro ⟨h | h, h2⟩
  ·exact .inl ⟨h, h2⟩
  ·exact .inr h
theorem inTo_skip {E : List (List Int)} {K : List Int → Prop} {k : Nat} (hk : k < E.length) (hK : ¬ K (gt E k)) : inTo E K (k + 1) = inTo E K k := by
 funext x
 unfold inTo
 rw [take_succ_gt E k hk]
 simp only [List.mem_append, List.mem_singleton, eq_iff_iff]
 constructor
 ·rintro ⟨h | h, h2⟩
  ·exact ⟨h, h2⟩
  ·exact absurd (by rw [← h]; exact h2) hK
 ·rintro ⟨h, h2⟩
  exact ⟨.inl h, h2⟩
theorem inTo_zero (E : List (List Int)) (K : List Int → Prop) : inTo E K 0 = fun _ => False := by
 funext x; unfold inTo; simp
theorem inTo_all {P : Pr} {H K : List Int → Prop} (hP : Valid P) (S : Sub P H) (E : List (List Int)) (hE : E = elemsIn P H) : inTo E K E.length = fun x => H x ∧ K x := by
 funext x
 unfold inTo
 rw [List.take_length, hE, elemsIn_mem hP S.vec]
theorem rows2One {S S' : Nat → Prop} {w : World} {u : Value} {X : List Int} (h : Ints S w u X) (hS : ∀ k, S k → k < w.heap.size → S' k) (hn : S' w.heap.size) : Rows2 S' (w.alloc (.cells #[u] 24)) (.slice (some ⟨w.heap.size, 0, none⟩) 1 1) [X] := by
 refine ⟨_, 1, rfl, ⟨by simp, by simp, fun h => by cases h⟩, fun i hi => ?_⟩
 have : i = 0 := by simpa using hi
 subst this
 have hg : Ext w (w.alloc (.cells #[u] 24)) := World.grownBy_alloc _ _ _
 refine ⟨w.heap.size, 0, u, rfl, hn, by simp, by rw [World.cell?_alloc_at _ _ _ _ rfl]; rfl, ?_⟩
 exact Ints.mono h (fun k hk hlt => ⟨hS k hk hlt, Nat.lt_of_lt_of_le hlt hg.size, hg.block k hlt (by simp)⟩)
set_option maxRecDepth 100000 in
set_option maxHeartbeats 8000000 in
theorem meet_ok (P : Pr) (G : Grp P) (w : World) (p uv vv : Value) (H K : List Int → Prop) (Sp Su Sv : Nat → Prop) (S : Sub P H) (R : Sub P K) (hp : PresP Sp w p P) (hu : Rows2 Su w uv (cseq P H)) (hv : Rows2 Sv w vv (cseq P K)) :
  Calls Tryz.prog 174 #[p, uv, vv] w (Ret w fun w' v => RowsO w.heap.size w' v (cseq P (fun x => H x ∧ K x))) := by
 have hP := G.v
 have hn6 := hP.n6
 obtain ⟨pb, po, rfl⟩ := hp.shape
 have hlH := G.cseq_len S
 have hlK := G.cseq_len R
 have hsH := (G.seq_facts S).1
 have hsK := (G.seq_facts R).1
 obtain ⟨au, capu, rfl, _, _⟩ := Sl.shape hu
 obtain ⟨av, capv, rfl, _, _⟩ := Sl.shape hv
 have hsel : ∃ (H1 K1 : List Int → Prop) (u1 v1 : Value), Sub P H1 ∧ Sub P K1 ∧ Rows2 Any w u1 (cseq P H1) ∧ Rows2 Any w v1 (cseq P K1) ∧ (fun x => H1 x ∧ K1 x) = (fun x => H x ∧ K x) ∧
   ((prodU P (cseq P K) (cseq P K).length < prodU P (cseq P H) (cseq P H).length ∧ u1 = .slice av (cseq P K).length capv ∧ v1 = .slice au (cseq P H).length capu) ∨
    (¬ prodU P (cseq P K) (cseq P K).length < prodU P (cseq P H) (cseq P H).length ∧ u1 = .slice au (cseq P H).length capu ∧ v1 = .slice av (cseq P K).length capv)) := by
  have hu' := Rows2.sub hu (S' := Any) (fun _ _ _ => trivial)
  have hv' := Rows2.sub hv (S' := Any) (fun _ _ _ => trivial)
  by_cases h : prodU P (cseq P K) (cseq P K).length < prodU P (cseq P H) (cseq P H).length
  ·exact ⟨K, H, _, _, R, S, hv', hu', funext fun x => propext ⟨fun h => ⟨h.2, h.1⟩, fun h => ⟨h.2, h.1⟩⟩, .inl ⟨h, rfl, rfl⟩⟩
  ·exact ⟨H, K, _, _, S, R, hu', hv', rfl, .inr ⟨h, rfl, rfl⟩⟩
 obtain ⟨H1, K1, u1, v1, S1, R1, hu1, hv1, hHK, hsel⟩ := hsel
 have hlH1 := G.cseq_len S1
 have hE := G.els_sorted S1
 have hs1 := (G.seq_facts S1).1
 have HX := Lib.hid (And.intro hsH (And.intro hsK (And.intro hHK (And.intro hE hs1)))); clear hsH hsK hHK hE hs1
 obtain ⟨E, hEe⟩ : ∃ E, E = elemsIn P H1 := ⟨_, rfl⟩
 have hEl : E.length ≤ 729 := by rw [hEe]; exact elemsIn_len hP H1
 have HE := Lib.hid hEe; clear hEe
 go_enter Tryz.func174, Tryz.ntmps174
 go_wp2_with fail
 refine Calls.mono (sizeOf_ok P hP w _ _ (cseq P H) Sp Su hp hu HX.out.1 (by omega)) ?_
 rintro eA wA ⟨vA, rfl, hgA, rfl⟩
 go_wp2_with fail
 refine Calls.mono (sizeOf_ok P hP wA _ _ (cseq P K) Sp Sv (hp.ext hgA) (Rows2.ext hv hgA) HX.out.2.1 (by omega)) ?_
 rintro eB wB ⟨vB, rfl, hgB, rfl⟩
 have hgw := grown_trans hgA hgB
 obtain ⟨m1, hm1⟩ : ∃ m1, m1 = prodU P (cseq P H) (cseq P H).length := ⟨_, rfl⟩
 obtain ⟨m2, hm2⟩ : ∃ m2, m2 = prodU P (cseq P K) (cseq P K).length := ⟨_, rfl⟩
 rw [← hm1, ← hm2] at hsel ⊢
 clear hm1 hm2 hu hv
 rcases hsel with ⟨hc, rfl, rfl⟩ | ⟨hc, rfl, rfl⟩
 all_goals
  go_wp2_with fail
  clear hc
  refine Calls.mono (newSequence_ok P wB _ Sp (fun _ => False) (hp.ext hgw) hn6) ?_
  rintro e1 w1 ⟨v1, rfl, hg1, sb, gb, rfl, hs⟩
  have hgb := hs.tab.lt
  have hsb := hs.sB
  have hsl := hs.slt
  have hgw1 := grown_trans hgw hg1
  go_wp2_with fail
  refine Calls.mono (elementsOf_ok P G w1 _ _ (cseq P H1) Sp Any (hp.ext hgw1) (Rows2.ext hu1 hgw1) HX.out.2.2.2.2 (by omega)) ?_
  rintro e2 w2 ⟨v2, rfl, hg2, hO⟩
  rw [HX.out.2.2.2.1, ← HE.out] at hO
  have hgw2 := grown_trans hgw1 hg2
  have hER := RowsD.rows (SlO.toD hO (by omega))
  obtain ⟨ae, cape, hve, _, _⟩ := Sl.shape hER
  subst hve
  have hER2 : Rows2 (fun j => w1.heap.size ≤ j) w2 (.slice ae E.length cape) E := hER
  have hs2 := hs.ext hg2
  have hwB := hgw.size
  clear hO hER hs
  go_wp2
  go_loopw [25] (fun iv wr => ∃ (k : Nat) (b : List (List Int)), iv = .int .i64 k ∧ k ≤ E.length ∧ Ext w wr ∧ SeqAt wB.heap.size (fun _ => False) wr sb gb (.pointer (some ⟨pb, po, none⟩)) P.orders.length b ∧ Rows2 (fun j => w1.heap.size ≤ j) wr (.slice ae E.length cape) E ∧ Hid (Ind P (genP P (inTo E K1 k)) (gt b))) (fun iv _ => E.length - (intOf iv).toNat)
  case atStart => exact ⟨0, _, rfl, by omega, hgw2, hs2, hER2, Lib.hid (by rw [inTo_zero, G.genP_none]; exact G.ind_one)⟩
  case round =>
   clear hs2 hER2
   obtain ⟨k, b, rfl, hk, hg, hs, hER, hI⟩ := hrel
   by_cases hlt : k < E.length
   ·have hlt' : (k : Int) < E.length := by omega
    obtain ⟨bb, off, a2, cap2, rfl, _, _, hc, hr⟩ := Rows2.at hER k hlt
    have hXV : Vec P.orders (gt E k) := S1.vec _ ((elemsIn_mem hP S1.vec _).1 (by rw [← HE.out]; exact gtMem hlt))
    have HXV := Lib.hid hXV; clear hXV
    go_wp2_with fail
    clear hc
    refine Calls.mono (isMember_ok P G wr _ _ _ K1 (gt E k) Sp Any _ R1 (hp.ext hg) (Rows2.ext hv1 hg) hr HXV.out) ?_
    rintro e3 w3 ⟨v3, rfl, hg3, r, rfl, hr3⟩
    have hg03 := grown_trans hg hg3
    cases r with
    | false =>
     have hI2 : Hid (Ind P (genP P (inTo E K1 (k + 1))) (gt b)) := Lib.hid (by rw [inTo_skip hlt (fun h => by have := hr3.2 h; cases this)]; exact hI.out)
     have hs3 := hs.ext hg3
     have hER3 := Rows2.ext hER hg3
     clear hr3
     go_wp2
     go_roundw
     case rel => exact ⟨k + 1, b, by go_num, by omega, hg03, hs3, hER3, hI2⟩
     case measure => simp [intOf]; omega
    | true =>
     have hin := inTo_succ hlt (hr3.1 rfl)
     have HIN := Lib.hid hin; clear hin hr3
     have hga : Ext w3 (w3.alloc (.cells #[.slice a2 (gt E k).length cap2] 24)) := World.grownBy_alloc _ _ _
     have hg3s := hg3.size
     have hws := hs.slt
     have hwt := hs.tab.lt
     have hlit := rows2One (S' := fun j => ¬ (j = gb ∨ j = sb)) (Ints.ext hr hg3) (fun j hj hlt => by omega) (by omega)
     have hgwa := grown_trans hg03 hga
     have hadd := add_ok P G (w3.alloc (.cells #[.slice a2 (gt E k).length cap2] 24)) sb gb wB.heap.size _ _ [gt E k] b _ (hp.mono (fun j _ hj => ⟨by omega, Nat.lt_of_lt_of_le hj hgwa.size, hgwa.block j hj (by simp)⟩)) ((hs.ext hg3).ext hga) hI.out (fun x hx => by rw [List.mem_singleton.1 hx]; exact HXV.out) hlit (by simp)
     have HA := Lib.hid hadd; clear hadd
     go_wp2_with fail
     refine Calls.mono HA.out ?_
     rintro e4 w4 ⟨b4, g4, rfl, hg4, hs4, hA4, _, _⟩
     rw [genP_or, HIN.out] at hA4
     have hgw4 : Ext w w4 := grown_own hgwa hg4 (fun j hj hlt => by cases hj; omega)
     have hER4 : Rows2 (fun j => w1.heap.size ≤ j) w4 (.slice (some ⟨bb, off, none⟩) E.length cape) E := Rows2.mono hER (fun j hj hlt => ⟨hj, Nat.lt_of_lt_of_le hlt (Nat.le_trans hg3.size (Nat.le_trans hga.size hg4.size)), (hg4.block j (Nat.lt_of_lt_of_le hlt (Nat.le_trans hg3.size hga.size)) (fun e => by cases e; omega)).trans ((hga.block j (Nat.lt_of_lt_of_le hlt hg3.size) (by simp)).trans (hg3.block j hlt (by simp)))⟩)
     have HA4 := Lib.hid hA4; clear hA4 HA hlit
     go_wp2
     go_roundw
     case rel => exact ⟨k + 1, b4, by go_num, by omega, hgw4, hs4, hER4, HA4⟩
     case measure => simp [intOf]; omega
   ·have hke : k = E.length := by omega
    have hI2 : Hid (Ind P (fun x => H x ∧ K x) (gt b)) := Lib.hid (by
     have h := hI.out
     rw [hke, inTo_all hP S1 E HE.out, genP_self (S1.and R1), HX.out.2.2.1] at h
     exact h)
    subst hke
    clear hI
    go_wp2_with fail
    refine Calls.mono (canonical_ok P G wr sb gb wB.heap.size _ b _ _ _ (hp.ext hg) hs hI2.out) ?_
    rintro e5 w5 ⟨v5, rfl, hg5, hO5⟩
    go_wp2
    go_ret
    exact ⟨_, rfl, grown_trans hg hg5, hO5.weak hg.size⟩
end Go.Proofs.YtdcobapnlpeaaaaGreat
