/-
  Lists of lists that a call builds by append: each row in blocks of its own.
  spec.IsPresentation; orders of groups.
  Numbers of elements: impl.numberOf, spec.l10Number, impl.elementAt, spec.l10At, spec.l10One.
  impl.allElements, impl.generators.
  Lists of lists that a call builds by append, none of whose blocks is in A (a map that is written beside them).
  The reference's inverse, conjugate and power: spec.l10From, l10Inv, l10Conj, l08Repeat.
  Plain: a level without a fault makes the tail before it a group; so the two sides' words 'consistent' agree, and in a consistent presentation the two products.
  Plain: the two sides' inverses and conjugates in a consistent presentation.
  Plain: the steps of sifting on both sides.
  cmp.Compare at int64 and slices.Compare at []int64.
  The order of slices.Compare is a total order on lists of integers. Plain.
  Drawing: spec.l07Vectors, l10Some.
  spec.IsElement.
  Drawing: spec.DrawConjugatingElement (printed by gen_drawcj.py).
  The library's sort at [][]int64, laid from the shelf.
  A row that the call has built, sorted by the library: any elements of one cell. (After the library's Sort/OwnSortedInts, at a general reading.)
  SubgroupConjugator on both sides.
  Plain: what the law of normalizers needs besides.
  impl.areElements.
  impl.Multiply, Inverse, Commutator on elements (printed by gen_elw.py).
  Orders of elements and residues: impl.orderOfElement, impl.residue; the reference's power: spec.l10Pow.
  The map of numbers seen, of impl.classOf: a set of integers.
  Finding an element: slices.BinarySearchFunc with slices.Compare, slices.IndexFunc, impl.classNumber.
  Plain: a search in a sorted row finds just its members.
  The reference's classes: spec.l18Code, l18Marks, l18Classes, ClassSizes.
-/
import Derived.Test.YtdcobapnlpeaaaaGreatK9
import Derived.Test.YtdcobapnlpeaaaaGreatK1
import Derived.Test.YtdcobapnlpeaaaaGreatK2
import Derived.Test.YtdcobapnlpeaaaaGreatK3
import Derived.Test.YtdcobapnlpeaaaaGreatK4
import Derived.Test.YtdcobapnlpeaaaaGreatK5
import Derived.Test.YtdcobapnlpeaaaaGreatK6
import Derived.Test.YtdcobapnlpeaaaaGreatK7
import Derived.Test.YtdcobapnlpeaaaaGreatK8
import Derived.Laws.BitsAllLaws
import Derived.Maps.OwnSet
import Derived.Maps.StringElems
import Derived.StringKeys
import Derived.Deep.RegionHeld3
import Derived.BigRegion
import Derived.Shelf.SlSortCmp.NoneTotal
import Derived.Sort.OwnSortedInts
namespace Go.Proofs.YtdcobapnlpeaaaaGreat
open Go.RowKit
theorem SlD.mono {α : Type} [Inhabited α] {El : (Nat → Prop) → World → Value → α → Prop} (hEl : RdOk El) {F F' : Nat → Prop} {w w' : World} {v : Value} {xs : List α} (h : SlD El F w v xs)
  (hb : ∀ k, F k → k < w.heap.size → F' k ∧ k < w'.heap.size ∧ w'.heap[k]? = w.heap[k]?) : SlD El F' w' v xs := by
 obtain ⟨G, H, h1, h2, h3, a, cap, hv, hl, hc⟩ := h
 refine ⟨fun i k => G i k ∧ k < w.heap.size, fun k => H k ∧ k < w.heap.size, fun k hk => (hb k (h1 k hk.1) hk.2).1, fun i k hi hk => ⟨(hb k (h2 i k hi hk.1).1 hk.2).1, fun h => (h2 i k hi hk.1).2 h.1⟩,
  fun i j k hi hj hk hk' => h3 i j k hi hj hk.1 hk'.1, a, cap, hv, hl, fun i hi => ?_⟩
 obtain ⟨b, off, u, e1, e2, e3, e4, e5⟩ := hc i hi
 obtain ⟨f1, f2, f3⟩ := hb b (h1 b e2) e3
 exact ⟨b, off, u, e1, ⟨e2, e3⟩, f2, (World.cell?_of_block (w := w) f3).trans e4, hEl.mono e5 (fun k hk hlt => ⟨⟨hk, hlt⟩, (hb k (h2 i k hi hk).1 hlt).2⟩)⟩
theorem rdRows : RdOk (fun F w u (x : List (List Int)) => RowsD F w u x) :=
 ⟨fun h hb => SlD.mono rdOwn h hb, fun h => by obtain ⟨_, _, _, _, _, a, cap, rfl, _⟩ := h; rfl⟩
end Go.Proofs.YtdcobapnlpeaaaaGreat
namespace Go.Proofs.YtdcobapnlpeaaaaGreat
open Go.RowKit
set_option maxHeartbeats 400000 in
theorem orderOf_ok (w : World) (p : Value) (P : Pr) (S : Nat → Prop) (hP : Valid P) (hp : PresP S w p P) :
  Calls Tryz.prog 110 #[p] w fun e w' => e = .returned (.int .i64 (ordP P)) ∧ w = w' := by
 obtain ⟨pb, po, rfl⟩ := hp.shape
 obtain ⟨ao, capo, hco, hoi⟩ := hp.ordAt
 have hn6 := hP.n6
 go_enter Tryz.func110, Tryz.ntmps110
 go_wp2
 go_loop [3, 11] (fun pr i => ∃ k : Nat, i = .int .i64 k ∧ pr = .int .i64 (prodTo P.orders k) ∧ k ≤ P.orders.length) (fun _ i => P.orders.length - (intOf i).toNat)
 case atStart => exact ⟨0, rfl, rfl, by omega⟩
 case round =>
  obtain ⟨k, rfl, rfl, hk⟩ := hrel
  by_cases hlt : k < P.orders.length
  ·obtain ⟨b, off, rfl, _, _, hc⟩ := Ints.at hoi k hlt
   have h1 := hP.pre (k + 1) hlt
   have h0 := prodTo_pos (l := P.orders) (k + 1) (fun i hi => hP.pos i (by omega))
   have hm0 : 0 ≤ prodTo P.orders k * gt P.orders k := by simp only [prodTo] at h0; omega
   have hm1 : prodTo P.orders k * gt P.orders k ≤ 729 := h1
   clear h0 h1
   go_wp2
   go_round
   case rel => exact ⟨k + 1, by go_num, rfl, by omega⟩
   case measure => simp [intOf]; omega
  ·have hke : k = P.orders.length := by omega
   subst hke
   go_wp2
   go_ret
   exact ⟨rfl, rfl⟩
set_option maxHeartbeats 400000 in
theorem l10Order_ok (w : World) (pv : Value) (P : Pr) (S : Nat → Prop) (hP : Valid P) (hp : PresV S w pv P) :
  Calls Tryz.prog 105 #[pv] w (Ret w fun _ v => v = .int .i64 (ordP P)) := by
 obtain ⟨vo, vp, vc, rfl, h3⟩ := hp
 have hB := PresP.box h3 28
 obtain ⟨ao, capo, hco, hoi⟩ := hB.ordAt
 have hn6 := hP.n6
 go_enter Tryz.func105, Tryz.ntmps105
 go_wp2
 go_loop [3, 4] (fun pr i => ∃ k : Nat, i = .int .i64 k ∧ pr = .int .i64 (prodTo P.orders k) ∧ k ≤ P.orders.length) (fun _ i => P.orders.length - (intOf i).toNat)
 case atStart => exact ⟨0, rfl, rfl, by omega⟩
 case round =>
  obtain ⟨k, rfl, rfl, hk⟩ := hrel
  by_cases hlt : k < P.orders.length
  ·obtain ⟨b, off, rfl, _, _, hc⟩ := Ints.at hoi k hlt
   have h1 := hP.pre (k + 1) hlt
   have h0 := prodTo_pos (l := P.orders) (k + 1) (fun i hi => hP.pos i (by omega))
   have hm0 : 0 ≤ prodTo P.orders k * gt P.orders k := by simp only [prodTo] at h0; omega
   have hm1 : prodTo P.orders k * gt P.orders k ≤ 729 := h1
   clear h0 h1
   go_wp2
   go_round
   case rel => exact ⟨k + 1, by go_num, rfl, by omega⟩
   case measure => simp [intOf]; omega
  ·have hke : k = P.orders.length := by omega
   subst hke
   go_wp2
   go_ret
   exact ⟨_, rfl, World.grownBy_alloc _ _ _, rfl⟩
end Go.Proofs.YtdcobapnlpeaaaaGreat
namespace Go.Proofs.YtdcobapnlpeaaaaGreat
open Go.RowKit
set_option maxHeartbeats 400000 in
theorem numberOf_ok (P : Pr) (hP : Valid P) (w : World) (p x : Value) (X : List Int) (Sp Sx : Nat → Prop) (hp : PresP Sp w p P) (hx : Ints Sx w x X) (hX : Vec P.orders X) :
  Calls Tryz.prog 177 #[p, x] w fun e w' => e = .returned (.int .i64 (num P X)) ∧ w = w' := by
 have hn6 := hP.n6
 have hlX : X.length ≤ P.orders.length ∧ P.orders.length ≤ X.length := by rw [hX.1]; omega
 obtain ⟨pb, po, rfl⟩ := hp.shape
 obtain ⟨ax, capx, rfl, _, _⟩ := hx.shape
 obtain ⟨ao, capo, hco, hoi⟩ := hp.ordAt
 go_enter Tryz.func177, Tryz.ntmps177
 go_wp2
 go_loop [5, 10] (fun nv i => ∃ k : Nat, i = .int .i64 k ∧ nv = .int .i64 (numTo P.orders X k) ∧ k ≤ X.length) (fun _ i => X.length - (intOf i).toNat)
 case atStart => exact ⟨0, rfl, rfl, by omega⟩
 case round =>
  obtain ⟨k, rfl, rfl, hk⟩ := hrel
  by_cases hlt : k < X.length
  ·obtain ⟨b, off, rfl, _, _, hc⟩ := Ints.at hx k hlt
   obtain ⟨b2, off2, rfl, _, _, hc2⟩ := Ints.at hoi k (by omega)
   have h1 := numTo_bd hP hX (k + 1) (by omega)
   have h2 := hP.pre (k + 1) (by omega)
   have h3 := hX.2 k (by omega)
   have h4 := numTo_bd hP hX k (by omega)
   have h7 := hP.ord7 k (by omega)
   have h5 : 0 ≤ numTo P.orders X k * gt P.orders k := Int.mul_nonneg h4.1 (by omega)
   have h6 : numTo P.orders X k * gt P.orders k ≤ 729 := by simp only [numTo] at h1; omega
   have h8 : 0 ≤ gt X k := h3.1
   have h9 : gt X k ≤ 7 := by omega
   clear h1 h2 h3 h4 h7
   go_wp2
   go_round
   case rel => exact ⟨k + 1, by go_num, rfl, by omega⟩
   case measure => simp [intOf]; omega
  ·have hke : k = P.orders.length := by omega
   subst hke
   go_wp2
   go_ret
   exact ⟨rfl, rfl⟩
set_option maxHeartbeats 400000 in
theorem l10One_ok (P : Pr) (hP : Valid P) (w : World) (pv : Value) (Sp : Nat → Prop) (hp : PresV Sp w pv P) :
  Calls Tryz.prog 212 #[pv] w (Ret w fun w' v => Own w.heap.size w' v (zeros P.orders.length)) := by
 obtain ⟨vo, vp, vc, rfl, h3⟩ := hp
 have hn6 := hP.n6
 have hB := PresP.box h3 28
 obtain ⟨ao, capo, hco, hoi⟩ := hB.ordAt
 go_enter Tryz.func212, Tryz.ntmps212
 go_wp2_with (at_make; refine wp_make_ints rfl _ _ rfl (w.heap.size + 1) P.orders.length (w.heap.size + 1) (by simp) _ rfl rfl rfl (by omega) (by simp) ?_; intro w1 ho1 hg1 _)
 go_ret
 exact ⟨_, rfl, grown_trans (World.grownBy_alloc _ _ _) hg1, ho1.weak (by omega)⟩
set_option maxHeartbeats 1000000 in
theorem elementAt_ok (P : Pr) (hP : Valid P) (w : World) (p : Value) (m : Int) (Sp : Nat → Prop) (hp : PresP Sp w p P) (hm : 0 ≤ m) (hm2 : m ≤ 1000000000) :
  Calls Tryz.prog 147 #[p, .int .i64 m] w (Ret w fun w' v => Own w.heap.size w' v (elAt P m)) := by
 have hn6 := hP.n6
 obtain ⟨pb, po, rfl⟩ := hp.shape
 obtain ⟨ao, capo, hco0, hoi⟩ := hp.ordAt
 have hco := hco0
 go_enter Tryz.func147, Tryz.ntmps147
 go_wp2_with (at_make; refine wp_make_ints rfl _ _ rfl w.heap.size P.orders.length w.heap.size rfl _ rfl rfl rfl (by omega) (by simp) ?_; intro w1 ho1 hg1 _)
 clear hco
 have HCO := Lib.hid hco0; clear hco0
 go_loopw [1, 6] (fun mv i wr => ∃ k : Nat, i = .int .i64 ((P.orders.length : Int) - 1 - k) ∧ mv = .int .i64 (elTo P.orders P.orders.length m k).2 ∧ k ≤ P.orders.length ∧ Ext w wr ∧
   Own w.heap.size wr (.slice (some ⟨w.heap.size, 0, none⟩) P.orders.length P.orders.length) (elTo P.orders P.orders.length m k).1) (fun _ i _ => (intOf i + 1).toNat)
 case atStart => exact ⟨0, by simp, rfl, by omega, hg1, ho1⟩
 case round =>
  obtain ⟨k, rfl, rfl, hk, hg, hO⟩ := hrel
  obtain ⟨hv, hm0, hm1⟩ := elTo_inv hP m hm k hk
  by_cases hlt : k < P.orders.length
  ·obtain ⟨b2, off2, rfl, _, _, hc20⟩ := Ints.at hoi (P.orders.length - 1 - k) (by omega)
   have hco := hg.cell HCO.out (by simp)
   have hc2 := hg.cell hc20 (by simp)
   have ho7 := hP.ord7 (P.orders.length - 1 - k) (by omega)
   have hc := hO.cell (P.orders.length - 1 - k) (by rw [hv.1]; omega)
   have hf := hO.frozen (P.orders.length - 1 - k)
   have hsucc : elTo P.orders P.orders.length m (k + 1) = ((elTo P.orders P.orders.length m k).1.set (P.orders.length - 1 - k) ((elTo P.orders P.orders.length m k).2 % gt P.orders (P.orders.length - 1 - k)), (elTo P.orders P.orders.length m k).2 / gt P.orders (P.orders.length - 1 - k)) := rfl
   have HSC := Lib.hid hsucc; clear hsucc
   obtain ⟨hO2, hg2⟩ := hO.store (P.orders.length - 1 - k) ((elTo P.orders P.orders.length m k).2 % gt P.orders (P.orders.length - 1 - k))
   have hgx : Ext w (wr.setCell ⟨w.heap.size, P.orders.length - 1 - k, none⟩ (.int .i64 ((elTo P.orders P.orders.length m k).2 % gt P.orders (P.orders.length - 1 - k)))) := grown_own hg hg2 (fun j hj hlt => by cases hj; omega)
   have hco3 := hgx.cell HCO.out (by simp)
   have hc23 := hgx.cell hc20 (by simp)
   clear hc20
   have hidx : ((P.orders.length : Int) - 1 - k).toNat = P.orders.length - 1 - k := by omega
   generalize hi : P.orders.length - 1 - k = i at *
   generalize (elTo P.orders P.orders.length m k).1 = L at *
   generalize (elTo P.orders P.orders.length m k).2 = M at *
   have ho70 : 2 ≤ gt P.orders i := ho7.1
   have ho71 : gt P.orders i ≤ 7 := ho7.2
   have HI := Lib.hid hi; clear hi ho7
   go_wp2
   go_roundw
   case rel => exact ⟨k + 1, by congr 1; omega, by rw [HSC.out], by omega, hgx, by rw [HSC.out]; exact hO2⟩
   case measure => simp [intOf]; omega
  ·have hke : k = P.orders.length := by omega
   subst hke
   go_wp2
   go_ret
   exact ⟨_, rfl, hg, hO⟩
set_option maxHeartbeats 1000000 in
theorem l10At_ok (P : Pr) (hP : Valid P) (w : World) (pv : Value) (m : Int) (Sp : Nat → Prop) (hpv : PresV Sp w pv P) (hm : 0 ≤ m) (hm2 : m ≤ 1000000000) :
  Calls Tryz.prog 107 #[pv, .int .i64 m] w (Ret w fun w' v => Own w.heap.size w' v (elAt P m)) := by
 have hn6 := hP.n6
 obtain ⟨vo, vp, vc, rfl, h3⟩ := hpv
 have hp := PresP.box h3 28
 have hg0 : Ext w (w.alloc (.cells #[vo, vp, vc] 28)) := World.grownBy_alloc _ _ _
 obtain ⟨vo9, vp9, vc9, _, _, hc0, hc1, hc2, h39⟩ := hp.at
 obtain ⟨ao, capo, hco, hoi⟩ := hp.ordAt
 go_enter Tryz.func107, Tryz.ntmps107
 go_wp2_with fail
 have hs0 : (w.alloc (.cells #[vo, vp, vc] 28)).heap.size = w.heap.size + 1 := by simp
 have HS := Lib.hid hs0; clear hs0
 clear hc0 hc1 hc2
 have HCO := Lib.hid hco; clear hco
 generalize hw0 : w.alloc (.cells #[vo, vp, vc] 28) = w0 at *
 clear hw0
 refine Calls.mono (l10One_ok P hP w0 _ Any ⟨_, _, _, rfl, h39⟩) ?_
 rintro e1 w1 ⟨r, rfl, hg1, ho1⟩
 have hri := ho1.ints (by simp [zeros]; omega)
 obtain ⟨ar, capr, rfl, _, _⟩ := hri.shape
 have hzl : (zeros P.orders.length).length = P.orders.length := by simp [zeros]
 rw [hzl] at hri
 have ho1 : Own w0.heap.size w1 (.slice ar P.orders.length capr) (zeros P.orders.length) := by rw [hzl] at ho1; exact ho1
 simp only [hzl]
 clear hzl hri
 go_wp2
 go_loopw [1, 6] (fun mv i wr => ∃ k : Nat, i = .int .i64 ((P.orders.length : Int) - 1 - k) ∧ mv = .int .i64 (elTo P.orders P.orders.length m k).2 ∧ k ≤ P.orders.length ∧ Ext w0 wr ∧
   Own w0.heap.size wr (.slice ar P.orders.length capr) (elTo P.orders P.orders.length m k).1) (fun _ i _ => (intOf i + 1).toNat)
 case atStart => exact ⟨0, by simp, rfl, by omega, hg1, ho1⟩
 case round =>
  clear ho1
  obtain ⟨k, rfl, rfl, hk, hg, hO⟩ := hrel
  obtain ⟨hv, hm0, hm1⟩ := elTo_inv hP m hm k hk
  by_cases hlt : k < P.orders.length
  ·obtain ⟨g, capg, hfm, hgb, hgs⟩ := hO.form (by rw [hv.1]; omega)
   rw [hv.1] at hfm
   obtain ⟨rfl, _⟩ : ar = some ⟨g, 0, none⟩ ∧ capr = capg := by cases hfm; exact ⟨rfl, rfl⟩
   clear hfm
   obtain ⟨b2, off2, rfl, _, _, hc20⟩ := Ints.at hoi (P.orders.length - 1 - k) (by omega)
   have hco := hg.cell HCO.out (by simp)
   have hc2 := hg.cell hc20 (by simp)
   have ho7 := hP.ord7 (P.orders.length - 1 - k) (by omega)
   have hc := hO.cell (P.orders.length - 1 - k) (by rw [hv.1]; omega)
   have hf := hO.frozen (P.orders.length - 1 - k)
   have hsucc : elTo P.orders P.orders.length m (k + 1) = ((elTo P.orders P.orders.length m k).1.set (P.orders.length - 1 - k) ((elTo P.orders P.orders.length m k).2 % gt P.orders (P.orders.length - 1 - k)), (elTo P.orders P.orders.length m k).2 / gt P.orders (P.orders.length - 1 - k)) := rfl
   have HSC := Lib.hid hsucc; clear hsucc
   obtain ⟨hO2, hg2⟩ := hO.store (P.orders.length - 1 - k) ((elTo P.orders P.orders.length m k).2 % gt P.orders (P.orders.length - 1 - k))
   have hgx : Ext w0 (wr.setCell ⟨g, P.orders.length - 1 - k, none⟩ (.int .i64 ((elTo P.orders P.orders.length m k).2 % gt P.orders (P.orders.length - 1 - k)))) := grown_own hg hg2 (fun j hj hlt => by cases hj; omega)
   have hco3 := hgx.cell HCO.out (by simp)
   have hc23 := hgx.cell hc20 (by simp)
   clear hc20
   have hidx : ((P.orders.length : Int) - 1 - k).toNat = P.orders.length - 1 - k := by omega
   generalize hi : P.orders.length - 1 - k = i at *
   generalize (elTo P.orders P.orders.length m k).1 = L at *
   generalize (elTo P.orders P.orders.length m k).2 = M at *
   have ho70 : 2 ≤ gt P.orders i := ho7.1
   have ho71 : gt P.orders i ≤ 7 := ho7.2
   have HI := Lib.hid hi; clear hi ho7
   go_wp2
   go_roundw
   case rel => exact ⟨k + 1, by congr 1; omega, by rw [HSC.out], by omega, hgx, by rw [HSC.out]; exact hO2⟩
   case measure => simp [intOf]; omega
  ·have hke : k = P.orders.length := by omega
   subst hke
   go_wp2
   go_ret
   exact ⟨_, rfl, grown_trans hg0 hg, hO.weak (by have := HS.out; omega)⟩
end Go.Proofs.YtdcobapnlpeaaaaGreat
namespace Go.Proofs.YtdcobapnlpeaaaaGreat
open Go.RowKit
def allEl (P : Pr) : List (List Int) := (List.range (ordP P).toNat).map (fun k : Nat => elAt P (k : Int))
theorem range_map_succ {α : Type} (f : Nat → α) (k : Nat) : (List.range (k + 1)).map f = (List.range k).map f ++ [f k] := by
 rw [List.range_succ, List.map_append]; rfl
set_option maxHeartbeats 400000 in
theorem allElements_ok (P : Pr) (hP : Valid P) (w : World) (p : Value) (Sp : Nat → Prop) (hp : PresP Sp w p P) :
  Calls Tryz.prog 99 #[p] w (Ret w fun w' v => RowsO w.heap.size w' v (allEl P)) := by
 have h729 : ordP P ≤ 729 := hP.le729
 have hpos := hP.ordP_pos
 go_enter Tryz.func99, Tryz.ntmps99
 go_wp2_with (go_at_call 110; refine (orderOf_ok _ _ P Sp hP hp).mono ?_; rintro e1 w1 ⟨rfl, rfl⟩)
 go_loopw [3, 7] (fun v i wr => ∃ k : Nat, i = .int .i64 k ∧ k ≤ (ordP P).toNat ∧ Ext w wr ∧ RowsO w.heap.size wr v ((List.range k).map (fun k : Nat => elAt P (k : Int)))) (fun _ i _ => (ordP P).toNat - (intOf i).toNat)
 case atStart => exact ⟨0, rfl, by omega, Ext.refl _, SlO.nil _ _ _ _⟩
 case round =>
  obtain ⟨k, rfl, hk, hg, hO⟩ := hrel
  by_cases hlt : (k : Int) < ordP P
  ·go_wp2_with fail
   refine Calls.mono (elementAt_ok P hP wr p k Sp (hp.ext hg) (by omega) (by omega)) ?_
   rintro e2 w2 ⟨r, rfl, hg2, hR⟩
   have hv := elAt_vec hP (k : Int) (by omega)
   have hRi : OwnIn (From wr.heap.size) w2 r (elAt P k) := OwnIn.of hR (by rw [hv.1]; have := hP.n6; omega) (fun j hj _ => hj)
   clear hv
   obtain ⟨ar, capr, rfl, _, _⟩ := hRi.ints.shape
   go_wp2_with (at_builtin; go_must (refine wp_app_row rfl _ _ rfl w.heap.size wr w2 _ _ _ (elAt P k) rfl hO hg2 hRi rfl rfl (by simp; omega) hg.size ?_); intro v3 w3 hO3 hg3 hg4)
   have hgx := hO.extw hg (Nat.le_refl _) hg3
   rw [← range_map_succ (fun k : Nat => elAt P (k : Int))] at hO3
   go_roundw
   case rel => exact ⟨k + 1, by go_num, by omega, hgx, hO3⟩
   case measure => simp [intOf]; omega
  ·have hke : k = (ordP P).toNat := by omega
   subst hke
   go_wp2
   go_ret
   exact ⟨_, rfl, hg, hO⟩
def gensOf (n : Nat) : List (List Int) := (List.range n).map (fun k : Nat => unitV n k)
set_option maxHeartbeats 400000 in
theorem generators_ok (P : Pr) (hP : Valid P) (w : World) (p : Value) (Sp : Nat → Prop) (hp : PresP Sp w p P) :
  Calls Tryz.prog 168 #[p] w (Ret w fun w' v => RowsO w.heap.size w' v (gensOf P.orders.length)) := by
 have hn6 := hP.n6
 obtain ⟨pb, po, rfl⟩ := hp.shape
 obtain ⟨ao, capo, hco0, hoi⟩ := hp.ordAt
 have hco := hco0
 go_enter Tryz.func168, Tryz.ntmps168
 go_wp2
 clear hco
 have HCO := Lib.hid hco0; clear hco0
 go_loopw [3, 10] (fun v i wr => ∃ k : Nat, i = .int .i64 k ∧ k ≤ P.orders.length ∧ Ext w wr ∧ RowsO w.heap.size wr v ((List.range k).map (fun k : Nat => unitV P.orders.length k))) (fun _ i _ => P.orders.length - (intOf i).toNat)
 case atStart => exact ⟨0, rfl, by omega, Ext.refl _, SlO.nil _ _ _ _⟩
 case round =>
  obtain ⟨k, rfl, hk, hg, hO⟩ := hrel
  by_cases hlt : k < P.orders.length
  ·have hco := hg.cell HCO.out (by simp)
   go_wp2_with fail
   refine Calls.mono (unitVector_ok P.orders.length k wr hlt (by omega)) ?_
   rintro e2 w2 ⟨r, rfl, hg2, hR⟩
   have hRi : OwnIn (From wr.heap.size) w2 r (unitV P.orders.length k) := OwnIn.of hR (by simp [unitV]; omega) (fun j hj _ => hj)
   obtain ⟨ar, capr, rfl, _, _⟩ := hRi.ints.shape
   go_wp2_with (at_builtin; go_must (refine wp_app_row rfl _ _ rfl w.heap.size wr w2 _ _ _ (unitV P.orders.length k) rfl hO hg2 hRi rfl rfl (by simp; omega) hg.size ?_); intro v3 w3 hO3 hg3 hg4)
   have hgx := hO.extw hg (Nat.le_refl _) hg3
   rw [← range_map_succ (fun k : Nat => unitV P.orders.length k)] at hO3
   go_roundw
   case rel => exact ⟨k + 1, by go_num, by omega, hgx, hO3⟩
   case measure => simp [intOf]; omega
  ·have hke : k = P.orders.length := by omega
   subst hke
   go_wp2
   go_ret
   exact ⟨_, rfl, hg, hO⟩
end Go.Proofs.YtdcobapnlpeaaaaGreat
namespace Go.Proofs.YtdcobapnlpeaaaaGreat
open Go.RowKit
def SlOA {α : Type} [Inhabited α] (El : (Nat → Prop) → World → Value → α → Prop) (E B : Nat) (A : Nat → Prop) (w : World) (v : Value) (xs : List α) : Prop :=
 ∃ (vs : List Value) (G : Nat → Nat → Prop), vs.length = xs.length ∧ OwnV B E w v vs ∧ (∀ i k, i < xs.length → G i k → B ≤ k ∧ v.ownBlock ≠ some k ∧ k < w.heap.size) ∧
  (∀ i j k, i < xs.length → j < xs.length → G i k → G j k → i = j) ∧ (∀ i, i < xs.length → El (G i) w (gt vs i) (gt xs i)) ∧ (∀ i k, i < xs.length → G i k → ¬ A k) ∧ ∀ k, v.ownBlock = some k → ¬ A k
theorem SlOA.o {α : Type} [Inhabited α] {El : (Nat → Prop) → World → Value → α → Prop} {E B : Nat} {A : Nat → Prop} {w : World} {v : Value} {xs : List α} (h : SlOA El E B A w v xs) : SlO El E B w v xs := by
 obtain ⟨vs, G, h1, h2, h3, h4, h5, _⟩ := h
 exact ⟨vs, G, h1, h2, h3, h4, h5⟩
theorem SlO.avoid {α : Type} [Inhabited α] {El : (Nat → Prop) → World → Value → α → Prop} {E B : Nat} {A : Nat → Prop} {w : World} {v : Value} {xs : List α} (h : SlO El E B w v xs) (hA : ∀ k, A k → w.heap.size ≤ k) : SlOA El E B A w v xs := by
 obtain ⟨vs, G, h1, h2, h3, h4, h5⟩ := h
 exact ⟨vs, G, h1, h2, h3, h4, h5, fun i k hi hk ha => by have := (h3 i k hi hk).2.2; have := hA k ha; omega, fun k hk ha => by have := (h2.lt k hk).2; have := hA k ha; omega⟩
theorem SlOA.ext {α : Type} [Inhabited α] {El : (Nat → Prop) → World → Value → α → Prop} (hEl : RdOk El) {E B : Nat} {A : Nat → Prop} {w w' : World} {v : Value} {xs : List α} (h : SlOA El E B A w v xs) (hg : Ext w w') : SlOA El E B A w' v xs := by
 obtain ⟨vs, G, hvl, hO, hG, hd, hE, hr⟩ := h
 refine ⟨vs, G, hvl, hO.kept hg (by cases hv : v.ownBlock <;> simp), fun i k hi hk => ?_, hd, fun i hi => hEl.mono (hE i hi) (fun k hk hlt => ⟨hk, Nat.lt_of_lt_of_le hlt hg.size, hg.block k hlt (by simp)⟩), hr⟩
 obtain ⟨a, b, c⟩ := hG i k hi hk
 exact ⟨a, b, Nat.lt_of_lt_of_le c hg.size⟩
theorem SlOA.more {α : Type} [Inhabited α] {El : (Nat → Prop) → World → Value → α → Prop} {E B : Nat} {A A' : Nat → Prop} {w : World} {v : Value} {xs : List α} (h : SlOA El E B A w v xs) (hA : ∀ k, A' k → A k ∨ w.heap.size ≤ k) : SlOA El E B A' w v xs := by
 obtain ⟨vs, G, h1, h2, h3, h4, h5, h6, h7⟩ := h
 refine ⟨vs, G, h1, h2, h3, h4, h5, fun i k hi hk ha => ?_, fun k hk ha => ?_⟩
 ·rcases hA k ha with h | h
  ·exact h6 i k hi hk h
  ·have := (h3 i k hi hk).2.2; omega
 ·rcases hA k ha with h | h
  ·exact h7 k hk h
  ·have := (h2.lt k hk).2; omega
theorem SlOA.less {α : Type} [Inhabited α] {El : (Nat → Prop) → World → Value → α → Prop} {E B : Nat} {A A' : Nat → Prop} {w : World} {v : Value} {xs : List α} (h : SlOA El E B A w v xs) (hA : ∀ k, A' k → A k) : SlOA El E B A' w v xs :=
 h.more fun k hk => .inl (hA k hk)
theorem SlOA.avoids {α : Type} [Inhabited α] {El : (Nat → Prop) → World → Value → α → Prop} {E B : Nat} {A : Nat → Prop} {w : World} {v : Value} {xs : List α} (h : SlOA El E B A w v xs) (k : Nat) (hk : v.ownBlock = some k) : ¬ A k ∧ B ≤ k ∧ k < w.heap.size := by
 obtain ⟨vs, G, h1, h2, h3, h4, h5, h6, h7⟩ := h
 exact ⟨h7 k hk, h2.lt k hk⟩
theorem SlOA.kept {α : Type} [Inhabited α] {El : (Nat → Prop) → World → Value → α → Prop} (hEl : RdOk El) {E B m : Nat} {A : Nat → Prop} {w w' : World} {v : Value} {xs : List α} (h : SlOA El E B A w v xs) (hg : w.grownBy w' (some m)) (hm : A m) : SlOA El E B A w' v xs := by
 obtain ⟨vs, G, hvl, hO, hG, hd, hE, hr, hr2⟩ := h
 refine ⟨vs, G, hvl, hO.kept hg ?_, fun i k hi hk => ?_, hd, fun i hi => hEl.mono (hE i hi) (fun k hk hlt => ⟨hk, Nat.lt_of_lt_of_le hlt hg.size, hg.block k hlt (fun e => hr i k hi hk (by cases e; exact hm))⟩), hr, hr2⟩
 ·cases hv : v.ownBlock with
  | none => exact .inl rfl
  | some b => exact .inr (fun e => hr2 b hv (by cases e; exact hm))
 ·obtain ⟨a, b, c⟩ := hG i k hi hk
  exact ⟨a, b, Nat.lt_of_lt_of_le c hg.size⟩
theorem wp_app_oneA {α : Type} [Inhabited α] {El : (Nat → Prop) → World → Value → α → Prop} (hEl : RdOk El) (T E : Nat) (z : Value) (bytes : Nat) (hT : Tryz.prog.underlying T = some (.slice E))
  (hE : (Tryz.prog.info? E).map (fun i => (i.zero, i.size, i.bytes)) = some (some z, 1, bytes)) (hzs : z.cells.size = 1) (hbt : bytes ≤ 64)
  {ops : Array Oper} {rest : List Oper} {o : Oper} {a : Act} {Q : Exit → Act → World → Prop} {w : World} (hgd : o.guard = none) (s x : Operand)
  (ho : o.op = Op.call { callee := Callee.builtin Builtin.append, args := #[s, x], argTypes := #[T, T] }) (B : Nat) (A : Nat → Prop) (w1 w2 : World) (v u : Value) (xs : List α) (y : α) (hs : a.eval s = v) (hown : SlOA El E B A w1 v xs) (hA : ∀ k, A k → k < w1.heap.size)
  (r : Option Nat) (hg : w1.grownBy w2 r) (hrA : ∀ k, r = some k → A k) (hu : El (From w1.heap.size) w2 u y) (hw : w = w2.alloc (.cells #[u] E)) (hx : a.eval x = .slice (some ⟨w2.heap.size, 0, none⟩) 1 1) (hlen : xs.length ≤ 1000000) (hbase : B ≤ w1.heap.size)
  (h : ∀ v' w', SlOA El E B A w' v' (xs ++ [y]) → w2.grownBy w' v.ownBlock → wpList Tryz.prog ops Q rest (a.put o.dst v') w') :
  wpList Tryz.prog ops Q (o :: rest) a w := by
 subst hw
 obtain ⟨vs, G, hvl, hO, hG, hd, hEx, hr, hr2⟩ := hown
 have hga : Ext w2 (w2.alloc (.cells #[u] E)) := World.grownBy_alloc _ _ _
 have hne : v.ownBlock = none ∨ v.ownBlock ≠ r := by
  cases hv : v.ownBlock with
  | none => exact .inl rfl
  | some b => exact .inr (fun e => hr2 b hv (hrA b e.symm))
 have hO2 : OwnV B E (w2.alloc (.cells #[u] E)) v vs := hO.kept (grown_trans hg (grown_of_ext _ hga)) hne
 refine wp_app T E z bytes hT hE hzs hbt hgd s x ho B v vs hs hO2 (some ⟨w2.heap.size, 0, none⟩) 1 1 [u] hx rfl (by simp) ?_ ?_ (by omega) (by have := hg.size; simp; omega) ?_
 ·intro j hj
  have : j = 0 := by omega
  subst this
  exact ⟨w2.heap.size, 0, rfl, by rw [World.cell?_alloc_at _ _ _ _ rfl]; rfl⟩
 ·intro u' hu'
  simp at hu'; subst hu'; exact hEl.one hu
 ·intro v' w' h1 h2 _ hat
  have hvb : ∀ k, v.ownBlock = some k → B ≤ k ∧ k < w1.heap.size := hO.lt
  have hg2 : w2.grownBy w' v.ownBlock := grown_trans (grown_of_ext _ hga) h2
  have hsz : w1.heap.size ≤ w'.heap.size := Nat.le_trans hg.size hg2.size
  have hv'b : ∀ k, v'.ownBlock = some k → v.ownBlock = some k ∨ w2.heap.size < k := by
   intro k hk
   rcases hat with h | h
   ·exact .inl (by rw [← h]; exact hk)
   ·rw [h] at hk
    have : (w2.alloc (.cells #[u] E)).heap.size = k := by simpa using hk
    simp at this
    exact .inr (by omega)
  refine h v' w' ⟨vs ++ [u], fun i k => if i < xs.length then G i k ∧ k < w1.heap.size else w1.heap.size ≤ k ∧ k < w2.heap.size, by simp [hvl], h1, ?_, ?_, ?_, ?_, ?_⟩ hg2
  ·intro i k hi hk
   split at hk
   ·rename_i hlt
    obtain ⟨a1, a2, a3⟩ := hG i k hlt hk.1
    refine ⟨a1, fun hv' => ?_, Nat.lt_of_lt_of_le a3 hsz⟩
    rcases hv'b k hv' with h | h
    ·exact a2 h
    ·have := hg.size; omega
   ·refine ⟨by omega, fun hv' => ?_, Nat.lt_of_lt_of_le hk.2 hg2.size⟩
    rcases hv'b k hv' with h | h
    ·have := hvb k h; omega
    ·omega
  ·intro i j k hi hj hk hk'
   simp only [List.length_append, List.length_singleton] at hi hj
   split at hk <;> split at hk'
   ·exact hd i j k (by assumption) (by assumption) hk.1 hk'.1
   ·omega
   ·omega
   ·omega
  ·intro i hi
   simp only [List.length_append, List.length_singleton] at hi
   by_cases hlt : i < xs.length
   ·rw [gt_append_left _ _ _ (by omega), gt_append_left _ _ _ hlt]
    simp only [if_pos hlt]
    exact hEl.mono (hEx i hlt) (fun k hk hkl => ⟨⟨hk, hkl⟩, Nat.lt_of_lt_of_le hkl hsz, (hg2.block k (Nat.lt_of_lt_of_le hkl hg.size) (fun e => (hG i k hlt hk).2.1 e.symm)).trans (hg.block k hkl (fun e => hr i k hlt hk (hrA k e.symm)))⟩)
   ·have hi2 : i = xs.length := by omega
    subst hi2
    rw [gt_concat, ← hvl, gt_concat]
    simp only [hvl, Nat.lt_irrefl, if_false]
    exact hEl.mono hu (fun k hk hkl => ⟨⟨hk, hkl⟩, Nat.lt_of_lt_of_le hkl hg2.size, hg2.block k hkl (fun e => by
     have hk : w1.heap.size ≤ k := hk
     have := hvb k e.symm; omega)⟩)
  ·intro i k hi hk ha
   split at hk
   ·exact hr i k (by assumption) hk.1 ha
   ·have := hA k ha; omega
  ·intro k hk ha
   rcases hv'b k hk with h | h
   ·exact hr2 k h ha
   ·have := hA k ha; have := hg.size; omega
theorem wp_app_rowA {ops : Array Oper} {rest : List Oper} {o : Oper} {a : Act} {Q : Exit → Act → World → Prop} {w : World} (hgd : o.guard = none) (s x : Operand)
  (ho : o.op = Op.call { callee := Callee.builtin Builtin.append, args := #[s, x], argTypes := #[25, 25] }) (B : Nat) (A : Nat → Prop) (w1 w2 : World) (v u : Value) (xs : List (List Int)) (y : List Int) (hs : a.eval s = v)
  (hown : SlOA OwnIn 24 B A w1 v xs) (hA : ∀ k, A k → k < w1.heap.size)
  (r : Option Nat) (hg : w1.grownBy w2 r) (hrA : ∀ k, r = some k → A k) (hu : OwnIn (From w1.heap.size) w2 u y) (hw : w = w2.alloc (.cells #[u] 24)) (hx : a.eval x = .slice (some ⟨w2.heap.size, 0, none⟩) 1 1) (hlen : xs.length ≤ 1000000) (hbase : B ≤ w1.heap.size)
  (h : ∀ v' w', SlOA OwnIn 24 B A w' v' (xs ++ [y]) → w2.grownBy w' v.ownBlock → wpList Tryz.prog ops Q rest (a.put o.dst v') w') :
  wpList Tryz.prog ops Q (o :: rest) a w :=
 wp_app_oneA rdOwn 25 24 (.slice none 0 0) 24 und_rows Tryz.infoRow rfl (by decide) hgd s x ho B A w1 w2 v u xs y hs hown hA r hg hrA hu hw hx hlen hbase h
end Go.Proofs.YtdcobapnlpeaaaaGreat
namespace Go.Proofs.YtdcobapnlpeaaaaGreat
open Go.RowKit
theorem rMul_vec {P : Pr} (hP : Valid P) (A B : List Int) (hA : Vec P.orders A) (hB : Vec P.orders B) : Vec P.orders (rMul P A B) := rAt_vec hP _ 0 A B (by omega) hA hB
set_option maxHeartbeats 2000000 in
theorem l10Conj_ok (P : Pr) (hP : Valid P) (w : World) (pv a b : Value) (A B : List Int) (Sp Sa Sb : Nat → Prop) (hp : PresV Sp w pv P) (ha : Ints Sa w a A) (hb : Ints Sb w b B) (hA : Vec P.orders A) (hB : Vec P.orders B) :
  Calls Tryz.prog 150 #[pv, a, b] w (Ret w fun w' v => Own w.heap.size w' v (rConj P A B)) := by
 obtain ⟨vo, vp, vc, rfl, h3⟩ := hp
 have hn6 := hP.n6
 have hl1 := (rInv_vec hP B hB).1
 have hl2 := (rMul_vec hP A B hA hB).1
 have HL1 := Lib.hid hl1; have HL2 := Lib.hid hl2; clear hl1 hl2
 have hg0 : Ext w (w.alloc (.cells #[vo, vp, vc] 28)) := World.grownBy_alloc _ _ _
 have hBx := PresP.box h3 28
 have ha0 := ha.ext hg0
 have hb0 := hb.ext hg0
 have hs0 : (w.alloc (.cells #[vo, vp, vc] 28)).heap.size = w.heap.size + 1 := by simp
 have HS := Lib.hid hs0; clear hs0 ha hb
 go_enter Tryz.func150, Tryz.ntmps150
 go_wp2
 generalize hw0 : w.alloc (.cells #[vo, vp, vc] 28) = w0 at *
 clear hw0
 obtain ⟨vo6, vp6, vc6, _, _, hc0, hc1, hc2, h36⟩ := hBx.at
 have e1 : ∀ w', Ext w0 w' → w'.cell? ⟨w.heap.size, 0, none⟩ = some vo6 := fun w' h => h.cell hc0 (by simp)
 have e2 : ∀ w', Ext w0 w' → w'.cell? ⟨w.heap.size, 1, none⟩ = some vp6 := fun w' h => h.cell (by simpa using hc1) (by simp)
 have e3 : ∀ w', Ext w0 w' → w'.cell? ⟨w.heap.size, 2, none⟩ = some vc6 := fun w' h => h.cell (by simpa using hc2) (by simp)
 clear hc0 hc1 hc2
 go_region_held3 (fun w' => Ext w0 w') (first | exact grown_drew _ _ | assumption)
  (first
   | (go_at_call 211; refine Calls.mono (Calls.rel (w0 := w0) (by assumption) (l10Inv_ok P hP _ _ _ _ Any Any ⟨_, _, _, rfl, Pres3.ext h36 (by assumption)⟩ (Ints.sub (Ints.ext hb0 (by assumption)) (fun _ _ _ => trivial)) hB)) ?_; rintro eA wA ⟨vA, rfl, hgA, hsA, hOA⟩)
   | (go_at_call_of 240 (a); refine Calls.mono (Calls.rel2 (w0 := w0) (by assumption) (l08Mul_ok P hP _ _ _ _ _ _ Any Sa Sb ⟨_, _, _, rfl, Pres3.ext h36 (by assumption)⟩ (Ints.ext ha0 (by assumption)) (Ints.ext hb0 (by assumption)) hA hB)) ?_; rintro eF wF ⟨vF, rfl, hgF, hgF2, hsF, hOF⟩; have hOA2 := (hOA.ext0 hgF2).ints (by rw [HL1.out]; omega); have hOF2 := hOF.ints (by rw [HL2.out]; omega))
   | (go_at_call 240; refine Calls.mono (Calls.rel (w0 := w0) (by assumption) (l08Mul_ok P hP _ _ _ _ _ _ Any Any Any ⟨_, _, _, rfl, Pres3.ext h36 (by assumption)⟩ hOA2 hOF2 (rInv_vec hP B hB) (rMul_vec hP A B hA hB))) ?_; rintro eB wB ⟨vB, rfl, hgB, hsB, hOB⟩))
 clear e1 e2 e3
 go_wp2
 go_ret
 exact ⟨_, rfl, grown_trans hg0 hgB, hOB.weak (by have := HS.out; omega)⟩
end Go.Proofs.YtdcobapnlpeaaaaGreat
namespace Go.Proofs.YtdcobapnlpeaaaaGreat
section
variable {P : Pr} {f i : Nat}
end
section
variable {P : Pr} (G : Grp P)
include G
theorem Grp.nf {x : List Int} (hx : Vec P.orders x) : npr (rMul P) (unitV P.orders.length) x 0 (zeros P.orders.length) P.orders.length = x := G.lvl.nf x (T_zero.2 hx)
end
end Go.Proofs.YtdcobapnlpeaaaaGreat
namespace Go.Proofs.YtdcobapnlpeaaaaGreat
section
variable {P : Pr} {f i : Nat}
end
section
variable {P : Pr} (G : Grp P)
include G
theorem Grp.gen_ind (Q : List Int → Prop) (h1 : Q (zeros P.orders.length)) (hm : ∀ y j, Vec P.orders y → Q y → j < P.orders.length → Q (rMul P y (unitV P.orders.length j))) {x : List Int} (hx : Vec P.orders x) : Q x := by
 have := acc_inv (fun y => Vec P.orders y ∧ Q y) (fun y j => rMul P y (unitV P.orders.length j)) x 0 (zeros P.orders.length) P.orders.length ⟨G.oneV, h1⟩ (fun y j hy _ b _ => ⟨G.mulV hy.1 (unitV_vec G.v j), hm y j hy.1 hy.2 (by omega)⟩)
 have h2 := G.nf hx
 unfold npr at h2
 rw [h2] at this
 exact this.2
end
end Go.Proofs.YtdcobapnlpeaaaaGreat
namespace Go.Proofs.YtdcobapnlpeaaaaGreat
section
variable {P : Pr} (G : Grp P)
include G
theorem Grp.pw_inv {x : List Int} (hx : Vec P.orders x) (k : Nat) : rMul P (pw P (rInv P x) k) (pw P x k) = zeros P.orders.length := by
 have hi := G.invV hx
 induction k with
 | zero => exact G.grp.el _ G.oneV
 | succ k ih =>
  have p1 := G.pw_vec hi k
  have p2 := G.pw_vec hx k
  rw [pw_succ, G.pw_succ' hx, G.ass p1 hi (G.mulV hx p2), ← G.ass hi hx p2, G.inv_mul hx, G.grp.el _ p2, ih]
end
end Go.Proofs.YtdcobapnlpeaaaaGreat
namespace Go.Proofs.YtdcobapnlpeaaaaGreat
open Go.RowKit
theorem isNaN_ok (a : Int) (w : World) : Calls Tryz.prog 322 #[.int .i64 a] w fun e w' => e = .returned (.bool false) ∧ w' = w := by
 go_enter Tryz.func322, Tryz.ntmps322
 go_wp2
 exact bodyPost_ret (v := .bool false) (by simp [results, Tryz.results322, go_sem]) rfl ⟨rfl, rfl⟩
set_option maxHeartbeats 1000000 in
theorem cmpI_ok (a b : Int) (w : World) : Calls Tryz.prog 294 #[.int .i64 a, .int .i64 b] w fun e w' => e = .returned (.int .i64 (cmpI a b)) ∧ w' = w := by
 go_enter Tryz.func294, Tryz.ntmps294
 go_wp2_with fail
 refine Calls.mono (isNaN_ok a w) ?_
 rintro e1 w1 ⟨rfl, rfl⟩
 go_wp2_with fail
 refine Calls.mono (isNaN_ok b _) ?_
 rintro e1 w1 ⟨rfl, rfl⟩
 by_cases h1 : a < b
 ·go_wp2
  exact bodyPost_ret (v := .int .i64 (-1)) (by simp [results, Tryz.results294, go_sem]) rfl ⟨by simp [cmpI, h1], rfl⟩
 ·by_cases h2 : b < a
  ·have h1' : b ≤ a := by omega
   go_wp2
   exact bodyPost_ret (v := .int .i64 1) (by simp [results, Tryz.results294, go_sem]) rfl ⟨by simp [cmpI, h1, h2], rfl⟩
  ·have h1' : b = a := by omega
   subst h1'
   clear h1 h2
   go_wp2
   exact bodyPost_ret (v := .int .i64 0) (by simp [results, Tryz.results294, go_sem]) rfl ⟨by simp [cmpI], rfl⟩
theorem drop_gt {l : List Int} {k : Nat} (h : k < l.length) : l.drop k = gt l k :: l.drop (k + 1) := by
 rw [List.drop_eq_getElem_cons h]; simp [gt, h]
set_option maxHeartbeats 4000000 in
theorem sCompare_ok (a b : Value) (X Y : List Int) (w : World) (Sa Sb : Nat → Prop) (ha : Ints Sa w a X) (hb : Ints Sb w b Y) :
  Calls Tryz.prog 245 #[a, b] w fun e w' => e = .returned (.int .i64 (cmpL X Y)) ∧ w' = w := by
 obtain ⟨aa, capa, rfl, hla, _⟩ := ha.shape
 obtain ⟨ab, capb, rfl, hlb, _⟩ := hb.shape
 go_enter Tryz.func245, Tryz.ntmps245
 go_wp2
 go_loopw [11] (fun v wr => ∃ k : Nat, v = .int .i64 k ∧ k ≤ X.length ∧ k ≤ Y.length ∧ wr = w ∧ cmpL X Y = cmpL (X.drop k) (Y.drop k)) (fun v _ => X.length - (intOf v).toNat)
 case atStart => exact ⟨0, rfl, by omega, by omega, rfl, by simp⟩
 case round =>
  obtain ⟨k, rfl, hk, hkY, rfl, hcmp⟩ := hrel
  by_cases hlt : k < X.length
  ·obtain ⟨ba, oa, rfl, _, _, hca⟩ := Ints.at ha k hlt
   by_cases hltY : k < Y.length
   ·obtain ⟨bb, ob, rfl, _, _, hcb⟩ := Ints.at hb k hltY
    rw [drop_gt hlt, drop_gt hltY] at hcmp
    simp only [cmpL] at hcmp
    have HC := Lib.hid hcmp; clear hcmp
    go_wp2_with fail
    refine Calls.mono (cmpI_ok (gt X k) (gt Y k) _) ?_
    rintro e1 w1 ⟨rfl, rfl⟩
    by_cases hz : cmpI (gt X k) (gt Y k) = 0
    ·have hcn := HC.out
     rw [if_pos hz] at hcn
     have HC2 := Lib.hid hcn; clear hcn HC
     go_wp2
     go_roundw
     case rel => exact ⟨k + 1, by go_num, by omega, by omega, trivial, HC2.out⟩
     case measure => simp [intOf]; omega
    ·have hcn := HC.out
     rw [if_neg hz] at hcn
     have HC2 := Lib.hid hcn; clear hcn HC
     go_wp2
     exact bodyPost_ret (v := .int .i64 (cmpI (gt X k) (gt Y k))) (by simp [results, Tryz.results245, go_sem]) rfl ⟨by rw [HC2.out], rfl⟩
   ·have hke : k = Y.length := by omega
    subst hke
    rw [drop_gt hlt, List.drop_length] at hcmp
    simp only [cmpL] at hcmp
    have HC := Lib.hid hcmp; clear hcmp
    go_wp2
    exact bodyPost_ret (v := .int .i64 1) (by simp [results, Tryz.results245, go_sem]) rfl ⟨by rw [HC.out], rfl⟩
  ·have hke : k = X.length := by omega
   subst hke
   rw [List.drop_length] at hcmp
   by_cases hltY : X.length < Y.length
   ·rw [drop_gt hltY] at hcmp
    simp only [cmpL] at hcmp
    have HC := Lib.hid hcmp; clear hcmp
    go_wp2
    exact bodyPost_ret (v := .int .i64 (-1)) (by simp [results, Tryz.results245, go_sem]) rfl ⟨by rw [HC.out], rfl⟩
   ·have hle : Y.length ≤ X.length := by omega
    rw [List.drop_of_length_le hle] at hcmp
    simp only [cmpL] at hcmp
    have HC := Lib.hid hcmp; clear hcmp
    go_wp2
    exact bodyPost_ret (v := .int .i64 0) (by simp [results, Tryz.results245, go_sem]) rfl ⟨by rw [HC.out], rfl⟩
end Go.Proofs.YtdcobapnlpeaaaaGreat
namespace Go.Proofs.YtdcobapnlpeaaaaGreat
open Go.RowKit
theorem sortL_unique {L M : List (List Int)} (h : M.Perm L) (hs : SortedL M) : M = sortL L :=
 sorted_unique _ _ hs (sortL_sorted L) (h.trans (sortL_perm L).symm)
theorem sortedL_le {C : List (List Int)} (h : SortedL C) {i j : Nat} (hij : i ≤ j) (hj : j < C.length) : cmpL (gt C i) (gt C j) ≤ 0 := by
 rcases Nat.lt_or_eq_of_le hij with h1 | rfl
 ·have := (List.pairwise_iff_getElem.1 h) i j (by omega) hj h1
  simpa [gt, hj, show i < C.length by omega] using this
 ·have := (cmpL_zero (gt C i) (gt C i)).2 rfl
  omega
end Go.Proofs.YtdcobapnlpeaaaaGreat
namespace Go.Proofs.YtdcobapnlpeaaaaGreat
open Go.RowKit
attribute [local go_sem ↓] Go.wp_at_zero Go.wp_at_succ
def ElD (Q : Pr) (B : Nat) (w' : World) (v : Value) : Prop := ∃ (a : Option Addr) (c : Nat) (l : List Int), v = .slice a l.length c ∧ Vec Q.orders l ∧ Own B w' (.slice a l.length c) l
set_option maxRecDepth 100000 in
set_option maxHeartbeats 8000000 in
theorem l10Some_ok (B0 : Nat) (w : World) (sb : Nat) (pv : Value) (Q : Pr) (F : Nat → Prop) (hB0 : B0 ≤ w.heap.size) (hs : Src B0 w sb) (hp : PresV F w pv Q) (hF : ∀ k, F k → k ≠ sb) (hV : Valid Q) :
  Calls Tryz.prog 137 #[.pointer (some ⟨sb, 0, none⟩), pv] w (Mut w (some sb) (DrawR B0 sb (ElD Q w.heap.size))) := by
 have hsb := hs.lt
 have hQ := hV.n6
 obtain ⟨vo, vp, vc, rfl, h3⟩ := hp
 obtain ⟨ao, co, hvo, _, _⟩ := h3.o.shape
 obtain ⟨ap, cp, hvp, _, _⟩ := Sl.shape h3.p
 obtain ⟨ac, cc, hvc, _, _⟩ := Sl.shape h3.c
 subst hvo hvp hvc
 have hbA := Box3.made w 28 (.slice ao Q.orders.length co) (.slice ap Q.powers.length cp) (.slice ac Q.conj.length cc)
 have hgA : Ext w (w.alloc (.cells #[.slice ao Q.orders.length co, .slice ap Q.powers.length cp, .slice ac Q.conj.length cc] 28)) := World.grownBy_alloc _ _ _
 have hoA := h3.o.ext hgA
 have hsA := hs.ext hgA
 have hzA : (w.alloc (.cells #[.slice ao Q.orders.length co, .slice ap Q.powers.length cp, .slice ac Q.conj.length cc] 28)).heap.size = w.heap.size + 1 := by simp
 have HZ := Lib.hid (And.intro hzA hsA); clear hzA hsA hs h3
 go_enter Tryz.func137, Tryz.ntmps137
 go_wp2_with fail
 generalize w.alloc (.cells #[.slice ao Q.orders.length co, .slice ap Q.powers.length cp, .slice ac Q.conj.length cc] 28) = w0 at *
 have hzA : w0.heap.size = w.heap.size + 1 := HZ.out.1
 have hgE := World.grownBy_alloc w0 (.cells #[] 2) none
 have hOE : Own w0.heap.size (w0.alloc (.cells #[] 2)) (.slice (some ⟨w0.heap.size, 0, none⟩) 0 0) [] := World.ownsRow_lit w0 #[] 0 (Nat.le_refl _) (by decide) rfl
 have HS := Lib.hid (HZ.out.2.ext hgE)
 have hg0 := grown_of_ext (some sb) hgE
 clear hgE
 have HW := Lib.hid hzA
 rw [hzA] at hOE
 have hz1 : w.heap.size + 1 ≤ w0.heap.size := by omega
 clear hzA HZ
 generalize w0.alloc (.cells #[] 2) = w1 at *
 rw [← HW.out] at hOE
 rw [← HW.out]
 go_loopw [5, 6] (fun ov iv wr => ∃ (i : Nat) (l : List Int) (v4 : Value), v4 = ov ∧ iv = .int .i64 i ∧ i ≤ Q.orders.length ∧ Hid (l.length = i ∧ ∀ k, k < l.length → 0 ≤ gt l k ∧ gt l k < gt Q.orders k) ∧ w0.grownBy wr (some sb) ∧ Own w0.heap.size wr v4 l ∧ Hid (Src B0 wr sb)) (fun _ iv _ => Q.orders.length - (intOf iv).toNat)
 case atStart => exact ⟨0, [], _, rfl, rfl, by omega, Lib.hid ⟨rfl, fun k hk => by simp at hk⟩, hg0, hOE, HS⟩
 case round =>
  clear hg0 hOE HS
  obtain ⟨i, l, v4, rfl, rfl, hi, hli, hg, hO, hsr⟩ := hrel
  have hbr := hbA.moved hg (by omega)
  obtain ⟨b0, b1, b2, b3, b4⟩ := id hbr
  have hob : ∀ j, v4.ownBlock = some j → w0.heap.size ≤ j := fun j hj => (hO.lt j hj).1
  have HO := Lib.hid hob; clear hob
  by_cases hlt : i < Q.orders.length
  ·have hlt' : (i : Int) < Q.orders.length := by omega
   obtain ⟨bo, oo, rfl, hboF, _, hco⟩ := Ints.at hoA i hlt
   have hc := hg.cell hco (by simp; exact hF _ hboF)
   have h7 := hV.ord7 i hlt
   obtain ⟨x, hx⟩ : ∃ x, x = gt Q.orders i := ⟨_, rfl⟩
   rw [← hx] at hc hco h7
   have HX := Lib.hid hx; clear hx hco
   go_wp2_with fail
   refine Calls.mono (l01Next_ok B0 wr sb x hsr.out) ?_
   rintro e3 w3 ⟨v3, rfl, hg3, y, rfl, _, hy1, hs3⟩
   have hy := hy1 (by omega)
   have hg03 := grown_trans hg hg3
   have hO3 : Own w0.heap.size w3 _ l := hO.kept hg3 (.inr (fun e => by have := HO.out sb e; omega))
   clear hc hO hy1
   go_wp2_with fail
   refine Calls.mono (l01Next_ok B0 w3 sb 3 hs3) ?_
   rintro e4 w4 ⟨v4', rfl, hg4, z, rfl, _, _, hs4⟩
   have hg04 := grown_trans hg03 hg4
   have hO4 : Own w0.heap.size w4 _ l := hO3.kept hg4 (.inr (fun e => by have := HO.out sb e; omega))
   have hll : l.length ≤ 1000000 := by have := hli.out.1; omega
   have HS4 := Lib.hid (And.intro hs4 hll); clear hs4 hll hO3 hs3
   have hrel : ∀ u : Int, 0 ≤ u ∧ u < x → ∀ k, k < (l ++ [u]).length → 0 ≤ gt (l ++ [u]) k ∧ gt (l ++ [u]) k < gt Q.orders k := fun u hu k hk => by
    by_cases h : k < l.length
    ·rw [gt_append_left _ _ _ h]; exact hli.out.2 k h
    ·have hk2 : k = l.length := by simp at hk; omega
     subst hk2
     rw [gt_concat, hli.out.1, ← HX.out]; exact hu
   have HR := Lib.hid hrel; clear hrel
   by_cases hz : z = 0
   ·have hzb : (z == 0) = true := by simp [hz]
    clear hz
    go_wp2_with (first | (at_builtin; refine wp_app_int rfl _ _ rfl w0.heap.size v4 l 0 rfl w4 hO4 rfl rfl HS4.out.2 hg04.size ?_; intro v5 w5 hO5 hg5) | fail)
    have hs5 := HS4.out.1.own hg5 (fun j hj => by have := HO.out j hj; omega)
    have hg05 : w0.grownBy w5 (some sb) := grown_own hg04 hg5 (fun j hj hlt => by have := HO.out j hj; omega)
    have hll : (l ++ [(0 : Int)]).length = l.length + 1 := by simp
    go_roundw
    case rel => exact ⟨i + 1, l ++ [0], v5, rfl, by go_num, by omega, Lib.hid ⟨by have := hli.out.1; omega, HR.out 0 (by omega)⟩, hg05, hO5, Lib.hid hs5⟩
    case measure => simp [intOf]; omega
   ·have hzb : (z == 0) = false := by simp [hz]
    clear hz
    go_wp2_with (first | (at_builtin; refine wp_app_int rfl _ _ rfl w0.heap.size v4 l y rfl w4 hO4 rfl rfl HS4.out.2 hg04.size ?_; intro v5 w5 hO5 hg5) | fail)
    have hs5 := HS4.out.1.own hg5 (fun j hj => by have := HO.out j hj; omega)
    have hg05 : w0.grownBy w5 (some sb) := grown_own hg04 hg5 (fun j hj hlt => by have := HO.out j hj; omega)
    have hll : (l ++ [y]).length = l.length + 1 := by simp
    go_roundw
    case rel => exact ⟨i + 1, l ++ [y], v5, rfl, by go_num, by omega, Lib.hid ⟨by have := hli.out.1; omega, HR.out y hy⟩, hg05, hO5, Lib.hid hs5⟩
    case measure => simp [intOf]; omega
  ·have hlt' : ¬ ((i : Int) < Q.orders.length) := by omega
   have hlv : Vec Q.orders l := ⟨by have := hli.out.1; omega, fun k hk => hli.out.2 k (by have := hli.out.1; omega)⟩
   have HV := Lib.hid hlv; clear hlv
   obtain ⟨al, cl, rfl, _⟩ := (hO.ints (by have := HV.out.1; omega)).shape
   have hgw : w.grownBy wr (some sb) := grown_trans (grown_of_ext (some sb) hgA) hg
   go_wp2_with fail
   go_ret
   exact ⟨_, rfl, hgw, ⟨al, cl, l, rfl, HV.out, Own.weak hO (by omega)⟩, hsr.out⟩
end Go.Proofs.YtdcobapnlpeaaaaGreat
namespace Go.Proofs.YtdcobapnlpeaaaaGreat
open Go.RowKit
set_option maxRecDepth 100000 in
set_option maxHeartbeats 2000000 in
theorem sIsEl_ok (P : Pr) (w : World) (pv xv : Value) (X : List Int) (Sp Sx : Nat → Prop) (hpv : PresV Sp w pv P) (hx : Ints Sx w xv X) :
  Calls Tryz.prog 149 #[pv, xv] w (Ret w fun _ v => ∃ r : Bool, v = .bool r ∧ (r = true ↔ rconsB P = true ∧ Vec P.orders X)) := by
 obtain ⟨vo, vp, vc, rfl, h3⟩ := hpv
 have hp0 := PresP.box h3 28
 have hg0 : Ext w (w.alloc (.cells #[vo, vp, vc] 28)) := World.grownBy_alloc _ _ _
 obtain ⟨vo6, vp6, vc6, _, _, hc0, hc1, hc2, h36⟩ := hp0.at
 simp only [Nat.zero_add] at hc1 hc2
 have hx0 := Ints.ext hx hg0
 obtain ⟨ax, capx, rfl, _, _⟩ := hx.shape
 clear hp0 hx
 have hE := l08Group_ok P (w.alloc (.cells #[vo, vp, vc] 28)) _ Any ⟨_, _, _, rfl, h36⟩
 go_enter Tryz.func149, Tryz.ntmps149
 go_wp2_with fail
 generalize hw0 : w.alloc (.cells #[vo, vp, vc] 28) = w0 at *
 clear hw0
 refine Calls.mono hE ?_
 rintro e1 w1 ⟨v1, rfl, hg1, rfl⟩
 clear hE
 have hb0 := hg1.cell hc0 (by simp)
 have hb1 := hg1.cell hc1 (by simp)
 have hb2 := hg1.cell hc2 (by simp)
 clear hc0 hc1 hc2
 cases hr : rconsB P with
 | false =>
  have HR := Lib.hid hr; clear hr
  go_wp2
  go_ret
  exact ⟨_, rfl, grown_trans hg0 hg1, false, rfl, by simp only [Bool.false_eq_true, false_iff]; rintro ⟨h, _⟩; rw [HR.out] at h; exact Bool.noConfusion h⟩
 | true =>
  have G := grp_of_r hr
  have HR := Lib.hid hr; clear hr
  go_wp2_with fail
  clear hb0 hb1 hb2
  refine Calls.mono (l10Element_ok P G.v w1 _ _ X Any Sx ⟨_, _, _, rfl, Pres3.ext h36 hg1⟩ (Ints.ext hx0 hg1)) ?_
  rintro e2 w2 ⟨v2, rfl, hg2, rfl⟩
  go_wp2
  go_ret
  exact ⟨_, rfl, grown_trans hg0 (grown_trans hg1 hg2), expB P.orders X, rfl, ⟨fun h => ⟨HR.out, expB_vec.1 h⟩, fun h => expB_vec.2 h.2⟩⟩
end Go.Proofs.YtdcobapnlpeaaaaGreat
namespace Go.Proofs.YtdcobapnlpeaaaaGreat
open Go.RowKit
attribute [local go_sem ↓] Go.wp_at_zero Go.wp_at_succ
def VecsL (M : Nat) (C : Pr → Prop) (B : Nat) (w' : World) (v : Value) : Prop := ∃ vo vp vc xv yv P, v = .tuple #[.agg #[vo, vp, vc], xv, yv] ∧ P.orders.length ≤ M ∧ Pres3 (From B) w' vo vp vc P ∧ C P ∧ (∃ X, X.length ≤ 21 ∧ Ints (From B) w' xv X) ∧ ∃ Y, Y.length ≤ 21 ∧ Ints (From B) w' yv Y
set_option maxRecDepth 100000 in
set_option maxHeartbeats 8000000 in
theorem DrawConjugatingElement_ok (w : World) (cv : Value) (bs : List Int) (S : Nat → Prop) (hb : Bytes S w cv bs) :
  Calls Tryz.prog 46 #[cv] w (Ret w (VecsL 7 (LimOk 96) w.heap.size)) := by
 obtain ⟨a, cap, rfl, _, _⟩ := Sl.shape hb
 have hbB := Box3.made w 28 (.slice none 0 0) (.slice none 0 0) (.slice none 0 0)
 have hg0 : Ext w (w.alloc (.cells #[.slice none 0 0, .slice none 0 0, .slice none 0 0] 28)) := World.grownBy_alloc _ _ _
 have hs0 : (w.alloc (.cells #[.slice none 0 0, .slice none 0 0, .slice none 0 0] 28)).heap.size = w.heap.size + 1 := by simp
 have hb0 := Bytes.ext hb hg0
 go_enter Tryz.func46, Tryz.ntmps46
 go_wp2_with fail
 generalize w.alloc (.cells #[.slice none 0 0, .slice none 0 0, .slice none 0 0] 28) = w0 at *
 have hs00 : w.heap.size + 1 ≤ w0.heap.size := by omega
 clear hs0
 refine Calls.mono (l01From_ok w0 _ bs S hb0) ?_
 rintro e0 wS ⟨v0, rfl, hgS, rfl, hsS⟩
 have hzS : w0.heap.size + 1 ≤ wS.heap.size := by have := hsS.lt; omega
 have hbS := hbB.ext hgS
 obtain ⟨sb, hsb⟩ : ∃ sb, sb = w0.heap.size := ⟨_, rfl⟩
 rw [← hsb] at hsS
 have hsb1 : w.heap.size + 1 ≤ sb ∧ sb + 1 ≤ wS.heap.size := by omega
 have hgw0 := grown_trans hg0 hgS
 have HSB := Lib.hid hsb
 clear hbB hb0 hg0 hgS hzS hs00
 go_wp2_with fail
 rw [← HSB.out]
 refine Calls.mono (l07DrawL_ok (sb + 1) wS sb 96 (by omega) (by rw [HSB.out]; rw [HSB.out] at hsS; exact hsS)) ?_
 rintro e1 w1 ⟨v1, rfl, hg1, ⟨vo, vp, vc, Q, rfl, hQl, hQ, hQo⟩, hs1⟩
 clear hsb
 obtain ⟨a1, n1, c1, hy1⟩ : ∃ a n c, vo = .slice a n c := by obtain ⟨a, c, e, _⟩ := hQ.o.shape; exact ⟨_, _, _, e⟩
 obtain ⟨a2, n2, c2, hy2⟩ : ∃ a n c, vp = .slice a n c := by obtain ⟨a, c, e, _⟩ := Sl.shape hQ.p; exact ⟨_, _, _, e⟩
 obtain ⟨a3, n3, c3, hy3⟩ : ∃ a n c, vc = .slice a n c := by obtain ⟨a, c, e, _⟩ := Sl.shape hQ.c; exact ⟨_, _, _, e⟩
 subst hy1 hy2 hy3
 have hgq : Ext w1 (w1.alloc (.cells #[.slice a1 n1 c1, .slice a2 n2 c2, .slice a3 n3 c3] 28)) := World.grownBy_alloc _ _ _
 have hbQ := Box3.made w1 28 (.slice a1 n1 c1) (.slice a2 n2 c2) (.slice a3 n3 c3)
 obtain ⟨pb, hpb⟩ : ∃ pb, pb = w1.heap.size := ⟨_, rfl⟩
 rw [← hpb] at hbQ
 have hs1' := hg1.size
 have hQ2 := hQ.ext hgq
 have hb1 := hbS.moved hg1 (by omega)
 have hb2 := hb1.ext hgq
 have hs2 := hs1.ext hgq
 have hgw2 : Ext w (w1.alloc (.cells #[.slice a1 n1 c1, .slice a2 n2 c2, .slice a3 n3 c3] 28)) := grown_trans (grown_own hgw0 hg1 (fun j hj hlt => by have := Option.some.inj hj; omega)) hgq
 have hzq : w1.heap.size ≤ (w1.alloc (.cells #[.slice a1 n1 c1, .slice a2 n2 c2, .slice a3 n3 c3] 28)).heap.size := hgq.size
 have HP := Lib.hid hpb
 have HQ := Lib.hid (And.intro hQ2 (And.intro hs2 (And.intro hgw2 (And.intro hQl hQo)))); clear hQ hQ2 hs2 hs1 hg1 hbS hb1 hgq hgw2 hQl hQo
 go_wp2_with fail
 rw [← HP.out]
 generalize w1.alloc (.cells #[.slice a1 n1 c1, .slice a2 n2 c2, .slice a3 n3 c3] 28) = w2 at *
 have hpw : wS.heap.size ≤ pb := by omega
 clear hpb HP
 obtain ⟨q0, q1, q2, q3, q4⟩ := id hbQ
 go_wp2_with fail
 clear q0 q1 q2 q3 q4
 refine Calls.mono (l07Vectors_ok (sb + 1) w2 sb _ Q _ (by omega) HQ.out.2.1 ⟨_, _, _, rfl, HQ.out.1⟩ (fun k hk e => by have hk : wS.heap.size ≤ k := hk; omega) (by have := HQ.out.2.2.2.1; omega)) ?_
 rintro e2 w3 ⟨xv, rfl, hg3, ⟨xa, xc, X, rfl, hXl, hXo⟩, hs3⟩
 have hb3 := hb2.moved hg3 (by omega)
 have hbQ3 := hbQ.moved hg3 (by omega)
 have hz3 := hg3.size
 have hXi : Ints (From wS.heap.size) w3 (.slice xa X.length xc) X := ints_of_own hXo (by omega) (fun k hk => by have := (hXo.lt k hk).1; show wS.heap.size ≤ k; omega)
 have hX3 := And.intro (HQ.out.1.keptB hg3 (fun k hk => by have := Option.some.inj hk; omega)) (And.intro hs3 (And.intro (grown_own HQ.out.2.2.1 hg3 (fun j hj hlt => by have := Option.some.inj hj; omega)) (And.intro HQ.out.2.2.2 (And.intro hXl hXi))))
 have HX := Lib.hid hX3; clear hX3 HQ hb2 hbQ hg3 hXo hs3 hXi hXl
 obtain ⟨q0, q1, q2, q3, q4⟩ := id hbQ3
 have hsg := sIsEl_ok Q w3 (.agg #[.slice a1 n1 c1, .slice a2 n2 c2, .slice a3 n3 c3]) _ X _ _ ⟨_, _, _, rfl, HX.out.1⟩ HX.out.2.2.2.2.2
 have HSG := Lib.hid hsg; clear hsg
 go_wp2_with fail
 clear q0 q1 q2 q3 q4
 refine Calls.mono HSG.out ?_
 rintro e4 w4 ⟨v4, rfl, hg4, r, rfl, hr⟩
 clear HSG
 have hb4 := hb3.ext hg4
 have hbQ4 := hbQ3.ext hg4
 have hz4 := hg4.size
 have hX4 := And.intro (HX.out.1.ext hg4) (And.intro (HX.out.2.1.ext hg4) (And.intro (grown_trans HX.out.2.2.1 hg4) (And.intro HX.out.2.2.2.1 (And.intro HX.out.2.2.2.2.1 (Ints.ext HX.out.2.2.2.2.2 hg4)))))
 have HX := Lib.hid hX4; clear hX4 hb3 hbQ3 hg4
 cases r with
 | false =>
  clear hr
  obtain ⟨q0, q1, q2, q3, q4⟩ := id hbQ4
  have e0 : ∀ w', NearS w4 sb w.heap.size w' → w'.cell? ⟨pb, 0, none⟩ = some (.slice a1 n1 c1) := fun w' h => h.cell q1 (by simp; omega) (by simp; omega)
  have e1 : ∀ w', NearS w4 sb w.heap.size w' → w'.cell? ⟨pb, 1, none⟩ = some (.slice a2 n2 c2) := fun w' h => h.cell q2 (by simp; omega) (by simp; omega)
  have e2 : ∀ w', NearS w4 sb w.heap.size w' → w'.cell? ⟨pb, 2, none⟩ = some (.slice a3 n3 c3) := fun w' h => h.cell q3 (by simp; omega) (by simp; omega)
  clear q0 q1 q2 q3 q4
  go_wp2
  go_region_held3 (fun w' => NearS w4 sb w.heap.size w') (first | exact NearS.ext (grown_drew _ _) | exact NearS.of (by assumption) | exact NearS.two hg9 (grown_set3 _ _ _ _ _) | assumption)
   (first
    | (go_at_call 115; refine Calls.mono (l07Vectors_ok (sb + 1) w4.drew sb _ Q _ (by have := (grown_drew w4 none).size; omega) (HX.out.2.1.ext (grown_drew _ _)) ⟨_, _, _, rfl, HX.out.1.ext (grown_drew _ _)⟩ (fun k hk e => by have hk : wS.heap.size ≤ k := hk; omega) (by have := HX.out.2.2.2.1.1; omega)) ?_; rintro e9 w9 ⟨sv, rfl, hg9a, ⟨ya, yc, Y, rfl, hYl, hYo⟩, hs9⟩; have hg9 : w4.grownBy w9 (some sb) := grown_trans (grown_of_ext (some sb) (grown_drew _ _)) hg9a; have hb9 := hb4.moved hg9 (by omega); obtain ⟨b0, b1, b2, b3, b4⟩ := id hb9))
  have hdz := (grown_drew w4 none).size
  have hYi : Ints (From wS.heap.size) w9 (.slice ya Y.length yc) Y := ints_of_own hYo (by omega) (fun k hk => by have := (hYo.lt k hk).1; show wS.heap.size ≤ k; omega)
  clear hYo hg9a hs9
  have hZ := hb9.all (.slice a1 n1 c1) (.slice a2 n2 c2) (.slice a3 n3 c3)
  obtain ⟨-, z0, z1, z2, -⟩ := id hZ
  have hT := grown_set3 w9 w.heap.size (.slice a1 n1 c1) (.slice a2 n2 c2) (.slice a3 n3 c3)
  have hin : ∀ k, some w.heap.size = some k → k < wS.heap.size := fun k hk => by have := Option.some.inj hk; omega
  have hP3 := HX.out.1.keptB hg9 (fun k hk => by have := Option.some.inj hk; omega)
  have hXT : Ints (From w.heap.size) (((w9.setCell ⟨w.heap.size, 0, none⟩ (.slice a1 n1 c1)).setCell ⟨w.heap.size, 1, none⟩ (.slice a2 n2 c2)).setCell ⟨w.heap.size, 2, none⟩ (.slice a3 n3 c3)) (.slice xa X.length xc) X :=
   Ints.sub (Ints.mono (Ints.mono HX.out.2.2.2.2.2 (frame_of hg9 (fun k hk _ => ⟨hk, fun e => by have := Option.some.inj e; have hk : wS.heap.size ≤ k := hk; omega⟩))) (frame_of hT (fun k hk _ => ⟨hk, fun e => by have := Option.some.inj e; have hk : wS.heap.size ≤ k := hk; omega⟩))) (fun k hk _ => by have hk : wS.heap.size ≤ k := hk; show w.heap.size ≤ k; omega)
  have hYT : Ints (From w.heap.size) (((w9.setCell ⟨w.heap.size, 0, none⟩ (.slice a1 n1 c1)).setCell ⟨w.heap.size, 1, none⟩ (.slice a2 n2 c2)).setCell ⟨w.heap.size, 2, none⟩ (.slice a3 n3 c3)) (.slice ya Y.length yc) Y :=
   Ints.sub (Ints.mono hYi (frame_of hT (fun k hk _ => ⟨hk, fun e => by have := Option.some.inj e; have hk : wS.heap.size ≤ k := hk; omega⟩))) (fun k hk _ => by have hk : wS.heap.size ≤ k := hk; show w.heap.size ≤ k; omega)
  have hend : Ret w (VecsL 7 (LimOk 96) w.heap.size) (.returned (.tuple #[.agg #[.slice a1 n1 c1, .slice a2 n2 c2, .slice a3 n3 c3], .slice xa X.length xc, .slice ya Y.length yc])) (((w9.setCell ⟨w.heap.size, 0, none⟩ (.slice a1 n1 c1)).setCell ⟨w.heap.size, 1, none⟩ (.slice a2 n2 c2)).setCell ⟨w.heap.size, 2, none⟩ (.slice a3 n3 c3)) :=
   ⟨_, rfl, grown_own (grown_own HX.out.2.2.1 hg9 (fun j hj hlt => by have := Option.some.inj hj; omega)) hT (fun j hj hlt => by have := Option.some.inj hj; omega), _, _, _, _, _, Q, rfl, HX.out.2.2.2.1.1, (hP3.keptB hT hin).low (by omega), HX.out.2.2.2.1.2, ⟨X, HX.out.2.2.2.2.1, hXT⟩, Y, hYl, hYT⟩
  have HE := Lib.hid hend
  clear hend hT hZ hP3 hXT hYT hg9 e0 e1 e2 hYi hYl
  go_wp2_with fail
  refine bodyPost_ret (v := .tuple #[.agg #[.slice a1 n1 c1, .slice a2 n2 c2, .slice a3 n3 c3], .slice xa X.length xc, .slice ya Y.length yc]) (by simp [results, Tryz.results46, go_sem, z0, z1, z2]) rfl ?_
  exact HE.out
 | true =>
  obtain ⟨hrc, hXV⟩ := hr.1 rfl
  have G := grp_of_r hrc
  clear hr hrc
  have HXV := Lib.hid hXV; clear hXV
  go_wp2_with fail
  refine Calls.mono (l01Next_ok (sb + 1) w4 sb 3 HX.out.2.1) ?_
  rintro e5 w5 ⟨v5, rfl, hg5, x, rfl, _, hx, hs5⟩
  have hx3 := hx (by omega)
  have hz5 := hg5.size
  have hb5 := hb4.moved hg5 (by omega)
  have hbQ5 := hbQ4.moved hg5 (by omega)
  have hX5 := And.intro (HX.out.1.keptB hg5 (fun k hk => by have := Option.some.inj hk; omega)) (And.intro hs5 (And.intro (grown_own HX.out.2.2.1 hg5 (fun j hj hlt => by have := Option.some.inj hj; omega)) (And.intro HX.out.2.2.2.1 (And.intro HX.out.2.2.2.2.1 (Ints.mono HX.out.2.2.2.2.2 (frame_of hg5 (fun k hk _ => ⟨hk, fun e => by have := Option.some.inj e; have hk : wS.heap.size ≤ k := hk; omega⟩)))))))
  have HX := Lib.hid hX5; clear hX5 hb4 hbQ4 hg5 hs5 hx
  by_cases hx0 : 0 < x
  ·clear hx3
   obtain ⟨q0, q1, q2, q3, q4⟩ := id hbQ5
   have e0 : ∀ w', NearS w5 sb w.heap.size w' → w'.cell? ⟨pb, 0, none⟩ = some (.slice a1 n1 c1) := fun w' h => h.cell q1 (by simp; omega) (by simp; omega)
   have e1 : ∀ w', NearS w5 sb w.heap.size w' → w'.cell? ⟨pb, 1, none⟩ = some (.slice a2 n2 c2) := fun w' h => h.cell q2 (by simp; omega) (by simp; omega)
   have e2 : ∀ w', NearS w5 sb w.heap.size w' → w'.cell? ⟨pb, 2, none⟩ = some (.slice a3 n3 c3) := fun w' h => h.cell q3 (by simp; omega) (by simp; omega)
   clear q0 q1 q2 q3 q4
   go_wp2
   go_region_held3 (fun w' => NearS w5 sb w.heap.size w') (first | exact NearS.ext (grown_drew _ _) | exact NearS.of (by assumption) | exact NearS.two hg9 (grown_set3 _ _ _ _ _) | assumption)
    (first
     | (go_at_call 137; refine Calls.mono (l10Some_ok (sb + 1) w5.drew sb _ Q _ (by have := (grown_drew w5 none).size; omega) (HX.out.2.1.ext (grown_drew _ _)) ⟨_, _, _, rfl, HX.out.1.ext (grown_drew _ _)⟩ (fun k hk e => by have hk : wS.heap.size ≤ k := hk; omega) G.v) ?_; rintro e8 w8 ⟨xv, rfl, hg8a, ⟨za, zc, Z, rfl, hZv, hZo⟩, hs8⟩; have hg8 : w5.grownBy w8 (some sb) := grown_trans (grown_of_ext (some sb) (grown_drew _ _)) hg8a; have hZI := hZo.ints (by rw [hZv.1]; have := G.v.n6; omega); have hP8 := HX.out.1.keptB hg8 (fun k hk => by have := Option.some.inj hk; omega); have hX8 := Ints.mono HX.out.2.2.2.2.2 (frame_of hg8 (fun k hk _ => ⟨hk, fun e => by have := Option.some.inj e; have hk : wS.heap.size ≤ k := hk; omega⟩)))
     | (go_at_call 150; refine Calls.mono (l10Conj_ok Q G.v w8 _ _ _ X Z _ _ _ ⟨_, _, _, rfl, hP8⟩ hX8 hZI HXV.out hZv) ?_; rintro e9 w9 ⟨sv, rfl, hg9a, hYo⟩; have hg9 : w5.grownBy w9 (some sb) := grown_trans hg8 (grown_of_ext (some sb) hg9a); have hCV := G.conjV HXV.out hZv; obtain ⟨ya, yn, yc, hsv⟩ : ∃ a n c, sv = Value.slice a n c := (by obtain ⟨a, c, e, _⟩ := (hYo.ints (by rw [hCV.1]; have := G.v.n6; omega)).shape; exact ⟨_, _, _, e⟩); subst hsv; have hb9 := hb5.moved hg9 (by omega); obtain ⟨b0, b1, b2, b3, b4⟩ := id hb9))
   have hz8 := hg8.size
   have hn6 := G.v.n6
   obtain ⟨Y, hYe⟩ : ∃ Y, Y = rConj Q X Z := ⟨_, rfl⟩
   rw [← hYe] at hYo hCV
   have hYl : Y.length ≤ 21 := by rw [hCV.1]; omega
   have hYi : Ints (From wS.heap.size) w9 (.slice ya yn yc) Y := ints_of_own hYo (by omega) (fun k hk => by have := (hYo.lt k hk).1; show wS.heap.size ≤ k; omega)
   clear hYo hg9a hs8 hZI hP8 hX8 hZo hg8 hg8a hYe hCV
   have hZ := hb9.all (.slice a1 n1 c1) (.slice a2 n2 c2) (.slice a3 n3 c3)
   obtain ⟨-, z0, z1, z2, -⟩ := id hZ
   have hT := grown_set3 w9 w.heap.size (.slice a1 n1 c1) (.slice a2 n2 c2) (.slice a3 n3 c3)
   have hin : ∀ k, some w.heap.size = some k → k < wS.heap.size := fun k hk => by have := Option.some.inj hk; omega
   have hP3 := HX.out.1.keptB hg9 (fun k hk => by have := Option.some.inj hk; omega)
   have hXT : Ints (From w.heap.size) (((w9.setCell ⟨w.heap.size, 0, none⟩ (.slice a1 n1 c1)).setCell ⟨w.heap.size, 1, none⟩ (.slice a2 n2 c2)).setCell ⟨w.heap.size, 2, none⟩ (.slice a3 n3 c3)) (.slice xa X.length xc) X :=
    Ints.sub (Ints.mono (Ints.mono HX.out.2.2.2.2.2 (frame_of hg9 (fun k hk _ => ⟨hk, fun e => by have := Option.some.inj e; have hk : wS.heap.size ≤ k := hk; omega⟩))) (frame_of hT (fun k hk _ => ⟨hk, fun e => by have := Option.some.inj e; have hk : wS.heap.size ≤ k := hk; omega⟩))) (fun k hk _ => by have hk : wS.heap.size ≤ k := hk; show w.heap.size ≤ k; omega)
   have hYT : Ints (From w.heap.size) (((w9.setCell ⟨w.heap.size, 0, none⟩ (.slice a1 n1 c1)).setCell ⟨w.heap.size, 1, none⟩ (.slice a2 n2 c2)).setCell ⟨w.heap.size, 2, none⟩ (.slice a3 n3 c3)) (.slice ya yn yc) Y :=
    Ints.sub (Ints.mono hYi (frame_of hT (fun k hk _ => ⟨hk, fun e => by have := Option.some.inj e; have hk : wS.heap.size ≤ k := hk; omega⟩))) (fun k hk _ => by have hk : wS.heap.size ≤ k := hk; show w.heap.size ≤ k; omega)
   have hend : Ret w (VecsL 7 (LimOk 96) w.heap.size) (.returned (.tuple #[.agg #[.slice a1 n1 c1, .slice a2 n2 c2, .slice a3 n3 c3], .slice xa X.length xc, .slice ya yn yc])) (((w9.setCell ⟨w.heap.size, 0, none⟩ (.slice a1 n1 c1)).setCell ⟨w.heap.size, 1, none⟩ (.slice a2 n2 c2)).setCell ⟨w.heap.size, 2, none⟩ (.slice a3 n3 c3)) :=
    ⟨_, rfl, grown_own (grown_own HX.out.2.2.1 hg9 (fun j hj hlt => by have := Option.some.inj hj; omega)) hT (fun j hj hlt => by have := Option.some.inj hj; omega), _, _, _, _, _, Q, rfl, HX.out.2.2.2.1.1, (hP3.keptB hT hin).low (by omega), HX.out.2.2.2.1.2, ⟨X, HX.out.2.2.2.2.1, hXT⟩, Y, hYl, hYT⟩
   have HE := Lib.hid hend
   clear hend hT hZ hP3 hXT hYT hg9 e0 e1 e2 hYi hYl
   go_wp2_with fail
   refine bodyPost_ret (v := .tuple #[.agg #[.slice a1 n1 c1, .slice a2 n2 c2, .slice a3 n3 c3], .slice xa X.length xc, .slice ya yn yc]) (by simp [results, Tryz.results46, go_sem, z0, z1, z2]) rfl ?_
   exact HE.out
  ·clear hx3
   obtain ⟨q0, q1, q2, q3, q4⟩ := id hbQ5
   have e0 : ∀ w', NearS w5 sb w.heap.size w' → w'.cell? ⟨pb, 0, none⟩ = some (.slice a1 n1 c1) := fun w' h => h.cell q1 (by simp; omega) (by simp; omega)
   have e1 : ∀ w', NearS w5 sb w.heap.size w' → w'.cell? ⟨pb, 1, none⟩ = some (.slice a2 n2 c2) := fun w' h => h.cell q2 (by simp; omega) (by simp; omega)
   have e2 : ∀ w', NearS w5 sb w.heap.size w' → w'.cell? ⟨pb, 2, none⟩ = some (.slice a3 n3 c3) := fun w' h => h.cell q3 (by simp; omega) (by simp; omega)
   clear q0 q1 q2 q3 q4
   go_wp2
   go_region_held3 (fun w' => NearS w5 sb w.heap.size w') (first | exact NearS.ext (grown_drew _ _) | exact NearS.of (by assumption) | exact NearS.two hg9 (grown_set3 _ _ _ _ _) | assumption)
    (first
     | (go_at_call 115; refine Calls.mono (l07Vectors_ok (sb + 1) w5.drew sb _ Q _ (by have := (grown_drew w5 none).size; omega) (HX.out.2.1.ext (grown_drew _ _)) ⟨_, _, _, rfl, HX.out.1.ext (grown_drew _ _)⟩ (fun k hk e => by have hk : wS.heap.size ≤ k := hk; omega) (by have := HX.out.2.2.2.1.1; omega)) ?_; rintro e9 w9 ⟨sv, rfl, hg9a, ⟨ya, yc, Y, rfl, hYl, hYo⟩, hs9⟩; have hg9 : w5.grownBy w9 (some sb) := grown_trans (grown_of_ext (some sb) (grown_drew _ _)) hg9a; have hb9 := hb5.moved hg9 (by omega); obtain ⟨b0, b1, b2, b3, b4⟩ := id hb9))
   have hdz := (grown_drew w5 none).size
   have hYi : Ints (From wS.heap.size) w9 (.slice ya Y.length yc) Y := ints_of_own hYo (by omega) (fun k hk => by have := (hYo.lt k hk).1; show wS.heap.size ≤ k; omega)
   clear hYo hg9a hs9
   have hZ := hb9.all (.slice a1 n1 c1) (.slice a2 n2 c2) (.slice a3 n3 c3)
   obtain ⟨-, z0, z1, z2, -⟩ := id hZ
   have hT := grown_set3 w9 w.heap.size (.slice a1 n1 c1) (.slice a2 n2 c2) (.slice a3 n3 c3)
   have hin : ∀ k, some w.heap.size = some k → k < wS.heap.size := fun k hk => by have := Option.some.inj hk; omega
   have hP3 := HX.out.1.keptB hg9 (fun k hk => by have := Option.some.inj hk; omega)
   have hXT : Ints (From w.heap.size) (((w9.setCell ⟨w.heap.size, 0, none⟩ (.slice a1 n1 c1)).setCell ⟨w.heap.size, 1, none⟩ (.slice a2 n2 c2)).setCell ⟨w.heap.size, 2, none⟩ (.slice a3 n3 c3)) (.slice xa X.length xc) X :=
    Ints.sub (Ints.mono (Ints.mono HX.out.2.2.2.2.2 (frame_of hg9 (fun k hk _ => ⟨hk, fun e => by have := Option.some.inj e; have hk : wS.heap.size ≤ k := hk; omega⟩))) (frame_of hT (fun k hk _ => ⟨hk, fun e => by have := Option.some.inj e; have hk : wS.heap.size ≤ k := hk; omega⟩))) (fun k hk _ => by have hk : wS.heap.size ≤ k := hk; show w.heap.size ≤ k; omega)
   have hYT : Ints (From w.heap.size) (((w9.setCell ⟨w.heap.size, 0, none⟩ (.slice a1 n1 c1)).setCell ⟨w.heap.size, 1, none⟩ (.slice a2 n2 c2)).setCell ⟨w.heap.size, 2, none⟩ (.slice a3 n3 c3)) (.slice ya Y.length yc) Y :=
    Ints.sub (Ints.mono hYi (frame_of hT (fun k hk _ => ⟨hk, fun e => by have := Option.some.inj e; have hk : wS.heap.size ≤ k := hk; omega⟩))) (fun k hk _ => by have hk : wS.heap.size ≤ k := hk; show w.heap.size ≤ k; omega)
   have hend : Ret w (VecsL 7 (LimOk 96) w.heap.size) (.returned (.tuple #[.agg #[.slice a1 n1 c1, .slice a2 n2 c2, .slice a3 n3 c3], .slice xa X.length xc, .slice ya Y.length yc])) (((w9.setCell ⟨w.heap.size, 0, none⟩ (.slice a1 n1 c1)).setCell ⟨w.heap.size, 1, none⟩ (.slice a2 n2 c2)).setCell ⟨w.heap.size, 2, none⟩ (.slice a3 n3 c3)) :=
    ⟨_, rfl, grown_own (grown_own HX.out.2.2.1 hg9 (fun j hj hlt => by have := Option.some.inj hj; omega)) hT (fun j hj hlt => by have := Option.some.inj hj; omega), _, _, _, _, _, Q, rfl, HX.out.2.2.2.1.1, (hP3.keptB hT hin).low (by omega), HX.out.2.2.2.1.2, ⟨X, HX.out.2.2.2.2.1, hXT⟩, Y, hYl, hYT⟩
   have HE := Lib.hid hend
   clear hend hT hZ hP3 hXT hYT hg9 e0 e1 e2 hYi hYl
   go_wp2_with fail
   refine bodyPost_ret (v := .tuple #[.agg #[.slice a1 n1 c1, .slice a2 n2 c2, .slice a3 n3 c3], .slice xa X.length xc, .slice ya Y.length yc]) (by simp [results, Tryz.results46, go_sem, z0, z1, z2]) rfl ?_
   exact HE.out
end Go.Proofs.YtdcobapnlpeaaaaGreat
namespace Go.Proofs.YtdcobapnlpeaaaaGreat
open Go.Proofs Go.Shelf Go.RowKit Go.Lib Go.Sort
def Tryz.sortRows_ren : Go.Shelf.Ren := ⟨fun | 6 => 247 | 15 => 297 | 14 => 296 | 28 => 332 | 29 => 333 | 20 => 324 | 21 => 325 | 22 => 326 | 23 => 327 | 24 => 328 | 25 => 329 | 26 => 330 | 27 => 331 | 46 => 351 | 47 => 352 | 48 => 353 | 49 => 354 | 50 => 355 | 57 => 367 | n => n, fun | 22 => 25 | 24 => 24 | 25 => 195 | 3 => 3 | 39 => 139 | 0 => 0 | 53 => 266 | 55 => 62 | 4 => 4 | 46 => 260 | 45 => 259 | 50 => 193 | 5 => 5 | 9 => 9 | 66 => 281 | 70 => 285 | 76 => 296 | 77 => 297 | n => n, fun | n => n⟩
theorem Tryz.sortRows : Go.Proofs.SlLaysF.n6 Tryz.prog Tryz.sortRows_ren := {
  mixed := by kernel_rfl
  f6 := ⟨Tryz.f247.name, by decide, Tryz.func247.trans (congrArg some (by kernel_rfl))⟩
  f14 := ⟨Tryz.f296.name, by decide, Tryz.func296.trans (congrArg some (by kernel_rfl))⟩
  f15 := Tryz.func297.trans (congrArg some (by kernel_rfl))
  f20 := ⟨Tryz.f324.name, by decide, Tryz.func324.trans (congrArg some (by kernel_rfl))⟩
  f21 := ⟨Tryz.f325.name, by decide, Tryz.func325.trans (congrArg some (by kernel_rfl))⟩
  f22 := ⟨Tryz.f326.name, by decide, Tryz.func326.trans (congrArg some (by kernel_rfl))⟩
  f23 := ⟨Tryz.f327.name, by decide, Tryz.func327.trans (congrArg some (by kernel_rfl))⟩
  f24 := ⟨Tryz.f328.name, by decide, Tryz.func328.trans (congrArg some (by kernel_rfl))⟩
  f25 := ⟨Tryz.f329.name, by decide, Tryz.func329.trans (congrArg some (by kernel_rfl))⟩
  f26 := ⟨Tryz.f330.name, by decide, Tryz.func330.trans (congrArg some (by kernel_rfl))⟩
  f27 := ⟨Tryz.f331.name, by decide, Tryz.func331.trans (congrArg some (by kernel_rfl))⟩
  f28 := Tryz.func332.trans (congrArg some (by kernel_rfl))
  f29 := Tryz.func333.trans (congrArg some (by kernel_rfl))
  f46 := ⟨Tryz.f351.name, by decide, Tryz.func351.trans (congrArg some (by kernel_rfl))⟩
  f47 := Tryz.func352.trans (congrArg some (by kernel_rfl))
  f48 := Tryz.func353.trans (congrArg some (by kernel_rfl))
  f49 := ⟨Tryz.f354.name, by decide, Tryz.func354.trans (congrArg some (by kernel_rfl))⟩
  f50 := ⟨Tryz.f355.name, by decide, Tryz.func355.trans (congrArg some (by kernel_rfl))⟩
  f57 := ⟨Tryz.f367.name, by decide, Tryz.func367.trans (congrArg some (by kernel_rfl))⟩
  t0 := Tryz.underlying0
  a0 := Tryz.isAgg0
  z0 := Tryz.sizeOf0
  v0 := Tryz.zeroValue0
  t3 := Tryz.underlying3
  a3 := Tryz.isAgg3
  z3 := Tryz.sizeOf3
  v3 := Tryz.zeroValue3
  t4 := Tryz.underlying4
  a4 := Tryz.isAgg4
  z4 := Tryz.sizeOf4
  v4 := Tryz.zeroValue4
  t5 := Tryz.underlying5
  a5 := Tryz.isAgg5
  z5 := Tryz.sizeOf5
  v5 := Tryz.zeroValue5
  t9 := Tryz.underlying9
  a9 := Tryz.isAgg9
  z9 := Tryz.sizeOf9
  v9 := Tryz.zeroValue9
  t22 := Tryz.underlying25
  a22 := Tryz.isAgg25
  z22 := Tryz.sizeOf25
  v22 := Tryz.zeroValue25
  a24 := Tryz.isAgg24
  z24 := Tryz.sizeOf24
  t25 := Tryz.underlying195
  a25 := Tryz.isAgg195
  z25 := Tryz.sizeOf195
  v25 := Tryz.zeroValue195
  t39 := Tryz.underlying139
  a39 := Tryz.isAgg139
  z39 := Tryz.sizeOf139
  v39 := Tryz.zeroValue139
  t45 := Tryz.underlying259
  a45 := Tryz.isAgg259
  z45 := Tryz.sizeOf259
  v45 := Tryz.zeroValue259
  t46 := Tryz.underlying260
  a46 := Tryz.isAgg260
  z46 := Tryz.sizeOf260
  v46 := Tryz.zeroValue260
  t50 := Tryz.underlying193
  a50 := Tryz.isAgg193
  z50 := Tryz.sizeOf193
  v50 := Tryz.zeroValue193
  t53 := Tryz.underlying266
  a53 := Tryz.isAgg266
  z53 := Tryz.sizeOf266
  v53 := Tryz.zeroValue266
  t55 := Tryz.underlying62
  a55 := Tryz.isAgg62
  z55 := Tryz.sizeOf62
  v55 := Tryz.zeroValue62
  t66 := Tryz.underlying281
  a66 := Tryz.isAgg281
  z66 := Tryz.sizeOf281
  v66 := Tryz.zeroValue281
  t70 := Tryz.underlying285
  a70 := Tryz.isAgg285
  z70 := Tryz.sizeOf285
  v70 := Tryz.zeroValue285
  t76 := Tryz.underlying296
  a76 := Tryz.isAgg296
  z76 := Tryz.sizeOf296
  v76 := Tryz.zeroValue296
  t77 := Tryz.underlying297
  a77 := Tryz.isAgg297
  z77 := Tryz.sizeOf297
  v77 := Tryz.zeroValue297 }
end Go.Proofs.YtdcobapnlpeaaaaGreat
namespace Go.Proofs.YtdcobapnlpeaaaaGreat
open Go.Proofs Go.Shelf Go.RowKit Go.Lib Go.Sort
section
variable {α : Type} [Inhabited α] {enc : α → Value}
theorem holds_of_blockV {w : World} {g : Nat} {cur : Array Value} {e : TypeId} {ss : List α} (hb : w.heap[g]? = some (.cells cur e (0, 0))) (ht : cur.toList.take ss.length = ss.map enc) : Go.Sort.Holds enc w g 0 ss.toArray := by
 intro j hj
 have hj' : j < ss.length := by simpa using hj
 refine ⟨?_, by simp [World.frozen?, hb]⟩
 have h1 : (cur.toList.take ss.length)[j]? = (ss.map enc)[j]? := by rw [ht]
 rw [List.getElem?_take_of_lt hj'] at h1
 simp only [World.cell?, hb, Nat.zero_add]
 simp only [Option.isSome_none, Bool.false_eq_true, if_false]
 rw [← Array.getElem?_toList, h1]
 simp [hj']
theorem heap_sortedV {w : World} {g n : Nat} {os : Array Obj} {cur : Array Value} {e : TypeId} {fr : Nat × Nat} (d : Array α) (hb : w.heap[g]? = some (.cells cur e fr)) :
  (sortWorld enc w g 0 n d os).heap[g]? = some (.cells (putCells enc 0 d cur) e fr) := by
 have hg : g < w.heap.size := (Array.getElem?_eq_some_iff.1 hb).1
 unfold sortWorld
 rw [heap_grow_old _ _ (by simpa using hg)]
 simp [putRow, mapBlock, Sort.ahead, Array.getElem?_modify, hb, onCells]
theorem grownBy_sortedV {w : World} {g n : Nat} {os : Array Obj} (d : Array α) : w.grownBy (sortWorld enc w g 0 n d os) (some g) := by
 unfold sortWorld
 refine ⟨rfl, rfl, rfl, by simp, fun k hk hne => ?_⟩
 rw [heap_grow_old _ _ (by simpa using hk)]
 have : g ≠ k := fun e => hne (by rw [e])
 simp [putRow, mapBlock, Sort.ahead, Array.getElem?_modify, this]
theorem take_putCellsV (cur : Array Value) (ts : List α) (h : ts.length ≤ cur.size) : (putCells enc 0 ts.toArray cur).toList.take ts.length = ts.map enc := by
 apply List.ext_getElem?
 intro j
 by_cases hj : j < ts.length
 ·rw [List.getElem?_take_of_lt hj, Array.getElem?_toList]
  simp [putCells, hj, show j < cur.size by omega]
 ·rw [List.getElem?_take_eq_none (by omega), List.getElem?_eq_none (by simp; omega)]
theorem ownsRow_sortedV {w : World} {base g cap n : Nat} {e : TypeId} {os : Array Obj} {cur : Array Value} {ss ts : List α} (hl : ts.length = ss.length) (hbase : base ≤ g) (hb : w.heap[g]? = some (.cells cur e (0, 0)))
  (h1 : ss.length ≤ cap) (h2 : cap ≤ maxLen) (h3 : cur.size = cap * 1) :
  (sortWorld enc w g 0 n ts.toArray os).ownsRow base e 1 (.slice (some ⟨g, 0, none⟩) ss.length cap) ss.length (ts.map enc) :=
 ⟨by simp [hl], .inr ⟨g, cap, _, rfl, hbase, heap_sortedV _ hb, h1, h2, by simp [putCells, h3], by rw [Nat.mul_one, ← hl]; exact take_putCellsV cur ts (by omega)⟩⟩
end
def encAt (vs : List Value) (k : Nat) : Value := if k < vs.length then gt vs k else .slice none 0 0
def cfAt (L : List (List Int)) (i j : Nat) : Int := cmpL (gt L i) (gt L j)
theorem ltOf_true {L : List (List Int)} {x y : Nat} : ltOf (cfAt L) x y = true ↔ cmpL (gt L x) (gt L y) < 0 := by unfold ltOf; rw [decide_eq_true_iff]; rfl
theorem ltOf_false {L : List (List Int)} {x y : Nat} : ltOf (cfAt L) x y = false ↔ 0 ≤ cmpL (gt L x) (gt L y) := by
 unfold ltOf; rw [decide_eq_false_iff_not]; show ¬ (cmpL (gt L x) (gt L y) < 0) ↔ _; omega
theorem swo_cfAt (L : List (List Int)) : SWO (ltOf (cfAt L)) where
 irrefl x := by
  have := (cmpL_zero (gt L x) (gt L x)).2 rfl
  rw [ltOf_false]; omega
 trans x y z h k := by
  rw [ltOf_true] at *
  have h1 := cmpL_le_trans (gt L x) (gt L y) (gt L z) (by omega) (by omega)
  have h2 : cmpL (gt L x) (gt L z) ≠ 0 := by
   intro e
   rw [cmpL_zero] at e
   rw [e] at h
   have := cmpL_swap (gt L z) (gt L y)
   omega
  omega
 ntrans x y z h k := by
  rw [ltOf_false] at *
  have h1 := cmpL_swap (gt L x) (gt L y)
  have h2 := cmpL_swap (gt L y) (gt L z)
  have h3 := cmpL_swap (gt L x) (gt L z)
  have h4 := cmpL_le_trans (gt L z) (gt L y) (gt L x) (by omega) (by omega)
  omega
theorem encAt_one {vs : List Value} (h : ∀ i, i < vs.length → (gt vs i).oneCell' = true) : OneCell (encAt vs) := by
 intro k
 unfold encAt
 split
 ·exact h k (by assumption)
 ·rfl
theorem gt_inj {α : Type} [Inhabited α] {l : List α} (h : l.Nodup) {i j : Nat} (hi : i < l.length) (hj : j < l.length) (he : gt l i = gt l j) : i = j := by
 simp only [gt, List.getD_eq_getElem?_getD, List.getElem?_eq_getElem hi, List.getElem?_eq_getElem hj, Option.getD_some] at he
 rcases Nat.lt_trichotomy i j with h1 | h1 | h1
 ·exact absurd he (List.pairwise_iff_getElem.1 h i j hi hj h1)
 ·exact h1
 ·exact absurd he.symm (List.pairwise_iff_getElem.1 h j i hj hi h1)
theorem sortRows_ok (w : World) (v : Value) (L : List (List Int)) (B : Nat) (hL : RowsO B w v L) (hne : 0 < L.length) (hlen : L.length ≤ 1000000) :
  Calls Tryz.prog 247 #[v, .func (.func 245) #[] #[]] w fun e w' => e = .returned (.tuple #[]) ∧ RowsO B w' v (sortL L) ∧ w.grownBy w' v.ownBlock := by
 obtain ⟨vs, G, hvl, hO, hG, hd, hE⟩ := hL
 obtain ⟨_, ⟨rfl, h0⟩ | ⟨g, cap, cur, rfl, hBg, hb, hnc, hcm, hsz, hx⟩⟩ := hO
 ·omega
 have hgs : g < w.heap.size := (Array.getElem?_eq_some_iff.1 hb).1
 have hone : OneCell (encAt vs) := encAt_one fun i hi => by
  exact rdOwn.one (hE i (by omega))
 have hmap : (List.range L.length).map (encAt vs) = vs := by
  apply List.ext_getElem (by simp [hvl])
  intro j h1 h2
  simp [encAt, gt, h2]
 have hH : Go.Sort.Holds (encAt vs) w g 0 (List.range L.length).toArray := holds_of_blockV hb (by rw [hmap, List.length_range, ← hvl]; simpa using hx)
 have eg : ∀ args w, (callFunc 245 args).run Tryz.prog w = .ok (.enter 245 args) w := enters_of Tryz.func245 (by kernel_rfl) rfl
 have hcmp : CmpReads Tryz.prog 245 #[] (encAt vs) (cfAt L) g 0 (List.range L.length).toArray.size w := by
  intro m os dk _ x y
  have hgr : w.grownBy (sortWorld (encAt vs) w g 0 m dk os) (some g) := grownBy_sortedV dk
  have hread : ∀ k, Ints Any (sortWorld (encAt vs) w g 0 m dk os) (encAt vs k) (gt L k) := by
   intro k
   by_cases hk : k < vs.length
   ·have he := (hE k (by omega)).ints
    unfold encAt
    rw [if_pos hk]
    exact Ints.mono he (fun b hb2 hlt => ⟨trivial, Nat.lt_of_lt_of_le hlt hgr.size, hgr.block b hlt (fun e => (hG k b (by omega) hb2).2.1 (by cases e; rfl))⟩)
   ·have h1 : gt L k = [] := by simp [gt, show ¬ k < L.length by omega]; rfl
    unfold encAt
    rw [if_neg hk, h1]
    exact ⟨none, 0, rfl, ⟨by simp, by simp, fun _ => rfl⟩, fun i hi => by simp at hi⟩
  refine (sCompare_ok _ _ _ _ _ _ _ (hread x) (hread y)).mono ?_
  rintro e w' ⟨rfl, rfl⟩
  exact ⟨rfl, 0, rfl⟩
 have hcon := Any.slices_SortFunc Tryz.sortRows (encAt vs) hone (cfAt L) (swo_cfAt L) 245 #[] g 0 cap (List.range L.length).toArray w eg hcmp.lays hH hgs (by simp; omega)
 change Calls Tryz.prog 247 _ _ _ at hcon
 have hsz2 : (List.range L.length).toArray.size = vs.length := by simp [hvl]
 rw [hsz2] at hcon
 refine hcon.mono ?_
 rintro e w' ⟨he, d', n, os, ⟨hs1, _, hperm⟩, hsorted, rfl⟩
 have hts : d'.toList.length = L.length := by simpa [hvl] using hs1
 have hP : d'.toList.Perm (List.range L.length) := by
  have h1 : d'.extract 0 vs.length = d' := by
   apply Array.ext'
   rw [hvl, ← hts]; simp
  have h2 : (List.range L.length).toArray.extract 0 vs.length = (List.range L.length).toArray := by
   apply Array.ext'
   rw [hvl]; simp
  rw [h1, h2] at hperm
  simpa using hperm
 have hin : ∀ i, i < L.length → gt d'.toList i < L.length := fun i hi => by
  have := hP.subset (gt_mem (l := d'.toList) (i := i) (by omega))
  simpa using this
 have hnd : d'.toList.Nodup := hP.symm.nodup List.nodup_range
 have hmapL : (List.range L.length).map (gt L) = L := by
  apply List.ext_getElem (by simp)
  intro j h1 h2
  simp [gt, h2]
 have hsort : d'.toList.map (gt L) = sortL L := by
  refine sortL_unique ?_ ?_
  ·have := hP.map (gt L)
   rwa [hmapL] at this
  ·refine List.pairwise_iff_getElem.2 ?_
   intro i j hi hj hij
   have hi' : i < d'.size := by simpa using hi
   have hj' : j < d'.size := by simpa using hj
   have h1 := hsorted i j (Nat.zero_le _) hij (by rw [hs1, hsz2] at hj'; exact hj')
   rw [ltOf_false, getElem!_pos d' i hi', getElem!_pos d' j hj'] at h1
   have h2 := cmpL_swap (gt L d'[j]) (gt L d'[i])
   simp only [List.getElem_map, Array.getElem_toList]
   omega
 have hgr : w.grownBy (sortWorld (encAt vs) w g 0 n d' os) (some g) := grownBy_sortedV d'
 have hgv : ∀ i, i < L.length → gt (d'.toList.map (encAt vs)) i = gt vs (gt d'.toList i) := fun i hi => by
  have h1 : gt (d'.toList.map (encAt vs)) i = encAt vs (gt d'.toList i) := gt_map _ _ _ (by omega)
  rw [h1]; unfold encAt; rw [if_pos (by rw [hvl]; exact hin i hi)]
 have hgL : ∀ i, i < L.length → gt (sortL L) i = gt L (gt d'.toList i) := fun i hi => by
  rw [← hsort]; exact gt_map _ _ _ (by omega)
 have hsl : (sortL L).length = L.length := (sortL_perm L).length_eq
 refine ⟨he, ⟨d'.toList.map (encAt vs), fun i k => G (gt d'.toList i) k, by simp [hsl, ← hts], ?_, ?_, ?_, ?_⟩, hgr⟩
 ·have := ownsRow_sortedV (enc := encAt vs) (n := n) (os := os) (ss := List.range L.length) (ts := d'.toList) (by rw [hts, List.length_range]) hBg hb (by rw [List.length_range, ← hvl]; exact hnc) hcm hsz
  rw [List.length_range, ← hvl] at this
  unfold OwnV
  rw [show (d'.toList.map (encAt vs)).length = vs.length by rw [List.length_map, hts, hvl]]
  simpa using this
 ·intro i k hi hk
  obtain ⟨a1, a2, a3⟩ := hG _ k (hin i (by omega)) hk
  exact ⟨a1, a2, Nat.lt_of_lt_of_le a3 hgr.size⟩
 ·intro i j k hi hj hk hk'
  exact gt_inj hnd (by omega) (by omega) (hd _ _ k (hin i (by omega)) (hin j (by omega)) hk hk')
 ·intro i hi
  show OwnIn _ _ _ _
  rw [hgv i (by omega), hgL i (by omega)]
  have he := hE _ (hin i (by omega))
  exact rdOwn.mono he (fun b hb2 hlt => ⟨hb2, Nat.lt_of_lt_of_le hlt hgr.size, hgr.block b hlt (fun e => (hG _ b (hin i (by omega)) hb2).2.1 (by cases e; rfl))⟩)
end Go.Proofs.YtdcobapnlpeaaaaGreat
namespace Go.Proofs.YtdcobapnlpeaaaaGreat
open Go.RowKit
def FstI (q : Nat → Prop) (n : Nat) (r : Int) : Prop := (∃ k : Nat, r = k ∧ k < n ∧ q k ∧ ∀ j, j < k → ¬ q j) ∨ (r = -1 ∧ ∀ j, j < n → ¬ q j)
theorem FstI.one {q : Nat → Prop} {n : Nat} {r r' : Int} (h : FstI q n r) (h' : FstI q n r') : r = r' := by
 rcases h with ⟨k, rfl, hk, hq, hm⟩ | ⟨rfl, hm⟩
 ·rcases h' with ⟨k', rfl, hk', hq', hm'⟩ | ⟨rfl, hm'⟩
  ·rcases Nat.lt_trichotomy k k' with h1 | h1 | h1
   ·exact absurd hq (hm' k h1)
   ·rw [h1]
   ·exact absurd hq' (hm k' h1)
  ·exact absurd hq (hm' k hk)
 ·rcases h' with ⟨k', rfl, hk', hq', hm'⟩ | ⟨rfl, hm'⟩
  ·exact absurd hq' (hm k' hk')
  ·rfl
end Go.Proofs.YtdcobapnlpeaaaaGreat
namespace Go.Proofs.YtdcobapnlpeaaaaGreat
theorem FstI_ex (q : Nat → Prop) (n : Nat) : ∃ r, FstI q n r := by
 induction n with
 | zero => exact ⟨-1, .inr ⟨rfl, fun j hj => by omega⟩⟩
 | succ n ih =>
  obtain ⟨r, h⟩ := ih
  rcases h with ⟨k, rfl, hk, hq, hm⟩ | ⟨rfl, hm⟩
  ·exact ⟨k, .inl ⟨k, rfl, by omega, hq, hm⟩⟩
  ·by_cases h : q n
   ·exact ⟨n, .inl ⟨n, rfl, by omega, h, fun j hj => hm j hj⟩⟩
   ·exact ⟨-1, .inr ⟨rfl, fun j hj hq => by
     rcases Nat.lt_succ_iff_lt_or_eq.1 hj with h1 | h1
     ·exact hm j h1 hq
     ·rw [h1] at hq; exact h hq⟩⟩
section
variable {P : Pr} (G : Grp P)
include G
end
end Go.Proofs.YtdcobapnlpeaaaaGreat
namespace Go.Proofs.YtdcobapnlpeaaaaGreat
open Go.RowKit
set_option maxRecDepth 100000 in
set_option maxHeartbeats 2000000 in
theorem areElements_ok (Q : Pr) (w : World) (p lv : Value) (L : List (List Int)) (Sp Sl' : Nat → Prop) (hp : PresP Sp w p Q) (hl : Rows2 Sl' w lv L) :
  Calls Tryz.prog 133 #[p, lv] w (Ret w fun _ v => ∃ r : Bool, v = .bool r ∧ (r = true ↔ rconsB Q = true ∧ ∀ x ∈ L, Vec Q.orders x)) := by
 obtain ⟨pb, po, rfl⟩ := hp.shape
 obtain ⟨al, capl, rfl, _, _⟩ := Sl.shape hl
 obtain ⟨vo, vp, vc, _, _, hc0, hc1, hc2, h3⟩ := hp.at
 obtain ⟨ao, capo, rfl, _, _⟩ := h3.o.shape
 obtain ⟨ap, capp, rfl, _, _⟩ := Sl.shape h3.p
 obtain ⟨ac, capc, rfl, _, _⟩ := Sl.shape h3.c
 have hcon := isConsistent_ok Q w (.agg #[.slice ao Q.orders.length capo, .slice ap Q.powers.length capp, .slice ac Q.conj.length capc]) Sp ⟨_, _, _, rfl, h3⟩
 rw [icons_eq] at hcon
 go_enter Tryz.func133, Tryz.ntmps133
 go_wp2_with fail
 refine Calls.mono hcon ?_
 rintro e1 w1 ⟨v, rfl, hg1, rfl⟩
 clear hcon
 cases hq : rconsB Q with
 | false =>
  have HQ := Lib.hid hq; clear hq
  go_wp2
  go_ret
  exact ⟨_, rfl, hg1, false, rfl, by simp only [Bool.false_eq_true, false_iff]; rintro ⟨h, _⟩; rw [HQ.out] at h; cases h⟩
 | true =>
  have G := grp_of_r hq
  have hn6 := G.v.n6
  have HQ := Lib.hid hq; clear hq hc0 hc1 hc2
  go_wp2
  go_loopw [14] (fun jv wr => ∃ j : Nat, jv = .int .i64 j ∧ j ≤ L.length ∧ Ext w wr ∧ Hid (∀ l, l < j → Vec Q.orders (gt L l))) (fun jv _ => L.length - (intOf jv).toNat)
  case atStart => exact ⟨0, rfl, by omega, hg1, Lib.hid (fun j h => by omega)⟩
  case round =>
   obtain ⟨j, rfl, hj, hg, hV⟩ := hrel
   by_cases hjl : j < L.length
   ·have hjl' : (j : Int) < L.length := by omega
    obtain ⟨b3, off3, a3, cap3, rfl, _, _, hc3, hr3⟩ := Rows2.at (Rows2.ext hl hg) j hjl
    have hex := isExponents_ok wr _ _ Q (gt L j) Sp Sl' (hp.ext hg) hr3 (fun i hi => by have := G.v.ord7 i hi; omega)
    cases hb : expB Q.orders (gt L j) with
    | true =>
     rw [hb] at hex
     have HB := Lib.hid (expB_vec.1 hb); clear hb
     go_wp2_with fail
     refine Calls.mono hex ?_
     rintro eE wE ⟨rfl, rfl⟩
     clear hex
     go_wp2
     go_roundw
     case rel => exact ⟨j + 1, by go_num, by omega, hg, Lib.hid (fun l hl => by
      rcases Nat.lt_succ_iff_lt_or_eq.1 hl with h | h
      ·exact hV.out l h
      ·rw [h]; exact HB.out)⟩
     case measure => simp [intOf]; omega
    | false =>
     rw [hb] at hex
     have hno : ¬ ∀ x ∈ L, Vec Q.orders x := fun h => by
      have := expB_vec.2 (h _ (gtMem hjl))
      rw [hb] at this; cases this
     have HB := Lib.hid hno; clear hb hno
     go_wp2_with fail
     refine Calls.mono hex ?_
     rintro eE wE ⟨rfl, rfl⟩
     clear hex
     go_wp2
     go_ret
     exact ⟨_, rfl, hg, false, rfl, by simp only [Bool.false_eq_true, false_iff]; rintro ⟨_, h⟩; exact HB.out h⟩
   ·have hke : j = L.length := by omega
    subst hke
    go_wp2
    go_ret
    exact ⟨_, rfl, hg, true, rfl, by
     simp only [true_iff]
     refine ⟨HQ.out, fun x hx => ?_⟩
     obtain ⟨l, hl, rfl⟩ := List.getElem_of_mem hx
     rw [← gt_eq L l hl]; exact hV.out l hl⟩
end Go.Proofs.YtdcobapnlpeaaaaGreat
namespace Go.Proofs.YtdcobapnlpeaaaaGreat
open Go.RowKit
theorem rowsE1 {w : World} {v : Value} {l : List Int} {S : Nat → Prop} (h : Ints S w v l) : Rows2 Any (w.alloc (.cells #[v] 24)) (.slice (some ⟨w.heap.size, 0, none⟩) 1 1) [l] := by
 have hg : Ext w (w.alloc (.cells #[v] 24)) := World.grownBy_alloc _ _ _
 refine ⟨_, 1, rfl, ⟨by simp, by simp, fun h => by cases h⟩, fun i hi => ?_⟩
 obtain rfl : i = 0 := by simp at hi; omega
 exact ⟨w.heap.size, 0, v, rfl, trivial, by simp, by rw [World.cell?_alloc_at _ _ _ _ rfl]; rfl, Ints.sub (Ints.ext h hg) (fun _ _ _ => trivial)⟩
theorem rowsE2 {w : World} {v1 v2 : Value} {l1 l2 : List Int} {S1 S2 : Nat → Prop} (h1 : Ints S1 w v1 l1) (h2 : Ints S2 w v2 l2) : Rows2 Any (w.alloc (.cells #[v1, v2] 24)) (.slice (some ⟨w.heap.size, 0, none⟩) 2 2) [l1, l2] := by
 have hg : Ext w (w.alloc (.cells #[v1, v2] 24)) := World.grownBy_alloc _ _ _
 refine ⟨_, 2, rfl, ⟨by simp, by simp, fun h => by cases h⟩, fun i hi => ?_⟩
 have : i = 0 ∨ i = 1 := by simp at hi; omega
 rcases this with rfl | rfl
 ·exact ⟨w.heap.size, 0, v1, rfl, trivial, by simp, by rw [World.cell?_alloc_at _ _ _ _ rfl]; rfl, Ints.sub (Ints.ext h1 hg) (fun _ _ _ => trivial)⟩
 ·exact ⟨w.heap.size, 0, v2, rfl, trivial, by simp, by rw [World.cell?_alloc_at _ _ _ _ rfl]; rfl, Ints.sub (Ints.ext h2 hg) (fun _ _ _ => trivial)⟩
end Go.Proofs.YtdcobapnlpeaaaaGreat
namespace Go.Proofs.YtdcobapnlpeaaaaGreat
open Go.RowKit
theorem isZero_true {l : List Int} : isZeroB l = true ↔ ∀ k, k < l.length → gt l k = 0 := by
 unfold isZeroB allB
 simp
set_option maxRecDepth 100000 in
set_option maxHeartbeats 1000000 in
theorem orderOfElement_ok (P : Pr) (G : Grp P) (w : World) (p x : Value) (X : List Int) (Sp Sx : Nat → Prop) (hp : PresP Sp w p P) (hx : Ints Sx w x X) (hX : Vec P.orders X) :
  Calls Tryz.prog 102 #[p, x] w (Ret w fun _ v => ∃ m : Int, v = .int .i64 m ∧ 1 ≤ m ∧ m ≤ 729 ∧ pw P X m.toNat = zeros P.orders.length) := by
 have hP := G.v
 have hn6 := hP.n6
 obtain ⟨pb, po, rfl⟩ := hp.shape
 obtain ⟨ao, capo, hco0, hoi⟩ := hp.ordAt
 have HCO := Lib.hid hco0; clear hco0
 have h729 := hP.le729
 have hpre : ∀ d, d ≤ P.orders.length → prodTo P.orders d ≤ 729 := fun d hd => by have := hP.pre d hd; omega
 have HPRE := Lib.hid hpre; clear hpre h729
 go_enter Tryz.func102, Tryz.ntmps102
 go_wp2
 go_loopw [5, 6, 7] (fun kv dv nv wr => ∃ (d : Nat) (m : Int), dv = .int .i64 d ∧ kv = .int .i64 m ∧ d ≤ P.orders.length ∧ 1 ≤ m ∧ m ≤ prodTo P.orders d ∧ Ext w wr ∧ Ints Any wr nv (pw P X m.toNat) ∧ T P d (pw P X m.toNat)) (fun _ dv _ _ => P.orders.length - (intOf dv).toNat)
 case atStart =>
  have e : pw P X (1 : Int).toNat = X := G.pw_one hX
  exact ⟨0, 1, rfl, rfl, by omega, by omega, by simp [prodTo], Ext.refl _, by rw [e]; exact Ints.sub hx (fun _ _ _ => trivial), by rw [e]; exact T_zero.2 hX⟩
 case round =>
  obtain ⟨d, m, rfl, rfl, hd, hm1, hm2, hg, hN, hT⟩ := hrel
  obtain ⟨Y, hY⟩ : ∃ Y, Y = pw P X m.toNat := ⟨_, rfl⟩
  rw [← hY] at hN hT
  have HY := Lib.hid hY; clear hY
  have hm3 : m ≤ 729 := by have := HPRE.out d hd; omega
  have hNl : Y.length ≤ P.orders.length ∧ P.orders.length ≤ Y.length := by rw [hT.1.1]; omega
  obtain ⟨an, capn, rfl, _, _⟩ := hN.shape
  have HT := Lib.hid (And.intro hT hm2); clear hT hm2
  cases hz : isZeroB Y with
  | true =>
   have h0 : pw P X m.toNat = zeros P.orders.length := HY.out.symm.trans (Vec.ext HT.out.1.1 (zeros_vec hP) (fun k hk => by
    rw [isZero_true.1 hz k (by omega)]; exact (gt_replicate _ _).symm))
   have H0 := Lib.hid h0; clear h0
   go_wp2_with (go_at_call 208; refine (isZero_ok _ _ wr Any hN).mono ?_; rintro e1 w1 ⟨rfl, rfl⟩)
   go_ret
   exact ⟨_, rfl, hg, m, rfl, hm1, hm3, H0.out⟩
  | false =>
   have hdn : d < P.orders.length := by
    rcases Nat.lt_or_ge d P.orders.length with h | h
    ·exact h
    ·exfalso
     have : isZeroB Y = true := isZero_true.2 (fun k hk => HT.out.1.2 k (by omega))
     rw [hz] at this; cases this
   obtain ⟨b, off, hab, _, _, hc⟩ := Ints.at hN d (by omega)
   cases hab
   have hdl : (d : Int) < Y.length := by omega
   by_cases hx0 : gt Y d = 0
   ·have hb : (gt Y d != 0) = false := by simp [hx0]
    have hT2 := HT.out.1.up hx0
    have hm4 : m ≤ prodTo P.orders (d + 1) := by
     have h1 := HT.out.2
     have h2 := hP.ord7 d hdn
     have h3 : prodTo P.orders d * 1 ≤ prodTo P.orders d * gt P.orders d := Int.mul_le_mul_of_nonneg_left (by omega) (by omega)
     simp only [prodTo]; omega
    have HT2 := Lib.hid (And.intro hT2 hm4); clear hT2 hm4
    clear hx0
    go_wp2_with (go_at_call 208; refine (isZero_ok _ _ wr Any hN).mono ?_; rintro e1 w1 ⟨rfl, rfl⟩)
    go_roundw
    case rel => exact ⟨d + 1, m, by go_num, rfl, by omega, hm1, HT2.out.2, hg, by rw [← HY.out]; exact hN, by rw [← HY.out]; exact HT2.out.1⟩
    case measure => simp [intOf]; omega
   ·have hb : (gt Y d != 0) = true := by simp [hx0]
    have ho := hP.ord7 d hdn
    obtain ⟨b2, off2, hab2, _, _, hc2⟩ := Ints.at (hoi.ext hg) d hdn
    cases hab2
    have hco := hg.cell HCO.out (by simp)
    have hdo : (d : Int) < P.orders.length := by omega
    have hpw := G.pw_order hdn HT.out.1
    have e1 : pw P Y (gt P.orders d).toNat = pw P X (m * gt P.orders d).toNat := by
     rw [HY.out, ← G.pw_mul hX]
     congr 1
     have : ((m.toNat * (gt P.orders d).toNat : Nat) : Int) = m * gt P.orders d := by
      rw [Int.natCast_mul, show ((m.toNat : Nat) : Int) = m by omega, show (((gt P.orders d).toNat : Nat) : Int) = gt P.orders d by omega]
     omega
    rw [e1] at hpw
    have e2 : iPow P Y (gt P.orders d) = pw P X (m * gt P.orders d).toNat := by rw [G.iPow_eq HT.out.1.1]; exact e1
    have hm4 : m * gt P.orders d ≤ prodTo P.orders (d + 1) := Int.mul_le_mul_of_nonneg_right HT.out.2 (by omega)
    have hm5 : prodTo P.orders (d + 1) ≤ 729 := HPRE.out (d + 1) (by omega)
    have hm6 : 1 ≤ m * gt P.orders d := by
     have : 1 * 1 ≤ m * gt P.orders d := Int.mul_le_mul hm1 (by omega) (by omega) (by omega)
     omega
    have hwm : IntKind.i64.wrap (m * gt P.orders d) = m * gt P.orders d := IntWalk.i64_in _ (by omega)
    have HE := Lib.hid (And.intro e2 (And.intro hpw hm4)); clear e1 e2 hpw hm4 hx0
    go_wp2_with (first | (go_at_call 208; refine (isZero_ok _ _ wr Any hN).mono ?_; rintro e1 w1 ⟨rfl, rfl⟩) | fail)
    refine Calls.mono (power_ok P hP wr _ _ _ (gt P.orders d) _ _ (hp.ext hg) hN HT.out.1.1 (by omega)) ?_
    rintro eA wA ⟨vA, rfl, hgA, hOA⟩
    rw [HE.out.1] at hOA
    have hcoA := hgA.cell hco (by simp)
    have hc2A := hgA.cell hc2 (by simp)
    have hNA : Ints Any wA vA (pw P X (m * gt P.orders d).toNat) := hOA.ints (by rw [HE.out.2.1.1.1]; omega)
    clear hco hc2 hc
    go_wp2
    go_roundw
    case rel => exact ⟨d + 1, m * gt P.orders d, by go_num, rfl, by omega, hm6, HE.out.2.2, grown_trans hg hgA, hNA, HE.out.2.1⟩
    case measure => simp [intOf]; omega
end Go.Proofs.YtdcobapnlpeaaaaGreat
namespace Go.Proofs.YtdcobapnlpeaaaaGreat
open Go.RowKit
open Go.Maps (Keyed)
theorem und_seen : Tryz.prog.underlying 147 = some (.map 2 4) := by kernel_rfl
theorem und_bool : Tryz.prog.underlying 4 = some .bool := by kernel_rfl
theorem und_int64 : Tryz.prog.underlying 2 = some (.int .i64) := by kernel_rfl
def Seen (w : World) (b : Nat) (ns : List Int) : Prop :=
 ∃ (n : Nat) (D : DataW Unit), w.ownsMap Tryz.prog 2 (plainElem Tryz.prog 4) b n D ∧ n ≤ ns.length ∧ Maps.IsMap D ∧
  ∀ a : Int, (Lit.int .i64 a).wf = true → D.atKey (.int .i64 a) (.lit (.bool false)) = .lit (.bool (decide (a ∈ ns)))
theorem Seen.made (w : World) : Seen (w.alloc (.map #[] 0)) w.heap.size [] :=
 ⟨0, .map [], World.ownsMap_made _ _ _ _, Nat.le_refl _, Maps.isMap_empty, fun a _ => by simp [WideAt.atKey_none]⟩
theorem Seen.lt {w : World} {b : Nat} {ns : List Int} (h : Seen w b ns) : b < w.heap.size := by
 obtain ⟨n, D, h, _⟩ := h
 exact h.lt
theorem Seen.kept {w w' : World} {b : Nat} {ns : List Int} {r : Option Nat} (h : Seen w b ns) (hg : w.grownBy w' r) (hne : some b ≠ r) : Seen w' b ns := by
 obtain ⟨n, D, h, h2⟩ := h
 exact ⟨n, D, h.kept hg hne, h2⟩
theorem Seen.look {w : World} {b : Nat} {ns : List Int} (h : Seen w b ns) (a : Int) (ha : (Lit.int .i64 a).wf = true) :
  (Instr.lookup 147 (.map (some b)) (.int .i64 a) false).run Tryz.prog w = .ok (.bool (decide (a ∈ ns))) w := by
 obtain ⟨n, D, h, _, _, hat⟩ := h
 obtain ⟨v, ps, hrun, hv⟩ := h.lookup (Maps.int_keyed und_int64) und_seen (z := .bool false) (by kernel_rfl) (plainElem_bool und_bool false) (Maps.keyOf_int_mk und_int64 ha)
 rw [hat a ha] at hv
 have hvv : v = .bool (decide (a ∈ ns)) := by
  unfold plainElem at hv
  rw [und_bool] at hv
  cases v <;> simp at hv
  rw [hv.1]
 rw [hrun, hvv]
theorem Seen.update {w : World} {b : Nat} {ns : List Int} (h : Seen w b ns) (a : Int) (ha : (Lit.int .i64 a).wf = true) (hl : ns.length ≤ 1048576) :
  ∃ w', (Instr.mapUpdate 147 (.map (some b)) (.int .i64 a) (.bool true)).run Tryz.prog w = .ok () w' ∧ Seen w' b (a :: ns) ∧ w.grownBy w' (some b) := by
 obtain ⟨n, D, h, hn, hM, hat⟩ := h
 obtain ⟨w', hrun, hown, hg⟩ := h.update (Maps.int_keyed und_int64) und_seen (by unfold maxLen; omega) (Maps.keyOf_int_mk und_int64 ha) (plainElem_bool und_bool true)
 refine ⟨w', hrun, ⟨n + 1, _, hown, by simp; omega, hM.put _ _, ?_⟩, hg⟩
 intro c hc
 by_cases he : c = a
 ·subst he
  rw [Maps.atKey_put_same hM (by trivial)]
  simp
 ·rw [Maps.atKey_put_other (by intro e; cases e; exact he rfl), hat c hc]
  simp [he]
theorem Seen.congr {w : World} {b : Nat} {ns ms : List Int} (h : Seen w b ns) (hl : ns.length ≤ ms.length) (he : ∀ a, a ∈ ns ↔ a ∈ ms) : Seen w b ms := by
 obtain ⟨n, D, h1, h2, h3, h4⟩ := h
 exact ⟨n, D, h1, Nat.le_trans h2 hl, h3, fun a ha => by rw [h4 a ha]; simp [he a]⟩
end Go.Proofs.YtdcobapnlpeaaaaGreat
namespace Go.Proofs.YtdcobapnlpeaaaaGreat
open Go.RowKit
def bsTo (C : List (List Int)) (X : List Int) : Nat → Nat → Nat → Nat
 | 0, lo, _ => lo
 | f + 1, lo, hi => if lo < hi then (if cmpL (gt C ((lo + hi) / 2)) X < 0 then bsTo C X f ((lo + hi) / 2 + 1) hi else bsTo C X f lo ((lo + hi) / 2)) else lo
def bs (C : List (List Int)) (X : List Int) : Nat := bsTo C X (C.length + 1) 0 C.length
def bsFound (C : List (List Int)) (X : List Int) : Bool := decide (bs C X < C.length) && decide (cmpL (gt C (bs C X)) X = 0)
set_option maxHeartbeats 4000000 in
theorem binSearch_ok (c x : Value) (C : List (List Int)) (X : List Int) (w : World) (Sc Sx : Nat → Prop) (hc : Rows2 Sc w c C) (hx : Ints Sx w x X) (hlen : C.length ≤ 1048576) :
  Calls Tryz.prog 244 #[c, x, .func (.func 245) #[] #[]] w fun e w' => e = .returned (.tuple #[.int .i64 (bs C X : Nat), .bool (bsFound C X)]) ∧ w' = w := by
 obtain ⟨ac, capc, rfl, _, _⟩ := hc.shape
 go_enter Tryz.func244, Tryz.ntmps244
 go_wp2
 go_loopw [9, 10] (fun lv hv wr => ∃ lo hi f : Nat, lv = .int .i64 lo ∧ hv = .int .i64 hi ∧ lo ≤ hi ∧ hi ≤ C.length ∧ hi < lo + f ∧ wr = w ∧ bs C X = bsTo C X f lo hi) (fun lv hv _ => (intOf hv - intOf lv).toNat)
 case atStart => exact ⟨0, C.length, C.length + 1, rfl, rfl, by omega, by omega, by omega, rfl, rfl⟩
 case round =>
  obtain ⟨lo, hi, f, rfl, rfl, hlh, hhi, hf, rfl, hbs⟩ := hrel
  have HB := Lib.hid hbs; clear hbs
  by_cases hlt : lo < hi
  ·have hlt' : (lo : Int) < hi := by omega
   obtain ⟨f, rfl⟩ : ∃ f', f = f' + 1 := ⟨f - 1, by omega⟩
   have hbs := HB.out
   simp only [bsTo, if_pos hlt] at hbs
   have HB2 := Lib.hid hbs; clear hbs HB
   obtain ⟨mid, hmid⟩ : ∃ mid, (lo + hi) / 2 = mid := ⟨_, rfl⟩
   have hm1 : lo ≤ mid ∧ mid < hi := by omega
   obtain ⟨bc, oc, ac2, capc2, rfl, _, _, hcc, hci⟩ := Rows2.at hc mid (by omega)
   have hcon := sCompare_ok _ x (gt C mid) X wr _ _ hci hx
   go_wp2_with fail
   refine Calls.mono hcon ?_
   rintro e1 w1 ⟨rfl, rfl⟩
   clear hcon
   rw [hmid] at HB2
   by_cases hneg : cmpL (gt C mid) X < 0
   ·have hbs := HB2.out
    rw [if_pos hneg] at hbs
    have HB3 := Lib.hid hbs; clear hbs HB2 hcc
    go_wp2
    go_roundw
    case rel => exact ⟨mid + 1, hi, f, by go_num, rfl, by omega, by omega, by omega, trivial, HB3.out⟩
    case measure => simp [intOf]; omega
   ·have hbs := HB2.out
    rw [if_neg hneg] at hbs
    have HB3 := Lib.hid hbs; clear hbs HB2 hcc
    go_wp2
    go_roundw
    case rel => exact ⟨lo, mid, f, rfl, congrArg (Value.int .i64) (by omega), by omega, by omega, by omega, trivial, HB3.out⟩
    case measure => simp [intOf]; omega
  ·have hle : hi ≤ lo := by omega
   have hbs := HB.out
   have hbl : bs C X = lo := by
    rw [hbs]; cases f with
    | zero => rfl
    | succ f => simp only [bsTo, if_neg hlt]
   have HBL := Lib.hid hbl; clear hbl hbs HB
   have hbf : bsFound C X = (decide (lo < C.length) && decide (cmpL (gt C lo) X = 0)) := by unfold bsFound; rw [HBL.out]
   have HBF := Lib.hid hbf; clear hbf
   by_cases hin : lo < C.length
   ·obtain ⟨bc, oc, ac2, capc2, rfl, _, _, hcc, hci⟩ := Rows2.at hc lo hin
    have hcon := sCompare_ok _ x (gt C lo) X wr _ _ hci hx
    go_wp2_with fail
    refine Calls.mono hcon ?_
    rintro e1 w1 ⟨rfl, rfl⟩
    clear hcon
    go_wp2
    exact bodyPost_ret (v := .tuple #[.int .i64 lo, .bool (cmpL (gt C lo) X == 0)]) (by simp [results, Tryz.results244, go_sem]) rfl ⟨by rw [HBL.out, HBF.out]; simp [hin]; rfl, rfl⟩
   ·have hin' : C.length ≤ lo := by omega
    go_wp2
    exact bodyPost_ret (v := .tuple #[.int .i64 lo, .bool false]) (by simp [results, Tryz.results244, go_sem]) rfl ⟨by rw [HBL.out, HBF.out]; simp [hin], rfl⟩
set_option maxHeartbeats 4000000 in
theorem numClosure_ok (c x : Value) (pb : Nat) (C : List (List Int)) (X : List Int) (w : World) (Sc Sx : Nat → Prop) (hc : Rows2 Sc w c C) (hx : Ints Sx w x X) (hlen : C.length ≤ 1048576) (hp : w.cell? ⟨pb, 0, none⟩ = some x) :
  Calls Tryz.prog 243 #[c, .pointer (some ⟨pb, 0, none⟩)] w fun e w' => e = .returned (.bool (bsFound C X)) ∧ w' = w := by
 obtain ⟨ac, capc, rfl, _, _⟩ := hc.shape
 obtain ⟨ax, capx, rfl, _, _⟩ := hx.shape
 go_enter Tryz.func243, Tryz.ntmps243
 go_wp2_with fail
 refine Calls.mono (binSearch_ok _ _ C X w _ _ hc hx hlen) ?_
 rintro e1 w1 ⟨rfl, rfl⟩
 go_wp2
 exact bodyPost_ret (v := .bool (bsFound C X)) (by simp [results, Tryz.results243, go_sem]) rfl ⟨rfl, rfl⟩
def FirstAt (p : Nat → Bool) (n : Nat) (r : Int) : Prop := (∃ k : Nat, r = k ∧ k < n ∧ p k = true ∧ ∀ j, j < k → p j = false) ∨ (r = -1 ∧ ∀ j, j < n → p j = false)
set_option maxHeartbeats 4000000 in
theorem indexFunc_ok (cc x : Value) (pb : Nat) (CC : List (List (List Int))) (X : List Int) (w : World) (Sc Sx : Nat → Prop) (hc : Rows3 Sc w cc CC) (hx : Ints Sx w x X) (hlen : ∀ i, i < CC.length → (gt CC i).length ≤ 1048576) (hp : w.cell? ⟨pb, 0, none⟩ = some x) :
  Calls Tryz.prog 242 #[cc, .func (.func 243) #[] #[.pointer (some ⟨pb, 0, none⟩)]] w fun e w' => (∃ r : Int, e = .returned (.int .i64 r) ∧ FirstAt (fun i => bsFound (gt CC i) X) CC.length r) ∧ w' = w := by
 obtain ⟨ac, capc, rfl, _, _⟩ := Sl.shape hc
 go_enter Tryz.func242, Tryz.ntmps242
 go_wp2
 go_loopw [8] (fun v wr => ∃ k : Nat, v = .int .i64 k ∧ k ≤ CC.length ∧ wr = w ∧ ∀ j, j < k → bsFound (gt CC j) X = false) (fun v _ => CC.length - (intOf v).toNat)
 case atStart => exact ⟨0, rfl, by omega, rfl, fun j h => by omega⟩
 case round =>
  obtain ⟨k, rfl, hk, rfl, hno⟩ := hrel
  have HN := Lib.hid hno; clear hno
  by_cases hlt : k < CC.length
  ·have hlt' : (k : Int) < CC.length := by omega
   obtain ⟨bc, oc, ac2, capc2, rfl, _, _, hcc, hci⟩ := Rows3.at hc k hlt
   have hl := hlen k hlt
   have hcon := numClosure_ok _ x pb (gt CC k) X wr _ _ hci hx hl hp
   clear hp
   go_wp2_with fail
   refine Calls.mono hcon ?_
   rintro e1 w1 ⟨rfl, rfl⟩
   clear hcon
   cases hb : bsFound (gt CC k) X with
   | true =>
    have HB := Lib.hid hb; clear hb
    go_wp2
    exact bodyPost_ret (v := .int .i64 k) (by simp [results, Tryz.results242, go_sem]) rfl ⟨⟨_, rfl, .inl ⟨k, rfl, hlt, HB.out, HN.out⟩⟩, rfl⟩
   | false =>
    have HB := Lib.hid hb; clear hb hcc
    go_wp2
    go_roundw
    case rel => exact ⟨k + 1, by go_num, by omega, trivial, fun j hj => by
     rcases Nat.lt_or_ge j k with h | h
     ·exact HN.out j h
     ·have : j = k := by omega
      rw [this]; exact HB.out⟩
    case measure => simp [intOf]; omega
  ·have hke : k = CC.length := by omega
   subst hke
   go_wp2
   exact bodyPost_ret (v := .int .i64 (-1)) (by simp [results, Tryz.results242, go_sem]) rfl ⟨⟨_, rfl, .inr ⟨rfl, HN.out⟩⟩, rfl⟩
set_option maxHeartbeats 4000000 in
theorem classNumber_ok (cc x : Value) (CC : List (List (List Int))) (X : List Int) (w : World) (Sc Sx : Nat → Prop) (hc : Rows3 Sc w cc CC) (hx : Ints Sx w x X) (hlen : ∀ i, i < CC.length → (gt CC i).length ≤ 1048576) :
  Calls Tryz.prog 155 #[cc, x] w (Ret w fun _ v => ∃ r : Int, v = .int .i64 r ∧ FirstAt (fun i => bsFound (gt CC i) X) CC.length r) := by
 obtain ⟨ac, capc, rfl, _, _⟩ := Sl.shape hc
 obtain ⟨ax, capx, rfl, _, _⟩ := hx.shape
 go_enter Tryz.func155, Tryz.ntmps155
 go_wp2_with fail
 have hg0 : Ext w (w.alloc (.cells #[.slice ax X.length capx] 24)) := World.grownBy_alloc _ _ _
 refine Calls.mono (indexFunc_ok _ _ w.heap.size CC X _ _ _ (Rows3.ext hc hg0) (Ints.ext hx hg0) hlen (by rw [World.cell?_alloc_at _ _ _ _ rfl]; rfl)) ?_
 rintro e1 w1 ⟨⟨r, rfl, hr⟩, rfl⟩
 go_wp2
 exact bodyPost_ret (v := .int .i64 r) (by simp [results, Tryz.results155, go_sem]) rfl ⟨_, rfl, hg0, r, rfl, hr⟩
end Go.Proofs.YtdcobapnlpeaaaaGreat
namespace Go.Proofs.YtdcobapnlpeaaaaGreat
theorem bsTo_spec (C : List (List Int)) (X : List Int) (hs : SortedL C) : ∀ (f lo hi : Nat), hi < lo + f → lo ≤ hi → hi ≤ C.length →
  (∀ j, j < lo → cmpL (gt C j) X < 0) → (∀ j, hi ≤ j → j < C.length → 0 ≤ cmpL (gt C j) X) →
  bsTo C X f lo hi ≤ C.length ∧ (∀ j, j < bsTo C X f lo hi → cmpL (gt C j) X < 0) ∧ (∀ j, bsTo C X f lo hi ≤ j → j < C.length → 0 ≤ cmpL (gt C j) X) := by
 intro f
 induction f with
 | zero => intro lo hi h1 h2; omega
 | succ f ih =>
  intro lo hi h1 h2 h3 h4 h5
  simp only [bsTo]
  by_cases hlt : lo < hi
  ·rw [if_pos hlt]
   by_cases hn : cmpL (gt C ((lo + hi) / 2)) X < 0
   ·rw [if_pos hn]
    refine ih _ _ (by omega) (by omega) h3 ?_ h5
    intro j hj
    have h6 := sortedL_le hs (show j ≤ (lo + hi) / 2 by omega) (by omega)
    have h7 : ¬ (0 ≤ cmpL (gt C j) X) := by
     intro h8
     have h9 := cmpL_swap (gt C j) X
     have h10 := cmpL_le_trans X (gt C j) (gt C ((lo + hi) / 2)) (by omega) h6
     have h11 := cmpL_swap (gt C ((lo + hi) / 2)) X
     omega
    omega
   ·rw [if_neg hn]
    refine ih _ _ (by omega) (by omega) (by omega) h4 ?_
    intro j hj hj2
    have h6 := sortedL_le hs (show (lo + hi) / 2 ≤ j by omega) hj2
    have h7 : ¬ (cmpL (gt C j) X < 0) := by
     intro h8
     have h10 := cmpL_le_trans (gt C ((lo + hi) / 2)) (gt C j) X h6 (by omega)
     have h11 : cmpL (gt C ((lo + hi) / 2)) X = 0 := by omega
     rw [cmpL_zero] at h11
     rw [h11] at h6
     have := cmpL_swap X (gt C j)
     omega
    omega
  ·rw [if_neg hlt]
   exact ⟨by omega, h4, fun j hj hj2 => h5 j (by omega) hj2⟩
theorem bsFound_mem (C : List (List Int)) (X : List Int) (hs : SortedL C) : bsFound C X = decide (X ∈ C) := by
 obtain ⟨h1, h2, h3⟩ := bsTo_spec C X hs (C.length + 1) 0 C.length (by omega) (by omega) (Nat.le_refl _) (fun j hj => by omega) (fun j hj hj2 => by omega)
 have hb : bs C X = bsTo C X (C.length + 1) 0 C.length := rfl
 rw [← hb] at h1 h2 h3
 by_cases hm : X ∈ C
 ·obtain ⟨i, hi, hx⟩ := mem_gt hm
  have h0 : cmpL (gt C i) X = 0 := (cmpL_zero _ _).2 hx
  have hbi : bs C X ≤ i := by
   rcases Nat.lt_or_ge i (bs C X) with h | h
   ·have := h2 i h; omega
   ·exact h
  have h4 := h3 (bs C X) (Nat.le_refl _) (by omega)
  have h5 := sortedL_le hs hbi hi
  rw [hx] at h5
  have h6 : cmpL (gt C (bs C X)) X = 0 := by omega
  simp [bsFound, hm, h6]; omega
 ·by_cases hl : bs C X < C.length
  ·have : cmpL (gt C (bs C X)) X ≠ 0 := by
    intro h
    rw [cmpL_zero] at h
    exact hm (h ▸ gt_mem hl)
   simp [bsFound, hm, this]
  ·simp [bsFound, hm]; omega
end Go.Proofs.YtdcobapnlpeaaaaGreat
namespace Go.Proofs.YtdcobapnlpeaaaaGreat
open Go.RowKit
open Classical in
noncomputable def clsCode (P : Pr) (ok : Bool) : Int := if ok then (if ordP P > 128 then 3 else 0) else 1
def marksTo (P : Pr) (X : List Int) : Nat → List Bool
 | 0 => List.replicate (ordP P).toNat false
 | k + 1 => (marksTo P X k).set (num P (rConj P X (elAt P (k : Int)))).toNat true
theorem marksTo_len (P : Pr) (X : List Int) (k : Nat) : (marksTo P X k).length = (ordP P).toNat := by
 induction k with
 | zero => simp [marksTo]
 | succ k ih => simp [marksTo, ih]
/-! ### the classes -/
def fillTo (N : Nat) : Nat → List Int
 | 0 => List.replicate N 0
 | j + 1 => (fillTo N j).set j (-1)
theorem fillTo_len (N j : Nat) : (fillTo N j).length = N := by
 induction j with
 | zero => simp [fillTo]
 | succ j ih => simp [fillTo, ih]
def paint (m : List Bool) (c : Int) (L : List Int) : Nat → List Int
 | 0 => L
 | j + 1 => if gt m j = true then (paint m c L j).set j c else paint m c L j
theorem paint_len (m : List Bool) (c : Int) (L : List Int) (j : Nat) : (paint m c L j).length = L.length := by
 induction j with
 | zero => rfl
 | succ j ih => simp only [paint]; split <;> simp [ih]
def clsTo (P : Pr) : Nat → List Int × Nat
 | 0 => (fillTo (ordP P).toNat (ordP P).toNat, 0)
 | k + 1 => if 0 ≤ gt (clsTo P k).1 k then clsTo P k else (paint (marksTo P (elAt P (k : Int)) (ordP P).toNat) (clsTo P k).2 (clsTo P k).1 (ordP P).toNat, (clsTo P k).2 + 1)
theorem clsTo_len (P : Pr) (k : Nat) : (clsTo P k).1.length = (ordP P).toNat := by
 induction k with
 | zero => simp [clsTo, fillTo_len]
 | succ k ih => simp only [clsTo]; split <;> simp [paint_len, ih]
def rCls (P : Pr) : List Int × Nat := clsTo P (ordP P).toNat
theorem gt_set {α : Type} [Inhabited α] (l : List α) (i j : Nat) (x : α) (hj : j < l.length) : gt (l.set i x) j = if i = j then x else gt l j := by
 simp only [gt, List.getD_eq_getElem?_getD]
 rw [List.getElem?_set]
 by_cases h : i = j
 ·subst h; simp [hj]
 ·simp [h]
end Go.Proofs.YtdcobapnlpeaaaaGreat
