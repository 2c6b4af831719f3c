/-
  Lists of lists that a call builds by append: each row in blocks of its own.
  spec.IsPresentation; orders of groups.
  Numbers of elements: impl.numberOf, spec.l10Number, impl.elementAt, spec.l10At, spec.l10One.
  impl.allElements, impl.generators.
  Words of memory that laws and functions share: places in rows, rows in blocks of their own, a presentation in blocks of its own, a struct of three cells, what a law keeps in view.
  Lists of lists that a call builds by append, none of whose blocks is in A (a map that is written beside them).
  Rows of bools of the call's own; a region that ends in a store.
  The reference's inverse, conjugate and power: spec.l10From, l10Inv, l10Conj, l08Repeat.
  Plain: a level without a fault makes the tail before it a group; so the two sides' words 'consistent' agree, and in a consistent presentation the two products.
  Plain: the two sides' inverses and conjugates in a consistent presentation.
  cmp.Compare at int64 and slices.Compare at []int64.
  The order of slices.Compare is a total order on lists of integers. Plain.
  Plain: generated subgroups of sets; intersections.
  Drawing: spec.l18Draw (printed by gen_dtop.py).
  Drawing: spec.DrawClassSizes (printed by gen_dtop.py).
  The library's sort at [][]int64, laid from the shelf.
  A row that the call has built, sorted by the library: any elements of one cell. (After the library's Sort/OwnSortedInts, at a general reading.)
  The map of numbers seen, of impl.classOf: a set of integers.
  Finding an element: slices.BinarySearchFunc with slices.Compare, slices.IndexFunc, impl.classNumber.
  Plain: a search in a sorted row finds just its members.
  The reference's classes: spec.l18Code, l18Marks, l18Classes, ClassSizes.
  The orbit that impl.classOf collects. Plain.
  impl.classOf: the class of an element, sorted.
  impl.classesOf, impl.ClassSizes.
-/
import Derived.Test.YtdcobapnlpeaaaaGreatK9
import Derived.Test.YtdcobapnlpeaaaaGreatK1
import Derived.Test.YtdcobapnlpeaaaaGreatK2
import Derived.Test.YtdcobapnlpeaaaaGreatK3
import Derived.Test.YtdcobapnlpeaaaaGreatK4
import Derived.Test.YtdcobapnlpeaaaaGreatK5
import Derived.Test.YtdcobapnlpeaaaaGreatK6
import Derived.Test.YtdcobapnlpeaaaaGreatK7
import Derived.Test.YtdcobapnlpeaaaaGreatK8
import Derived.Laws.BitsAllLaws
import Derived.Deep.RegionHeld3
import Derived.BigRegion
import Derived.Shelf.SlSortCmp.NoneTotal
import Derived.Sort.OwnSortedInts
import Derived.Maps.OwnSet
namespace Go.Proofs.YtdcobapnlpeaaaaGreat
open Go.RowKit
theorem SlD.mono {α : Type} [Inhabited α] {El : (Nat → Prop) → World → Value → α → Prop} (hEl : RdOk El) {F F' : Nat → Prop} {w w' : World} {v : Value} {xs : List α} (h : SlD El F w v xs)
  (hb : ∀ k, F k → k < w.heap.size → F' k ∧ k < w'.heap.size ∧ w'.heap[k]? = w.heap[k]?) : SlD El F' w' v xs := by
 obtain ⟨G, H, h1, h2, h3, a, cap, hv, hl, hc⟩ := h
 refine ⟨fun i k => G i k ∧ k < w.heap.size, fun k => H k ∧ k < w.heap.size, fun k hk => (hb k (h1 k hk.1) hk.2).1, fun i k hi hk => ⟨(hb k (h2 i k hi hk.1).1 hk.2).1, fun h => (h2 i k hi hk.1).2 h.1⟩,
  fun i j k hi hj hk hk' => h3 i j k hi hj hk.1 hk'.1, a, cap, hv, hl, fun i hi => ?_⟩
 obtain ⟨b, off, u, e1, e2, e3, e4, e5⟩ := hc i hi
 obtain ⟨f1, f2, f3⟩ := hb b (h1 b e2) e3
 exact ⟨b, off, u, e1, ⟨e2, e3⟩, f2, (World.cell?_of_block (w := w) f3).trans e4, hEl.mono e5 (fun k hk hlt => ⟨⟨hk, hlt⟩, (hb k (h2 i k hi hk).1 hlt).2⟩)⟩
theorem rdRows : RdOk (fun F w u (x : List (List Int)) => RowsD F w u x) :=
 ⟨fun h hb => SlD.mono rdOwn h hb, fun h => by obtain ⟨_, _, _, _, _, a, cap, rfl, _⟩ := h; rfl⟩
end Go.Proofs.YtdcobapnlpeaaaaGreat
namespace Go.Proofs.YtdcobapnlpeaaaaGreat
open Go.RowKit
set_option maxHeartbeats 400000 in
theorem orderOf_ok (w : World) (p : Value) (P : Pr) (S : Nat → Prop) (hP : Valid P) (hp : PresP S w p P) :
  Calls Tryz.prog 110 #[p] w fun e w' => e = .returned (.int .i64 (ordP P)) ∧ w = w' := by
 obtain ⟨pb, po, rfl⟩ := hp.shape
 obtain ⟨ao, capo, hco, hoi⟩ := hp.ordAt
 have hn6 := hP.n6
 go_enter Tryz.func110, Tryz.ntmps110
 go_wp2
 go_loop [3, 11] (fun pr i => ∃ k : Nat, i = .int .i64 k ∧ pr = .int .i64 (prodTo P.orders k) ∧ k ≤ P.orders.length) (fun _ i => P.orders.length - (intOf i).toNat)
 case atStart => exact ⟨0, rfl, rfl, by omega⟩
 case round =>
  obtain ⟨k, rfl, rfl, hk⟩ := hrel
  by_cases hlt : k < P.orders.length
  ·obtain ⟨b, off, rfl, _, _, hc⟩ := Ints.at hoi k hlt
   have h1 := hP.pre (k + 1) hlt
   have h0 := prodTo_pos (l := P.orders) (k + 1) (fun i hi => hP.pos i (by omega))
   have hm0 : 0 ≤ prodTo P.orders k * gt P.orders k := by simp only [prodTo] at h0; omega
   have hm1 : prodTo P.orders k * gt P.orders k ≤ 729 := h1
   clear h0 h1
   go_wp2
   go_round
   case rel => exact ⟨k + 1, by go_num, rfl, by omega⟩
   case measure => simp [intOf]; omega
  ·have hke : k = P.orders.length := by omega
   subst hke
   go_wp2
   go_ret
   exact ⟨rfl, rfl⟩
set_option maxHeartbeats 400000 in
theorem l10Order_ok (w : World) (pv : Value) (P : Pr) (S : Nat → Prop) (hP : Valid P) (hp : PresV S w pv P) :
  Calls Tryz.prog 105 #[pv] w (Ret w fun _ v => v = .int .i64 (ordP P)) := by
 obtain ⟨vo, vp, vc, rfl, h3⟩ := hp
 have hB := PresP.box h3 28
 obtain ⟨ao, capo, hco, hoi⟩ := hB.ordAt
 have hn6 := hP.n6
 go_enter Tryz.func105, Tryz.ntmps105
 go_wp2
 go_loop [3, 4] (fun pr i => ∃ k : Nat, i = .int .i64 k ∧ pr = .int .i64 (prodTo P.orders k) ∧ k ≤ P.orders.length) (fun _ i => P.orders.length - (intOf i).toNat)
 case atStart => exact ⟨0, rfl, rfl, by omega⟩
 case round =>
  obtain ⟨k, rfl, rfl, hk⟩ := hrel
  by_cases hlt : k < P.orders.length
  ·obtain ⟨b, off, rfl, _, _, hc⟩ := Ints.at hoi k hlt
   have h1 := hP.pre (k + 1) hlt
   have h0 := prodTo_pos (l := P.orders) (k + 1) (fun i hi => hP.pos i (by omega))
   have hm0 : 0 ≤ prodTo P.orders k * gt P.orders k := by simp only [prodTo] at h0; omega
   have hm1 : prodTo P.orders k * gt P.orders k ≤ 729 := h1
   clear h0 h1
   go_wp2
   go_round
   case rel => exact ⟨k + 1, by go_num, rfl, by omega⟩
   case measure => simp [intOf]; omega
  ·have hke : k = P.orders.length := by omega
   subst hke
   go_wp2
   go_ret
   exact ⟨_, rfl, World.grownBy_alloc _ _ _, rfl⟩
end Go.Proofs.YtdcobapnlpeaaaaGreat
namespace Go.Proofs.YtdcobapnlpeaaaaGreat
open Go.RowKit
set_option maxHeartbeats 400000 in
theorem numberOf_ok (P : Pr) (hP : Valid P) (w : World) (p x : Value) (X : List Int) (Sp Sx : Nat → Prop) (hp : PresP Sp w p P) (hx : Ints Sx w x X) (hX : Vec P.orders X) :
  Calls Tryz.prog 177 #[p, x] w fun e w' => e = .returned (.int .i64 (num P X)) ∧ w = w' := by
 have hn6 := hP.n6
 have hlX : X.length ≤ P.orders.length ∧ P.orders.length ≤ X.length := by rw [hX.1]; omega
 obtain ⟨pb, po, rfl⟩ := hp.shape
 obtain ⟨ax, capx, rfl, _, _⟩ := hx.shape
 obtain ⟨ao, capo, hco, hoi⟩ := hp.ordAt
 go_enter Tryz.func177, Tryz.ntmps177
 go_wp2
 go_loop [5, 10] (fun nv i => ∃ k : Nat, i = .int .i64 k ∧ nv = .int .i64 (numTo P.orders X k) ∧ k ≤ X.length) (fun _ i => X.length - (intOf i).toNat)
 case atStart => exact ⟨0, rfl, rfl, by omega⟩
 case round =>
  obtain ⟨k, rfl, rfl, hk⟩ := hrel
  by_cases hlt : k < X.length
  ·obtain ⟨b, off, rfl, _, _, hc⟩ := Ints.at hx k hlt
   obtain ⟨b2, off2, rfl, _, _, hc2⟩ := Ints.at hoi k (by omega)
   have h1 := numTo_bd hP hX (k + 1) (by omega)
   have h2 := hP.pre (k + 1) (by omega)
   have h3 := hX.2 k (by omega)
   have h4 := numTo_bd hP hX k (by omega)
   have h7 := hP.ord7 k (by omega)
   have h5 : 0 ≤ numTo P.orders X k * gt P.orders k := Int.mul_nonneg h4.1 (by omega)
   have h6 : numTo P.orders X k * gt P.orders k ≤ 729 := by simp only [numTo] at h1; omega
   have h8 : 0 ≤ gt X k := h3.1
   have h9 : gt X k ≤ 7 := by omega
   clear h1 h2 h3 h4 h7
   go_wp2
   go_round
   case rel => exact ⟨k + 1, by go_num, rfl, by omega⟩
   case measure => simp [intOf]; omega
  ·have hke : k = P.orders.length := by omega
   subst hke
   go_wp2
   go_ret
   exact ⟨rfl, rfl⟩
set_option maxHeartbeats 400000 in
theorem l10Number_ok (P : Pr) (hP : Valid P) (w : World) (pv x : Value) (X : List Int) (Sp Sx : Nat → Prop) (hp : PresV Sp w pv P) (hx : Ints Sx w x X) (hX : Vec P.orders X) :
  Calls Tryz.prog 255 #[pv, x] w (Ret w fun _ v => v = .int .i64 (num P X)) := by
 obtain ⟨vo, vp, vc, rfl, h3⟩ := hp
 have hn6 := hP.n6
 have hlX : X.length ≤ P.orders.length ∧ P.orders.length ≤ X.length := by rw [hX.1]; omega
 have hB := PresP.box h3 28
 have hg0 : Ext w (w.alloc (.cells #[vo, vp, vc] 28)) := World.grownBy_alloc _ _ _
 have hx0 := hx.ext hg0
 obtain ⟨ax, capx, rfl, _, _⟩ := hx.shape
 go_enter Tryz.func255, Tryz.ntmps255
 go_wp2
 generalize hw0 : w.alloc (.cells #[vo, vp, vc] 28) = w0 at *
 clear hw0
 go_loopw [5, 6] (fun nv i wr => ∃ k : Nat, i = .int .i64 k ∧ nv = .int .i64 (numTo P.orders X k) ∧ k ≤ X.length ∧ Ext w0 wr) (fun _ i _ => X.length - (intOf i).toNat)
 case atStart => exact ⟨0, rfl, rfl, by omega, Ext.refl _⟩
 case round =>
  obtain ⟨k, rfl, rfl, hk, hg⟩ := hrel
  by_cases hlt : k < X.length
  ·obtain ⟨ao, capo, hco, hoi⟩ := (hB.ext hg).ordAt
   obtain ⟨b, off, rfl, _, _, hc⟩ := Ints.at (hx0.ext hg) k hlt
   obtain ⟨b2, off2, rfl, _, _, hc2⟩ := Ints.at hoi k (by omega)
   have h1 := numTo_bd hP hX (k + 1) (by omega)
   have h2 := hP.pre (k + 1) (by omega)
   have h3 := hX.2 k (by omega)
   have h4 := numTo_bd hP hX k (by omega)
   have h7 := hP.ord7 k (by omega)
   have h5 : 0 ≤ numTo P.orders X k * gt P.orders k := Int.mul_nonneg h4.1 (by omega)
   have h6 : numTo P.orders X k * gt P.orders k ≤ 729 := by simp only [numTo] at h1; omega
   have h8 : 0 ≤ gt X k := h3.1
   have h9 : gt X k ≤ 7 := by omega
   have hk1 : (k : Int) < X.length := by omega
   have hk2 : (k : Int) < P.orders.length := by omega
   have s1 : IntKind.i64.wrap (numTo P.orders X k * gt P.orders k) = numTo P.orders X k * gt P.orders k := IntWalk.i64_in _ (by omega)
   have s2 : IntKind.i64.wrap (numTo P.orders X k * gt P.orders k + gt X k) = numTo P.orders X k * gt P.orders k + gt X k := IntWalk.i64_in _ (by omega)
   clear h1 h2 h3 h4 h7
   go_wp2
   go_quiet (fail)
   clear s1 s2
   go_wp2
   go_roundw
   case rel => exact ⟨k + 1, by go_num, rfl, by omega, grown_trans hg (grown_drewN _ _ _)⟩
   case measure => simp [intOf]; omega
  ·have hke : k = P.orders.length := by omega
   subst hke
   go_wp2
   go_ret
   exact ⟨_, rfl, grown_trans hg0 hg, rfl⟩
set_option maxHeartbeats 400000 in
theorem l10One_ok (P : Pr) (hP : Valid P) (w : World) (pv : Value) (Sp : Nat → Prop) (hp : PresV Sp w pv P) :
  Calls Tryz.prog 212 #[pv] w (Ret w fun w' v => Own w.heap.size w' v (zeros P.orders.length)) := by
 obtain ⟨vo, vp, vc, rfl, h3⟩ := hp
 have hn6 := hP.n6
 have hB := PresP.box h3 28
 obtain ⟨ao, capo, hco, hoi⟩ := hB.ordAt
 go_enter Tryz.func212, Tryz.ntmps212
 go_wp2_with (at_make; refine wp_make_ints rfl _ _ rfl (w.heap.size + 1) P.orders.length (w.heap.size + 1) (by simp) _ rfl rfl rfl (by omega) (by simp) ?_; intro w1 ho1 hg1 _)
 go_ret
 exact ⟨_, rfl, grown_trans (World.grownBy_alloc _ _ _) hg1, ho1.weak (by omega)⟩
set_option maxHeartbeats 1000000 in
theorem elementAt_ok (P : Pr) (hP : Valid P) (w : World) (p : Value) (m : Int) (Sp : Nat → Prop) (hp : PresP Sp w p P) (hm : 0 ≤ m) (hm2 : m ≤ 1000000000) :
  Calls Tryz.prog 147 #[p, .int .i64 m] w (Ret w fun w' v => Own w.heap.size w' v (elAt P m)) := by
 have hn6 := hP.n6
 obtain ⟨pb, po, rfl⟩ := hp.shape
 obtain ⟨ao, capo, hco0, hoi⟩ := hp.ordAt
 have hco := hco0
 go_enter Tryz.func147, Tryz.ntmps147
 go_wp2_with (at_make; refine wp_make_ints rfl _ _ rfl w.heap.size P.orders.length w.heap.size rfl _ rfl rfl rfl (by omega) (by simp) ?_; intro w1 ho1 hg1 _)
 clear hco
 have HCO := Lib.hid hco0; clear hco0
 go_loopw [1, 6] (fun mv i wr => ∃ k : Nat, i = .int .i64 ((P.orders.length : Int) - 1 - k) ∧ mv = .int .i64 (elTo P.orders P.orders.length m k).2 ∧ k ≤ P.orders.length ∧ Ext w wr ∧
   Own w.heap.size wr (.slice (some ⟨w.heap.size, 0, none⟩) P.orders.length P.orders.length) (elTo P.orders P.orders.length m k).1) (fun _ i _ => (intOf i + 1).toNat)
 case atStart => exact ⟨0, by simp, rfl, by omega, hg1, ho1⟩
 case round =>
  obtain ⟨k, rfl, rfl, hk, hg, hO⟩ := hrel
  obtain ⟨hv, hm0, hm1⟩ := elTo_inv hP m hm k hk
  by_cases hlt : k < P.orders.length
  ·obtain ⟨b2, off2, rfl, _, _, hc20⟩ := Ints.at hoi (P.orders.length - 1 - k) (by omega)
   have hco := hg.cell HCO.out (by simp)
   have hc2 := hg.cell hc20 (by simp)
   have ho7 := hP.ord7 (P.orders.length - 1 - k) (by omega)
   have hc := hO.cell (P.orders.length - 1 - k) (by rw [hv.1]; omega)
   have hf := hO.frozen (P.orders.length - 1 - k)
   have hsucc : elTo P.orders P.orders.length m (k + 1) = ((elTo P.orders P.orders.length m k).1.set (P.orders.length - 1 - k) ((elTo P.orders P.orders.length m k).2 % gt P.orders (P.orders.length - 1 - k)), (elTo P.orders P.orders.length m k).2 / gt P.orders (P.orders.length - 1 - k)) := rfl
   have HSC := Lib.hid hsucc; clear hsucc
   obtain ⟨hO2, hg2⟩ := hO.store (P.orders.length - 1 - k) ((elTo P.orders P.orders.length m k).2 % gt P.orders (P.orders.length - 1 - k))
   have hgx : Ext w (wr.setCell ⟨w.heap.size, P.orders.length - 1 - k, none⟩ (.int .i64 ((elTo P.orders P.orders.length m k).2 % gt P.orders (P.orders.length - 1 - k)))) := grown_own hg hg2 (fun j hj hlt => by cases hj; omega)
   have hco3 := hgx.cell HCO.out (by simp)
   have hc23 := hgx.cell hc20 (by simp)
   clear hc20
   have hidx : ((P.orders.length : Int) - 1 - k).toNat = P.orders.length - 1 - k := by omega
   generalize hi : P.orders.length - 1 - k = i at *
   generalize (elTo P.orders P.orders.length m k).1 = L at *
   generalize (elTo P.orders P.orders.length m k).2 = M at *
   have ho70 : 2 ≤ gt P.orders i := ho7.1
   have ho71 : gt P.orders i ≤ 7 := ho7.2
   have HI := Lib.hid hi; clear hi ho7
   go_wp2
   go_roundw
   case rel => exact ⟨k + 1, by congr 1; omega, by rw [HSC.out], by omega, hgx, by rw [HSC.out]; exact hO2⟩
   case measure => simp [intOf]; omega
  ·have hke : k = P.orders.length := by omega
   subst hke
   go_wp2
   go_ret
   exact ⟨_, rfl, hg, hO⟩
set_option maxHeartbeats 1000000 in
theorem l10At_ok (P : Pr) (hP : Valid P) (w : World) (pv : Value) (m : Int) (Sp : Nat → Prop) (hpv : PresV Sp w pv P) (hm : 0 ≤ m) (hm2 : m ≤ 1000000000) :
  Calls Tryz.prog 107 #[pv, .int .i64 m] w (Ret w fun w' v => Own w.heap.size w' v (elAt P m)) := by
 have hn6 := hP.n6
 obtain ⟨vo, vp, vc, rfl, h3⟩ := hpv
 have hp := PresP.box h3 28
 have hg0 : Ext w (w.alloc (.cells #[vo, vp, vc] 28)) := World.grownBy_alloc _ _ _
 obtain ⟨vo9, vp9, vc9, _, _, hc0, hc1, hc2, h39⟩ := hp.at
 obtain ⟨ao, capo, hco, hoi⟩ := hp.ordAt
 go_enter Tryz.func107, Tryz.ntmps107
 go_wp2_with fail
 have hs0 : (w.alloc (.cells #[vo, vp, vc] 28)).heap.size = w.heap.size + 1 := by simp
 have HS := Lib.hid hs0; clear hs0
 clear hc0 hc1 hc2
 have HCO := Lib.hid hco; clear hco
 generalize hw0 : w.alloc (.cells #[vo, vp, vc] 28) = w0 at *
 clear hw0
 refine Calls.mono (l10One_ok P hP w0 _ Any ⟨_, _, _, rfl, h39⟩) ?_
 rintro e1 w1 ⟨r, rfl, hg1, ho1⟩
 have hri := ho1.ints (by simp [zeros]; omega)
 obtain ⟨ar, capr, rfl, _, _⟩ := hri.shape
 have hzl : (zeros P.orders.length).length = P.orders.length := by simp [zeros]
 rw [hzl] at hri
 have ho1 : Own w0.heap.size w1 (.slice ar P.orders.length capr) (zeros P.orders.length) := by rw [hzl] at ho1; exact ho1
 simp only [hzl]
 clear hzl hri
 go_wp2
 go_loopw [1, 6] (fun mv i wr => ∃ k : Nat, i = .int .i64 ((P.orders.length : Int) - 1 - k) ∧ mv = .int .i64 (elTo P.orders P.orders.length m k).2 ∧ k ≤ P.orders.length ∧ Ext w0 wr ∧
   Own w0.heap.size wr (.slice ar P.orders.length capr) (elTo P.orders P.orders.length m k).1) (fun _ i _ => (intOf i + 1).toNat)
 case atStart => exact ⟨0, by simp, rfl, by omega, hg1, ho1⟩
 case round =>
  clear ho1
  obtain ⟨k, rfl, rfl, hk, hg, hO⟩ := hrel
  obtain ⟨hv, hm0, hm1⟩ := elTo_inv hP m hm k hk
  by_cases hlt : k < P.orders.length
  ·obtain ⟨g, capg, hfm, hgb, hgs⟩ := hO.form (by rw [hv.1]; omega)
   rw [hv.1] at hfm
   obtain ⟨rfl, _⟩ : ar = some ⟨g, 0, none⟩ ∧ capr = capg := by cases hfm; exact ⟨rfl, rfl⟩
   clear hfm
   obtain ⟨b2, off2, rfl, _, _, hc20⟩ := Ints.at hoi (P.orders.length - 1 - k) (by omega)
   have hco := hg.cell HCO.out (by simp)
   have hc2 := hg.cell hc20 (by simp)
   have ho7 := hP.ord7 (P.orders.length - 1 - k) (by omega)
   have hc := hO.cell (P.orders.length - 1 - k) (by rw [hv.1]; omega)
   have hf := hO.frozen (P.orders.length - 1 - k)
   have hsucc : elTo P.orders P.orders.length m (k + 1) = ((elTo P.orders P.orders.length m k).1.set (P.orders.length - 1 - k) ((elTo P.orders P.orders.length m k).2 % gt P.orders (P.orders.length - 1 - k)), (elTo P.orders P.orders.length m k).2 / gt P.orders (P.orders.length - 1 - k)) := rfl
   have HSC := Lib.hid hsucc; clear hsucc
   obtain ⟨hO2, hg2⟩ := hO.store (P.orders.length - 1 - k) ((elTo P.orders P.orders.length m k).2 % gt P.orders (P.orders.length - 1 - k))
   have hgx : Ext w0 (wr.setCell ⟨g, P.orders.length - 1 - k, none⟩ (.int .i64 ((elTo P.orders P.orders.length m k).2 % gt P.orders (P.orders.length - 1 - k)))) := grown_own hg hg2 (fun j hj hlt => by cases hj; omega)
   have hco3 := hgx.cell HCO.out (by simp)
   have hc23 := hgx.cell hc20 (by simp)
   clear hc20
   have hidx : ((P.orders.length : Int) - 1 - k).toNat = P.orders.length - 1 - k := by omega
   generalize hi : P.orders.length - 1 - k = i at *
   generalize (elTo P.orders P.orders.length m k).1 = L at *
   generalize (elTo P.orders P.orders.length m k).2 = M at *
   have ho70 : 2 ≤ gt P.orders i := ho7.1
   have ho71 : gt P.orders i ≤ 7 := ho7.2
   have HI := Lib.hid hi; clear hi ho7
   go_wp2
   go_roundw
   case rel => exact ⟨k + 1, by congr 1; omega, by rw [HSC.out], by omega, hgx, by rw [HSC.out]; exact hO2⟩
   case measure => simp [intOf]; omega
  ·have hke : k = P.orders.length := by omega
   subst hke
   go_wp2
   go_ret
   exact ⟨_, rfl, grown_trans hg0 hg, hO.weak (by have := HS.out; omega)⟩
end Go.Proofs.YtdcobapnlpeaaaaGreat
namespace Go.Proofs.YtdcobapnlpeaaaaGreat
open Go.RowKit
def allEl (P : Pr) : List (List Int) := (List.range (ordP P).toNat).map (fun k : Nat => elAt P (k : Int))
theorem range_map_succ {α : Type} (f : Nat → α) (k : Nat) : (List.range (k + 1)).map f = (List.range k).map f ++ [f k] := by
 rw [List.range_succ, List.map_append]; rfl
set_option maxHeartbeats 400000 in
theorem allElements_ok (P : Pr) (hP : Valid P) (w : World) (p : Value) (Sp : Nat → Prop) (hp : PresP Sp w p P) :
  Calls Tryz.prog 99 #[p] w (Ret w fun w' v => RowsO w.heap.size w' v (allEl P)) := by
 have h729 : ordP P ≤ 729 := hP.le729
 have hpos := hP.ordP_pos
 go_enter Tryz.func99, Tryz.ntmps99
 go_wp2_with (go_at_call 110; refine (orderOf_ok _ _ P Sp hP hp).mono ?_; rintro e1 w1 ⟨rfl, rfl⟩)
 go_loopw [3, 7] (fun v i wr => ∃ k : Nat, i = .int .i64 k ∧ k ≤ (ordP P).toNat ∧ Ext w wr ∧ RowsO w.heap.size wr v ((List.range k).map (fun k : Nat => elAt P (k : Int)))) (fun _ i _ => (ordP P).toNat - (intOf i).toNat)
 case atStart => exact ⟨0, rfl, by omega, Ext.refl _, SlO.nil _ _ _ _⟩
 case round =>
  obtain ⟨k, rfl, hk, hg, hO⟩ := hrel
  by_cases hlt : (k : Int) < ordP P
  ·go_wp2_with fail
   refine Calls.mono (elementAt_ok P hP wr p k Sp (hp.ext hg) (by omega) (by omega)) ?_
   rintro e2 w2 ⟨r, rfl, hg2, hR⟩
   have hv := elAt_vec hP (k : Int) (by omega)
   have hRi : OwnIn (From wr.heap.size) w2 r (elAt P k) := OwnIn.of hR (by rw [hv.1]; have := hP.n6; omega) (fun j hj _ => hj)
   clear hv
   obtain ⟨ar, capr, rfl, _, _⟩ := hRi.ints.shape
   go_wp2_with (at_builtin; go_must (refine wp_app_row rfl _ _ rfl w.heap.size wr w2 _ _ _ (elAt P k) rfl hO hg2 hRi rfl rfl (by simp; omega) hg.size ?_); intro v3 w3 hO3 hg3 hg4)
   have hgx := hO.extw hg (Nat.le_refl _) hg3
   rw [← range_map_succ (fun k : Nat => elAt P (k : Int))] at hO3
   go_roundw
   case rel => exact ⟨k + 1, by go_num, by omega, hgx, hO3⟩
   case measure => simp [intOf]; omega
  ·have hke : k = (ordP P).toNat := by omega
   subst hke
   go_wp2
   go_ret
   exact ⟨_, rfl, hg, hO⟩
def gensOf (n : Nat) : List (List Int) := (List.range n).map (fun k : Nat => unitV n k)
set_option maxHeartbeats 400000 in
theorem generators_ok (P : Pr) (hP : Valid P) (w : World) (p : Value) (Sp : Nat → Prop) (hp : PresP Sp w p P) :
  Calls Tryz.prog 168 #[p] w (Ret w fun w' v => RowsO w.heap.size w' v (gensOf P.orders.length)) := by
 have hn6 := hP.n6
 obtain ⟨pb, po, rfl⟩ := hp.shape
 obtain ⟨ao, capo, hco0, hoi⟩ := hp.ordAt
 have hco := hco0
 go_enter Tryz.func168, Tryz.ntmps168
 go_wp2
 clear hco
 have HCO := Lib.hid hco0; clear hco0
 go_loopw [3, 10] (fun v i wr => ∃ k : Nat, i = .int .i64 k ∧ k ≤ P.orders.length ∧ Ext w wr ∧ RowsO w.heap.size wr v ((List.range k).map (fun k : Nat => unitV P.orders.length k))) (fun _ i _ => P.orders.length - (intOf i).toNat)
 case atStart => exact ⟨0, rfl, by omega, Ext.refl _, SlO.nil _ _ _ _⟩
 case round =>
  obtain ⟨k, rfl, hk, hg, hO⟩ := hrel
  by_cases hlt : k < P.orders.length
  ·have hco := hg.cell HCO.out (by simp)
   go_wp2_with fail
   refine Calls.mono (unitVector_ok P.orders.length k wr hlt (by omega)) ?_
   rintro e2 w2 ⟨r, rfl, hg2, hR⟩
   have hRi : OwnIn (From wr.heap.size) w2 r (unitV P.orders.length k) := OwnIn.of hR (by simp [unitV]; omega) (fun j hj _ => hj)
   obtain ⟨ar, capr, rfl, _, _⟩ := hRi.ints.shape
   go_wp2_with (at_builtin; go_must (refine wp_app_row rfl _ _ rfl w.heap.size wr w2 _ _ _ (unitV P.orders.length k) rfl hO hg2 hRi rfl rfl (by simp; omega) hg.size ?_); intro v3 w3 hO3 hg3 hg4)
   have hgx := hO.extw hg (Nat.le_refl _) hg3
   rw [← range_map_succ (fun k : Nat => unitV P.orders.length k)] at hO3
   go_roundw
   case rel => exact ⟨k + 1, by go_num, by omega, hgx, hO3⟩
   case measure => simp [intOf]; omega
  ·have hke : k = P.orders.length := by omega
   subst hke
   go_wp2
   go_ret
   exact ⟨_, rfl, hg, hO⟩
end Go.Proofs.YtdcobapnlpeaaaaGreat
namespace Go.Proofs.YtdcobapnlpeaaaaGreat
open Go.RowKit
def SlG {α : Type} [Inhabited α] (El : (Nat → Prop) → World → Value → α → Prop) (G : Nat → Nat → Prop) (H : Nat → Prop) (w : World) (v : Value) (xs : List α) : Prop :=
 ∃ a cap, v = .slice a xs.length cap ∧ (xs.length ≤ cap ∧ xs.length ≤ 9223372036854775807 ∧ (a = none → cap = 0)) ∧
   ∀ i, i < xs.length → ∃ b off u, a = some ⟨b, off, none⟩ ∧ H b ∧ b < w.heap.size ∧ w.cell? ⟨b, off + i, none⟩ = some u ∧ El (G i) w u (gt xs i)
def Apart (F : Nat → Prop) (G : Nat → Nat → Prop) (H : Nat → Prop) (n : Nat) : Prop :=
 (∀ k, H k → F k) ∧ (∀ i k, i < n → G i k → F k ∧ ¬ H k) ∧ (∀ i j k, i < n → j < n → G i k → G j k → i = j)
theorem SlD.g {α : Type} [Inhabited α] {El : (Nat → Prop) → World → Value → α → Prop} {F : Nat → Prop} {w : World} {v : Value} {xs : List α} (h : SlD El F w v xs) : ∃ G H, Apart F G H xs.length ∧ SlG El G H w v xs := by
 obtain ⟨G, H, h1, h2, h3, r⟩ := h
 exact ⟨G, H, ⟨h1, h2, h3⟩, r⟩
end Go.Proofs.YtdcobapnlpeaaaaGreat
namespace Go.Proofs.YtdcobapnlpeaaaaGreat
open Go.RowKit
def SlOA {α : Type} [Inhabited α] (El : (Nat → Prop) → World → Value → α → Prop) (E B : Nat) (A : Nat → Prop) (w : World) (v : Value) (xs : List α) : Prop :=
 ∃ (vs : List Value) (G : Nat → Nat → Prop), vs.length = xs.length ∧ OwnV B E w v vs ∧ (∀ i k, i < xs.length → G i k → B ≤ k ∧ v.ownBlock ≠ some k ∧ k < w.heap.size) ∧
  (∀ i j k, i < xs.length → j < xs.length → G i k → G j k → i = j) ∧ (∀ i, i < xs.length → El (G i) w (gt vs i) (gt xs i)) ∧ (∀ i k, i < xs.length → G i k → ¬ A k) ∧ ∀ k, v.ownBlock = some k → ¬ A k
theorem SlOA.o {α : Type} [Inhabited α] {El : (Nat → Prop) → World → Value → α → Prop} {E B : Nat} {A : Nat → Prop} {w : World} {v : Value} {xs : List α} (h : SlOA El E B A w v xs) : SlO El E B w v xs := by
 obtain ⟨vs, G, h1, h2, h3, h4, h5, _⟩ := h
 exact ⟨vs, G, h1, h2, h3, h4, h5⟩
theorem SlO.avoid {α : Type} [Inhabited α] {El : (Nat → Prop) → World → Value → α → Prop} {E B : Nat} {A : Nat → Prop} {w : World} {v : Value} {xs : List α} (h : SlO El E B w v xs) (hA : ∀ k, A k → w.heap.size ≤ k) : SlOA El E B A w v xs := by
 obtain ⟨vs, G, h1, h2, h3, h4, h5⟩ := h
 exact ⟨vs, G, h1, h2, h3, h4, h5, fun i k hi hk ha => by have := (h3 i k hi hk).2.2; have := hA k ha; omega, fun k hk ha => by have := (h2.lt k hk).2; have := hA k ha; omega⟩
theorem SlOA.ext {α : Type} [Inhabited α] {El : (Nat → Prop) → World → Value → α → Prop} (hEl : RdOk El) {E B : Nat} {A : Nat → Prop} {w w' : World} {v : Value} {xs : List α} (h : SlOA El E B A w v xs) (hg : Ext w w') : SlOA El E B A w' v xs := by
 obtain ⟨vs, G, hvl, hO, hG, hd, hE, hr⟩ := h
 refine ⟨vs, G, hvl, hO.kept hg (by cases hv : v.ownBlock <;> simp), fun i k hi hk => ?_, hd, fun i hi => hEl.mono (hE i hi) (fun k hk hlt => ⟨hk, Nat.lt_of_lt_of_le hlt hg.size, hg.block k hlt (by simp)⟩), hr⟩
 obtain ⟨a, b, c⟩ := hG i k hi hk
 exact ⟨a, b, Nat.lt_of_lt_of_le c hg.size⟩
theorem SlOA.more {α : Type} [Inhabited α] {El : (Nat → Prop) → World → Value → α → Prop} {E B : Nat} {A A' : Nat → Prop} {w : World} {v : Value} {xs : List α} (h : SlOA El E B A w v xs) (hA : ∀ k, A' k → A k ∨ w.heap.size ≤ k) : SlOA El E B A' w v xs := by
 obtain ⟨vs, G, h1, h2, h3, h4, h5, h6, h7⟩ := h
 refine ⟨vs, G, h1, h2, h3, h4, h5, fun i k hi hk ha => ?_, fun k hk ha => ?_⟩
 ·rcases hA k ha with h | h
  ·exact h6 i k hi hk h
  ·have := (h3 i k hi hk).2.2; omega
 ·rcases hA k ha with h | h
  ·exact h7 k hk h
  ·have := (h2.lt k hk).2; omega
theorem SlOA.less {α : Type} [Inhabited α] {El : (Nat → Prop) → World → Value → α → Prop} {E B : Nat} {A A' : Nat → Prop} {w : World} {v : Value} {xs : List α} (h : SlOA El E B A w v xs) (hA : ∀ k, A' k → A k) : SlOA El E B A' w v xs :=
 h.more fun k hk => .inl (hA k hk)
theorem SlOA.avoids {α : Type} [Inhabited α] {El : (Nat → Prop) → World → Value → α → Prop} {E B : Nat} {A : Nat → Prop} {w : World} {v : Value} {xs : List α} (h : SlOA El E B A w v xs) (k : Nat) (hk : v.ownBlock = some k) : ¬ A k ∧ B ≤ k ∧ k < w.heap.size := by
 obtain ⟨vs, G, h1, h2, h3, h4, h5, h6, h7⟩ := h
 exact ⟨h7 k hk, h2.lt k hk⟩
theorem SlOA.kept {α : Type} [Inhabited α] {El : (Nat → Prop) → World → Value → α → Prop} (hEl : RdOk El) {E B m : Nat} {A : Nat → Prop} {w w' : World} {v : Value} {xs : List α} (h : SlOA El E B A w v xs) (hg : w.grownBy w' (some m)) (hm : A m) : SlOA El E B A w' v xs := by
 obtain ⟨vs, G, hvl, hO, hG, hd, hE, hr, hr2⟩ := h
 refine ⟨vs, G, hvl, hO.kept hg ?_, fun i k hi hk => ?_, hd, fun i hi => hEl.mono (hE i hi) (fun k hk hlt => ⟨hk, Nat.lt_of_lt_of_le hlt hg.size, hg.block k hlt (fun e => hr i k hi hk (by cases e; exact hm))⟩), hr, hr2⟩
 ·cases hv : v.ownBlock with
  | none => exact .inl rfl
  | some b => exact .inr (fun e => hr2 b hv (by cases e; exact hm))
 ·obtain ⟨a, b, c⟩ := hG i k hi hk
  exact ⟨a, b, Nat.lt_of_lt_of_le c hg.size⟩
theorem wp_app_oneA {α : Type} [Inhabited α] {El : (Nat → Prop) → World → Value → α → Prop} (hEl : RdOk El) (T E : Nat) (z : Value) (bytes : Nat) (hT : Tryz.prog.underlying T = some (.slice E))
  (hE : (Tryz.prog.info? E).map (fun i => (i.zero, i.size, i.bytes)) = some (some z, 1, bytes)) (hzs : z.cells.size = 1) (hbt : bytes ≤ 64)
  {ops : Array Oper} {rest : List Oper} {o : Oper} {a : Act} {Q : Exit → Act → World → Prop} {w : World} (hgd : o.guard = none) (s x : Operand)
  (ho : o.op = Op.call { callee := Callee.builtin Builtin.append, args := #[s, x], argTypes := #[T, T] }) (B : Nat) (A : Nat → Prop) (w1 w2 : World) (v u : Value) (xs : List α) (y : α) (hs : a.eval s = v) (hown : SlOA El E B A w1 v xs) (hA : ∀ k, A k → k < w1.heap.size)
  (r : Option Nat) (hg : w1.grownBy w2 r) (hrA : ∀ k, r = some k → A k) (hu : El (From w1.heap.size) w2 u y) (hw : w = w2.alloc (.cells #[u] E)) (hx : a.eval x = .slice (some ⟨w2.heap.size, 0, none⟩) 1 1) (hlen : xs.length ≤ 1000000) (hbase : B ≤ w1.heap.size)
  (h : ∀ v' w', SlOA El E B A w' v' (xs ++ [y]) → w2.grownBy w' v.ownBlock → wpList Tryz.prog ops Q rest (a.put o.dst v') w') :
  wpList Tryz.prog ops Q (o :: rest) a w := by
 subst hw
 obtain ⟨vs, G, hvl, hO, hG, hd, hEx, hr, hr2⟩ := hown
 have hga : Ext w2 (w2.alloc (.cells #[u] E)) := World.grownBy_alloc _ _ _
 have hne : v.ownBlock = none ∨ v.ownBlock ≠ r := by
  cases hv : v.ownBlock with
  | none => exact .inl rfl
  | some b => exact .inr (fun e => hr2 b hv (hrA b e.symm))
 have hO2 : OwnV B E (w2.alloc (.cells #[u] E)) v vs := hO.kept (grown_trans hg (grown_of_ext _ hga)) hne
 refine wp_app T E z bytes hT hE hzs hbt hgd s x ho B v vs hs hO2 (some ⟨w2.heap.size, 0, none⟩) 1 1 [u] hx rfl (by simp) ?_ ?_ (by omega) (by have := hg.size; simp; omega) ?_
 ·intro j hj
  have : j = 0 := by omega
  subst this
  exact ⟨w2.heap.size, 0, rfl, by rw [World.cell?_alloc_at _ _ _ _ rfl]; rfl⟩
 ·intro u' hu'
  simp at hu'; subst hu'; exact hEl.one hu
 ·intro v' w' h1 h2 _ hat
  have hvb : ∀ k, v.ownBlock = some k → B ≤ k ∧ k < w1.heap.size := hO.lt
  have hg2 : w2.grownBy w' v.ownBlock := grown_trans (grown_of_ext _ hga) h2
  have hsz : w1.heap.size ≤ w'.heap.size := Nat.le_trans hg.size hg2.size
  have hv'b : ∀ k, v'.ownBlock = some k → v.ownBlock = some k ∨ w2.heap.size < k := by
   intro k hk
   rcases hat with h | h
   ·exact .inl (by rw [← h]; exact hk)
   ·rw [h] at hk
    have : (w2.alloc (.cells #[u] E)).heap.size = k := by simpa using hk
    simp at this
    exact .inr (by omega)
  refine h v' w' ⟨vs ++ [u], fun i k => if i < xs.length then G i k ∧ k < w1.heap.size else w1.heap.size ≤ k ∧ k < w2.heap.size, by simp [hvl], h1, ?_, ?_, ?_, ?_, ?_⟩ hg2
  ·intro i k hi hk
   split at hk
   ·rename_i hlt
    obtain ⟨a1, a2, a3⟩ := hG i k hlt hk.1
    refine ⟨a1, fun hv' => ?_, Nat.lt_of_lt_of_le a3 hsz⟩
    rcases hv'b k hv' with h | h
    ·exact a2 h
    ·have := hg.size; omega
   ·refine ⟨by omega, fun hv' => ?_, Nat.lt_of_lt_of_le hk.2 hg2.size⟩
    rcases hv'b k hv' with h | h
    ·have := hvb k h; omega
    ·omega
  ·intro i j k hi hj hk hk'
   simp only [List.length_append, List.length_singleton] at hi hj
   split at hk <;> split at hk'
   ·exact hd i j k (by assumption) (by assumption) hk.1 hk'.1
   ·omega
   ·omega
   ·omega
  ·intro i hi
   simp only [List.length_append, List.length_singleton] at hi
   by_cases hlt : i < xs.length
   ·rw [gt_append_left _ _ _ (by omega), gt_append_left _ _ _ hlt]
    simp only [if_pos hlt]
    exact hEl.mono (hEx i hlt) (fun k hk hkl => ⟨⟨hk, hkl⟩, Nat.lt_of_lt_of_le hkl hsz, (hg2.block k (Nat.lt_of_lt_of_le hkl hg.size) (fun e => (hG i k hlt hk).2.1 e.symm)).trans (hg.block k hkl (fun e => hr i k hlt hk (hrA k e.symm)))⟩)
   ·have hi2 : i = xs.length := by omega
    subst hi2
    rw [gt_concat, ← hvl, gt_concat]
    simp only [hvl, Nat.lt_irrefl, if_false]
    exact hEl.mono hu (fun k hk hkl => ⟨⟨hk, hkl⟩, Nat.lt_of_lt_of_le hkl hg2.size, hg2.block k hkl (fun e => by
     have hk : w1.heap.size ≤ k := hk
     have := hvb k e.symm; omega)⟩)
  ·intro i k hi hk ha
   split at hk
   ·exact hr i k (by assumption) hk.1 ha
   ·have := hA k ha; omega
  ·intro k hk ha
   rcases hv'b k hk with h | h
   ·exact hr2 k h ha
   ·have := hA k ha; have := hg.size; omega
theorem wp_app_rowA {ops : Array Oper} {rest : List Oper} {o : Oper} {a : Act} {Q : Exit → Act → World → Prop} {w : World} (hgd : o.guard = none) (s x : Operand)
  (ho : o.op = Op.call { callee := Callee.builtin Builtin.append, args := #[s, x], argTypes := #[25, 25] }) (B : Nat) (A : Nat → Prop) (w1 w2 : World) (v u : Value) (xs : List (List Int)) (y : List Int) (hs : a.eval s = v)
  (hown : SlOA OwnIn 24 B A w1 v xs) (hA : ∀ k, A k → k < w1.heap.size)
  (r : Option Nat) (hg : w1.grownBy w2 r) (hrA : ∀ k, r = some k → A k) (hu : OwnIn (From w1.heap.size) w2 u y) (hw : w = w2.alloc (.cells #[u] 24)) (hx : a.eval x = .slice (some ⟨w2.heap.size, 0, none⟩) 1 1) (hlen : xs.length ≤ 1000000) (hbase : B ≤ w1.heap.size)
  (h : ∀ v' w', SlOA OwnIn 24 B A w' v' (xs ++ [y]) → w2.grownBy w' v.ownBlock → wpList Tryz.prog ops Q rest (a.put o.dst v') w') :
  wpList Tryz.prog ops Q (o :: rest) a w :=
 wp_app_oneA rdOwn 25 24 (.slice none 0 0) 24 und_rows Tryz.infoRow rfl (by decide) hgd s x ho B A w1 w2 v u xs y hs hown hA r hg hrA hu hw hx hlen hbase h
end Go.Proofs.YtdcobapnlpeaaaaGreat
namespace Go.Proofs.YtdcobapnlpeaaaaGreat
open Go.RowKit
/-! ### a row of bools of the call's own -/
abbrev BOwn (base : Nat) (w : World) (v : Value) (l : List Bool) : Prop := w.ownsRow base 4 1 v l.length (l.map Value.bool)
theorem und_bools : Tryz.prog.underlying 148 = some (.slice 4) := by kernel_rfl
theorem Tryz.infoBool : (Tryz.prog.info? 4).map (fun i => (i.zero, i.size, i.bytes)) = some (some (.bool false), 1, 1) := by kernel_rfl
theorem wp_make_bools {ops : Array Oper} {rest : List Oper} {o : Oper} {a : Act} {Q : Exit → Act → World → Prop} {w : World} (hgd : o.guard = none) (l c : Operand)
  (ho : o.op = Op.makeSlice 148 l c) (base n H : Nat) (hH : w.heap.size = H) (L : Int) (hl : a.eval l = .int .i64 L) (hc : a.eval c = .int .i64 L) (hL : L = n) (hn : n ≤ 2147483648) (hbase : base ≤ H)
  (h : ∀ w', BOwn base w' (.slice (some ⟨H, 0, none⟩) n n) (List.replicate n false) → Ext w w' → H < w'.heap.size → wpList Tryz.prog ops Q rest (a.put o.dst (.slice (some ⟨H, 0, none⟩) n n)) w') :
  wpList Tryz.prog ops Q (o :: rest) a w := by
 subst hH
 obtain ⟨i0, hi, hz0, hz1, hz2⟩ := info_parts Tryz.infoBool
 refine wpList_make_full w hgd l c 148 ho base 4 i0 (.bool false) 1 und_bools hi hz0 hz1 .i64 .i64 L L n hl hc hL hL (by rw [hz2]; omega) (by unfold maxLen; omega) hbase ?_
 intro w' h1 h2
 refine h w' ?_ h2 (h1.lt w.heap.size rfl).2
 have e : (madeCells (Value.cells (.bool false)) (n * 1)).toList = (List.replicate n false).map Value.bool := by
  rw [show Value.cells (.bool false) = #[.bool false] from rfl, toList_madeCells_one]; simp
 rw [e] at h1
 show World.ownsRow _ _ _ _ _ _ _
 rw [List.length_replicate]; exact h1
theorem BOwn.cell {base g cap n : Nat} {w : World} {l : List Bool} (h : BOwn base w (.slice (some ⟨g, 0, none⟩) n cap) l) (j : Nat) (hj : j < l.length) : w.cell? ⟨g, j, none⟩ = some (.bool (gt l j)) := by
 have hn : n = l.length := by
  obtain ⟨_, ⟨h, _⟩ | ⟨_, _, _, h, _⟩⟩ := h <;> cases h; rfl
 subst hn
 have := World.ownsRow.cellAt h j (by omega)
 rw [this]; simp [gt, hj]
theorem BOwn.frozen {base g cap n : Nat} {w : World} {l : List Bool} (h : BOwn base w (.slice (some ⟨g, 0, none⟩) n cap) l) (j : Nat) : w.frozen? ⟨g, j, none⟩ = false := by
 have hn : n = l.length := by
  obtain ⟨_, ⟨h, _⟩ | ⟨_, _, _, h, _⟩⟩ := h <;> cases h; rfl
 subst hn
 exact World.ownsRow.frozenAt h j
theorem BOwn.store {base g cap n : Nat} {w : World} {l : List Bool} (h : BOwn base w (.slice (some ⟨g, 0, none⟩) n cap) l) (j : Nat) (x : Bool) :
  BOwn base (w.setCell ⟨g, j, none⟩ (.bool x)) (.slice (some ⟨g, 0, none⟩) n cap) (l.set j x) ∧ w.grownBy (w.setCell ⟨g, j, none⟩ (.bool x)) (some g) := by
 have hn : n = l.length := by
  obtain ⟨_, ⟨h, _⟩ | ⟨_, _, _, h, _⟩⟩ := h <;> cases h; rfl
 subst hn
 obtain ⟨h1, h2⟩ := World.ownsRow.stored h j (.bool x)
 refine ⟨?_, h2⟩
 show World.ownsRow _ _ _ _ _ _ _
 rw [List.length_set, List.map_set]; exact h1
theorem BOwn.ext0 {base : Nat} {w w' : World} {v : Value} {l : List Bool} (h : BOwn base w v l) (hg : Ext w w') : BOwn base w' v l :=
 h.kept hg (by cases hv : v.ownBlock <;> simp)
theorem BOwn.form {base : Nat} {w : World} {v : Value} {l : List Bool} (h : BOwn base w v l) (hl : 0 < l.length) : ∃ g cap, v = .slice (some ⟨g, 0, none⟩) l.length cap ∧ base ≤ g ∧ g < w.heap.size := by
 have hlt := h.lt
 obtain ⟨_, h | ⟨g, cap, cur, hv, hg, _⟩⟩ := h
 ·omega
 ·exact ⟨g, cap, hv, hg, (hlt g (by rw [hv]; rfl)).2⟩
theorem BOwn.keep {base g n cap r : Nat} {w w' : World} {l : List Bool} (h : BOwn base w (.slice (some ⟨g, 0, none⟩) n cap) l) (hg : w.grownBy w' (some r)) (hne : g ≠ r) : BOwn base w' (.slice (some ⟨g, 0, none⟩) n cap) l :=
 h.kept hg (.inr (fun e => hne (by cases e; rfl)))
theorem BOwn.weak {base base' : Nat} {w : World} {v : Value} {l : List Bool} (h : BOwn base w v l) (hb : base' ≤ base) : BOwn base' w v l := by
 obtain ⟨h1, h2⟩ := h
 refine ⟨h1, ?_⟩
 rcases h2 with h | ⟨g, cap, cur, hv, hg, r⟩
 ·exact .inl h
 ·exact .inr ⟨g, cap, cur, hv, Nat.le_trans hb hg, r⟩
end Go.Proofs.YtdcobapnlpeaaaaGreat
namespace Go.Proofs.YtdcobapnlpeaaaaGreat
open Go.RowKit
theorem rMul_vec {P : Pr} (hP : Valid P) (A B : List Int) (hA : Vec P.orders A) (hB : Vec P.orders B) : Vec P.orders (rMul P A B) := rAt_vec hP _ 0 A B (by omega) hA hB
set_option maxHeartbeats 2000000 in
theorem l10Conj_ok (P : Pr) (hP : Valid P) (w : World) (pv a b : Value) (A B : List Int) (Sp Sa Sb : Nat → Prop) (hp : PresV Sp w pv P) (ha : Ints Sa w a A) (hb : Ints Sb w b B) (hA : Vec P.orders A) (hB : Vec P.orders B) :
  Calls Tryz.prog 150 #[pv, a, b] w (Ret w fun w' v => Own w.heap.size w' v (rConj P A B)) := by
 obtain ⟨vo, vp, vc, rfl, h3⟩ := hp
 have hn6 := hP.n6
 have hl1 := (rInv_vec hP B hB).1
 have hl2 := (rMul_vec hP A B hA hB).1
 have HL1 := Lib.hid hl1; have HL2 := Lib.hid hl2; clear hl1 hl2
 have hg0 : Ext w (w.alloc (.cells #[vo, vp, vc] 28)) := World.grownBy_alloc _ _ _
 have hBx := PresP.box h3 28
 have ha0 := ha.ext hg0
 have hb0 := hb.ext hg0
 have hs0 : (w.alloc (.cells #[vo, vp, vc] 28)).heap.size = w.heap.size + 1 := by simp
 have HS := Lib.hid hs0; clear hs0 ha hb
 go_enter Tryz.func150, Tryz.ntmps150
 go_wp2
 generalize hw0 : w.alloc (.cells #[vo, vp, vc] 28) = w0 at *
 clear hw0
 obtain ⟨vo6, vp6, vc6, _, _, hc0, hc1, hc2, h36⟩ := hBx.at
 have e1 : ∀ w', Ext w0 w' → w'.cell? ⟨w.heap.size, 0, none⟩ = some vo6 := fun w' h => h.cell hc0 (by simp)
 have e2 : ∀ w', Ext w0 w' → w'.cell? ⟨w.heap.size, 1, none⟩ = some vp6 := fun w' h => h.cell (by simpa using hc1) (by simp)
 have e3 : ∀ w', Ext w0 w' → w'.cell? ⟨w.heap.size, 2, none⟩ = some vc6 := fun w' h => h.cell (by simpa using hc2) (by simp)
 clear hc0 hc1 hc2
 go_region_held3 (fun w' => Ext w0 w') (first | exact grown_drew _ _ | assumption)
  (first
   | (go_at_call 211; refine Calls.mono (Calls.rel (w0 := w0) (by assumption) (l10Inv_ok P hP _ _ _ _ Any Any ⟨_, _, _, rfl, Pres3.ext h36 (by assumption)⟩ (Ints.sub (Ints.ext hb0 (by assumption)) (fun _ _ _ => trivial)) hB)) ?_; rintro eA wA ⟨vA, rfl, hgA, hsA, hOA⟩)
   | (go_at_call_of 240 (a); refine Calls.mono (Calls.rel2 (w0 := w0) (by assumption) (l08Mul_ok P hP _ _ _ _ _ _ Any Sa Sb ⟨_, _, _, rfl, Pres3.ext h36 (by assumption)⟩ (Ints.ext ha0 (by assumption)) (Ints.ext hb0 (by assumption)) hA hB)) ?_; rintro eF wF ⟨vF, rfl, hgF, hgF2, hsF, hOF⟩; have hOA2 := (hOA.ext0 hgF2).ints (by rw [HL1.out]; omega); have hOF2 := hOF.ints (by rw [HL2.out]; omega))
   | (go_at_call 240; refine Calls.mono (Calls.rel (w0 := w0) (by assumption) (l08Mul_ok P hP _ _ _ _ _ _ Any Any Any ⟨_, _, _, rfl, Pres3.ext h36 (by assumption)⟩ hOA2 hOF2 (rInv_vec hP B hB) (rMul_vec hP A B hA hB))) ?_; rintro eB wB ⟨vB, rfl, hgB, hsB, hOB⟩))
 clear e1 e2 e3
 go_wp2
 go_ret
 exact ⟨_, rfl, grown_trans hg0 hgB, hOB.weak (by have := HS.out; omega)⟩
end Go.Proofs.YtdcobapnlpeaaaaGreat
namespace Go.Proofs.YtdcobapnlpeaaaaGreat
section
variable {P : Pr} {f i : Nat}
end
section
variable {P : Pr} (G : Grp P)
include G
theorem Grp.nf {x : List Int} (hx : Vec P.orders x) : npr (rMul P) (unitV P.orders.length) x 0 (zeros P.orders.length) P.orders.length = x := G.lvl.nf x (T_zero.2 hx)
end
end Go.Proofs.YtdcobapnlpeaaaaGreat
namespace Go.Proofs.YtdcobapnlpeaaaaGreat
section
variable {P : Pr} {f i : Nat}
end
section
variable {P : Pr} (G : Grp P)
include G
theorem Grp.gen_ind (Q : List Int → Prop) (h1 : Q (zeros P.orders.length)) (hm : ∀ y j, Vec P.orders y → Q y → j < P.orders.length → Q (rMul P y (unitV P.orders.length j))) {x : List Int} (hx : Vec P.orders x) : Q x := by
 have := acc_inv (fun y => Vec P.orders y ∧ Q y) (fun y j => rMul P y (unitV P.orders.length j)) x 0 (zeros P.orders.length) P.orders.length ⟨G.oneV, h1⟩ (fun y j hy _ b _ => ⟨G.mulV hy.1 (unitV_vec G.v j), hm y j hy.1 hy.2 (by omega)⟩)
 have h2 := G.nf hx
 unfold npr at h2
 rw [h2] at this
 exact this.2
end
end Go.Proofs.YtdcobapnlpeaaaaGreat
namespace Go.Proofs.YtdcobapnlpeaaaaGreat
open Go.RowKit
theorem isNaN_ok (a : Int) (w : World) : Calls Tryz.prog 322 #[.int .i64 a] w fun e w' => e = .returned (.bool false) ∧ w' = w := by
 go_enter Tryz.func322, Tryz.ntmps322
 go_wp2
 exact bodyPost_ret (v := .bool false) (by simp [results, Tryz.results322, go_sem]) rfl ⟨rfl, rfl⟩
set_option maxHeartbeats 1000000 in
theorem cmpI_ok (a b : Int) (w : World) : Calls Tryz.prog 294 #[.int .i64 a, .int .i64 b] w fun e w' => e = .returned (.int .i64 (cmpI a b)) ∧ w' = w := by
 go_enter Tryz.func294, Tryz.ntmps294
 go_wp2_with fail
 refine Calls.mono (isNaN_ok a w) ?_
 rintro e1 w1 ⟨rfl, rfl⟩
 go_wp2_with fail
 refine Calls.mono (isNaN_ok b _) ?_
 rintro e1 w1 ⟨rfl, rfl⟩
 by_cases h1 : a < b
 ·go_wp2
  exact bodyPost_ret (v := .int .i64 (-1)) (by simp [results, Tryz.results294, go_sem]) rfl ⟨by simp [cmpI, h1], rfl⟩
 ·by_cases h2 : b < a
  ·have h1' : b ≤ a := by omega
   go_wp2
   exact bodyPost_ret (v := .int .i64 1) (by simp [results, Tryz.results294, go_sem]) rfl ⟨by simp [cmpI, h1, h2], rfl⟩
  ·have h1' : b = a := by omega
   subst h1'
   clear h1 h2
   go_wp2
   exact bodyPost_ret (v := .int .i64 0) (by simp [results, Tryz.results294, go_sem]) rfl ⟨by simp [cmpI], rfl⟩
theorem drop_gt {l : List Int} {k : Nat} (h : k < l.length) : l.drop k = gt l k :: l.drop (k + 1) := by
 rw [List.drop_eq_getElem_cons h]; simp [gt, h]
set_option maxHeartbeats 4000000 in
theorem sCompare_ok (a b : Value) (X Y : List Int) (w : World) (Sa Sb : Nat → Prop) (ha : Ints Sa w a X) (hb : Ints Sb w b Y) :
  Calls Tryz.prog 245 #[a, b] w fun e w' => e = .returned (.int .i64 (cmpL X Y)) ∧ w' = w := by
 obtain ⟨aa, capa, rfl, hla, _⟩ := ha.shape
 obtain ⟨ab, capb, rfl, hlb, _⟩ := hb.shape
 go_enter Tryz.func245, Tryz.ntmps245
 go_wp2
 go_loopw [11] (fun v wr => ∃ k : Nat, v = .int .i64 k ∧ k ≤ X.length ∧ k ≤ Y.length ∧ wr = w ∧ cmpL X Y = cmpL (X.drop k) (Y.drop k)) (fun v _ => X.length - (intOf v).toNat)
 case atStart => exact ⟨0, rfl, by omega, by omega, rfl, by simp⟩
 case round =>
  obtain ⟨k, rfl, hk, hkY, rfl, hcmp⟩ := hrel
  by_cases hlt : k < X.length
  ·obtain ⟨ba, oa, rfl, _, _, hca⟩ := Ints.at ha k hlt
   by_cases hltY : k < Y.length
   ·obtain ⟨bb, ob, rfl, _, _, hcb⟩ := Ints.at hb k hltY
    rw [drop_gt hlt, drop_gt hltY] at hcmp
    simp only [cmpL] at hcmp
    have HC := Lib.hid hcmp; clear hcmp
    go_wp2_with fail
    refine Calls.mono (cmpI_ok (gt X k) (gt Y k) _) ?_
    rintro e1 w1 ⟨rfl, rfl⟩
    by_cases hz : cmpI (gt X k) (gt Y k) = 0
    ·have hcn := HC.out
     rw [if_pos hz] at hcn
     have HC2 := Lib.hid hcn; clear hcn HC
     go_wp2
     go_roundw
     case rel => exact ⟨k + 1, by go_num, by omega, by omega, trivial, HC2.out⟩
     case measure => simp [intOf]; omega
    ·have hcn := HC.out
     rw [if_neg hz] at hcn
     have HC2 := Lib.hid hcn; clear hcn HC
     go_wp2
     exact bodyPost_ret (v := .int .i64 (cmpI (gt X k) (gt Y k))) (by simp [results, Tryz.results245, go_sem]) rfl ⟨by rw [HC2.out], rfl⟩
   ·have hke : k = Y.length := by omega
    subst hke
    rw [drop_gt hlt, List.drop_length] at hcmp
    simp only [cmpL] at hcmp
    have HC := Lib.hid hcmp; clear hcmp
    go_wp2
    exact bodyPost_ret (v := .int .i64 1) (by simp [results, Tryz.results245, go_sem]) rfl ⟨by rw [HC.out], rfl⟩
  ·have hke : k = X.length := by omega
   subst hke
   rw [List.drop_length] at hcmp
   by_cases hltY : X.length < Y.length
   ·rw [drop_gt hltY] at hcmp
    simp only [cmpL] at hcmp
    have HC := Lib.hid hcmp; clear hcmp
    go_wp2
    exact bodyPost_ret (v := .int .i64 (-1)) (by simp [results, Tryz.results245, go_sem]) rfl ⟨by rw [HC.out], rfl⟩
   ·have hle : Y.length ≤ X.length := by omega
    rw [List.drop_of_length_le hle] at hcmp
    simp only [cmpL] at hcmp
    have HC := Lib.hid hcmp; clear hcmp
    go_wp2
    exact bodyPost_ret (v := .int .i64 0) (by simp [results, Tryz.results245, go_sem]) rfl ⟨by rw [HC.out], rfl⟩
end Go.Proofs.YtdcobapnlpeaaaaGreat
namespace Go.Proofs.YtdcobapnlpeaaaaGreat
open Go.RowKit
theorem sortL_unique {L M : List (List Int)} (h : M.Perm L) (hs : SortedL M) : M = sortL L :=
 sorted_unique _ _ hs (sortL_sorted L) (h.trans (sortL_perm L).symm)
theorem sortedL_le {C : List (List Int)} (h : SortedL C) {i j : Nat} (hij : i ≤ j) (hj : j < C.length) : cmpL (gt C i) (gt C j) ≤ 0 := by
 rcases Nat.lt_or_eq_of_le hij with h1 | rfl
 ·have := (List.pairwise_iff_getElem.1 h) i j (by omega) hj h1
  simpa [gt, hj, show i < C.length by omega] using this
 ·have := (cmpL_zero (gt C i) (gt C i)).2 rfl
  omega
end Go.Proofs.YtdcobapnlpeaaaaGreat
namespace Go.Proofs.YtdcobapnlpeaaaaGreat
theorem genP_or (P : Pr) (Q L : List Int → Prop) : genP P (fun x => genP P Q x ∨ L x) = genP P (fun x => Q x ∨ L x) :=
 funext fun _ => propext ⟨fun h K S hQ => h K S (fun y hy => hy.elim (fun h => h K S (fun z hz => hQ z (.inl hz))) (fun h => hQ y (.inr h))),
  fun h K S hQ => h K S (fun y hy => hy.elim (fun h => hQ y (.inl (genP_mem h))) (fun h => hQ y (.inr h)))⟩
theorem Grp.genP_none {P : Pr} (G : Grp P) : genP P (fun _ => False) = fun x => x = zeros P.orders.length :=
 funext fun _ => propext ⟨fun h => h _ G.sub_one (fun _ h => h.elim), fun h K S _ => by rw [h]; exact S.one⟩
end Go.Proofs.YtdcobapnlpeaaaaGreat
namespace Go.Proofs.YtdcobapnlpeaaaaGreat
open Go.RowKit
attribute [local go_sem ↓] Go.wp_at_zero Go.wp_at_succ
set_option maxRecDepth 100000 in
set_option maxHeartbeats 8000000 in
theorem l18Draw_ok (B0 : Nat) (w : World) (sb : Nat) (hB0 : B0 ≤ w.heap.size) (hs : Src B0 w sb) :
  Calls Tryz.prog 163 #[.pointer (some ⟨sb, 0, none⟩)] w (Mut w (some sb) (DrawR B0 sb (PresAL 7 (fun _ => True) w.heap.size))) := by
 have hsb := hs.lt
 have hbB := Box3.made w 28 (.slice none 0 0) (.slice none 0 0) (.slice none 0 0)
 have hg0 : Ext w (w.alloc (.cells #[.slice none 0 0, .slice none 0 0, .slice none 0 0] 28)) := World.grownBy_alloc _ _ _
 have hs0 : (w.alloc (.cells #[.slice none 0 0, .slice none 0 0, .slice none 0 0] 28)).heap.size = w.heap.size + 1 := by simp
 have hsW := Lib.hid (hs.ext hg0); clear hs
 go_enter Tryz.func163, Tryz.ntmps163
 go_wp2_with fail
 generalize w.alloc (.cells #[.slice none 0 0, .slice none 0 0, .slice none 0 0] 28) = w0 at *
 have hs00 : w.heap.size + 1 ≤ w0.heap.size := by omega
 clear hs0
 refine Calls.mono (l01Next_ok B0 w0 sb 15 hsW.out) ?_
 rintro e3 w3 ⟨v3, rfl, hg3, x, rfl, _, hx1, hs3⟩
 have hb3 := hbB.moved hg3 (by omega)
 have hgw3 := grown_trans (grown_of_ext (some sb) hg0) hg3
 have hsz3 := hg3.size
 have HS := Lib.hid hs3; clear hs3 hg3 hbB hg0 hsW hx1
 by_cases hx0 : x = 0
 ·subst hx0
  go_wp2_with fail
  refine Calls.mono (l07DrawL_ok B0 w3 sb 243 (by omega) HS.out) ?_
  rintro e4 w4 ⟨v4, rfl, hg4, ⟨uo, up, uc, R, rfl, hRl, hR, hRo⟩, hs4⟩
  obtain ⟨y1, m1, k1, hy1⟩ : ∃ a n c, uo = .slice a n c := by obtain ⟨a, c, e, _⟩ := hR.o.shape; exact ⟨_, _, _, e⟩
  obtain ⟨y2, m2, k2, hy2⟩ : ∃ a n c, up = .slice a n c := by obtain ⟨a, c, e, _⟩ := Sl.shape hR.p; exact ⟨_, _, _, e⟩
  obtain ⟨y3, m3, k3, hy3⟩ : ∃ a n c, uc = .slice a n c := by obtain ⟨a, c, e, _⟩ := Sl.shape hR.c; exact ⟨_, _, _, e⟩
  subst hy1 hy2 hy3
  have hb4 := hb3.moved hg4 (by omega)
  have hgw4 := grown_trans hgw3 hg4
  obtain ⟨b0, b1, b2, b3, b4⟩ := id hb4
  have hZ := hb4.all (.slice y1 m1 k1) (.slice y2 m2 k2) (.slice y3 m3 k3)
  obtain ⟨-, z0, z1, z2, -⟩ := id hZ
  have HF := Lib.hid (And.intro hgw4 (And.intro hs4 (And.intro hR hRl))); clear hZ hgw4 hs4 hR hRl hb4 hg4 hRo
  go_wp2_with fail
  refine bodyPost_ret (v := .agg #[.slice y1 m1 k1, .slice y2 m2 k2, .slice y3 m3 k3]) (by simp [results, Tryz.results163, go_sem, z0, z1, z2]) rfl ?_
  exact a_ret HF.out.1 (br := w.heap.size) (Nat.le_refl _) (fun k hk _ => by have hk : w3.heap.size ≤ k := hk; exact ⟨by omega, by omega⟩) HF.out.2.1 hB0 HF.out.2.2.2 HF.out.2.2.1 trivial
 have hxb0 : (x == 0) = false := by simp [hx0]
 clear hx0
 go_wp2_with fail
 refine Calls.mono (l07DrawL_ok B0 w3 sb 36 (by omega) HS.out) ?_
 rintro e4 w4 ⟨v4, rfl, hg4, ⟨uo, up, uc, R, rfl, hRl, hR, hRo⟩, hs4⟩
 obtain ⟨y1, m1, k1, hy1⟩ : ∃ a n c, uo = .slice a n c := by obtain ⟨a, c, e, _⟩ := hR.o.shape; exact ⟨_, _, _, e⟩
 obtain ⟨y2, m2, k2, hy2⟩ : ∃ a n c, up = .slice a n c := by obtain ⟨a, c, e, _⟩ := Sl.shape hR.p; exact ⟨_, _, _, e⟩
 obtain ⟨y3, m3, k3, hy3⟩ : ∃ a n c, uc = .slice a n c := by obtain ⟨a, c, e, _⟩ := Sl.shape hR.c; exact ⟨_, _, _, e⟩
 subst hy1 hy2 hy3
 have hb4 := hb3.moved hg4 (by omega)
 have hgw4 := grown_trans hgw3 hg4
 obtain ⟨b0, b1, b2, b3, b4⟩ := id hb4
 have hZ := hb4.all (.slice y1 m1 k1) (.slice y2 m2 k2) (.slice y3 m3 k3)
 obtain ⟨-, z0, z1, z2, -⟩ := id hZ
 have HF := Lib.hid (And.intro hgw4 (And.intro hs4 (And.intro hR hRl))); clear hZ hgw4 hs4 hR hRl hb4 hg4 hRo
 go_wp2_with fail
 refine bodyPost_ret (v := .agg #[.slice y1 m1 k1, .slice y2 m2 k2, .slice y3 m3 k3]) (by simp [results, Tryz.results163, go_sem, z0, z1, z2]) rfl ?_
 exact a_ret HF.out.1 (br := w.heap.size) (Nat.le_refl _) (fun k hk _ => by have hk : w3.heap.size ≤ k := hk; exact ⟨by omega, by omega⟩) HF.out.2.1 hB0 HF.out.2.2.2 HF.out.2.2.1 trivial
end Go.Proofs.YtdcobapnlpeaaaaGreat
namespace Go.Proofs.YtdcobapnlpeaaaaGreat
open Go.RowKit
attribute [local go_sem ↓] Go.wp_at_zero Go.wp_at_succ
set_option maxRecDepth 100000 in
set_option maxHeartbeats 8000000 in
theorem DrawClassSizes_ok (w : World) (cv : Value) (bs : List Int) (S : Nat → Prop) (hb : Bytes S w cv bs) :
  Calls Tryz.prog 60 #[cv] w (Ret w (PresA 7 w.heap.size)) := by
 obtain ⟨a, cap, rfl, _, _⟩ := Sl.shape hb
 have hbB := Box3.made w 28 (.slice none 0 0) (.slice none 0 0) (.slice none 0 0)
 have hg0 : Ext w (w.alloc (.cells #[.slice none 0 0, .slice none 0 0, .slice none 0 0] 28)) := World.grownBy_alloc _ _ _
 have hs0 : (w.alloc (.cells #[.slice none 0 0, .slice none 0 0, .slice none 0 0] 28)).heap.size = w.heap.size + 1 := by simp
 have hb0 := Bytes.ext hb hg0
 go_enter Tryz.func60, Tryz.ntmps60
 go_wp2_with fail
 generalize w.alloc (.cells #[.slice none 0 0, .slice none 0 0, .slice none 0 0] 28) = w0 at *
 have hs00 : w.heap.size + 1 ≤ w0.heap.size := by omega
 clear hs0
 refine Calls.mono (l01From_ok w0 _ bs S hb0) ?_
 rintro e0 wS ⟨v0, rfl, hgS, rfl, hsS⟩
 have hzS : w0.heap.size + 1 ≤ wS.heap.size := by have := hsS.lt; omega
 have hbS := hbB.ext hgS
 obtain ⟨sb, hsb⟩ : ∃ sb, sb = w0.heap.size := ⟨_, rfl⟩
 rw [← hsb] at hsS
 have hsb1 : w.heap.size + 1 ≤ sb ∧ sb + 1 ≤ wS.heap.size := by omega
 have hgw0 := grown_trans hg0 hgS
 have HSB := Lib.hid hsb
 clear hbB hb0 hg0 hgS hzS hs00
 go_wp2_with fail
 rw [← HSB.out]
 refine Calls.mono (l18Draw_ok (sb + 1) wS sb (by omega) (by rw [HSB.out]; rw [HSB.out] at hsS; exact hsS)) ?_
 rintro e1 w1 ⟨v1, rfl, hg1, ⟨vo, vp, vc, Q, rfl, hQl, hQ, -⟩, hs1⟩
 clear hsb
 obtain ⟨a1, n1, c1, hy1⟩ : ∃ a n c, vo = .slice a n c := by obtain ⟨a, c, e, _⟩ := hQ.o.shape; exact ⟨_, _, _, e⟩
 obtain ⟨a2, n2, c2, hy2⟩ : ∃ a n c, vp = .slice a n c := by obtain ⟨a, c, e, _⟩ := Sl.shape hQ.p; exact ⟨_, _, _, e⟩
 obtain ⟨a3, n3, c3, hy3⟩ : ∃ a n c, vc = .slice a n c := by obtain ⟨a, c, e, _⟩ := Sl.shape hQ.c; exact ⟨_, _, _, e⟩
 subst hy1 hy2 hy3
 have hs1' := hg1.size
 have hb1 := hbS.moved hg1 (by omega)
 obtain ⟨b0, b1, b2, b3, b4⟩ := id hb1
 have hZ := hb1.all (.slice a1 n1 c1) (.slice a2 n2 c2) (.slice a3 n3 c3)
 obtain ⟨-, z0, z1, z2, -⟩ := id hZ
 have hT := grown_set3 w1 w.heap.size (.slice a1 n1 c1) (.slice a2 n2 c2) (.slice a3 n3 c3)
 have hin : ∀ k, some w.heap.size = some k → k < wS.heap.size := fun k hk => by have := Option.some.inj hk; omega
 have hend : Ret w (PresA 7 w.heap.size) (.returned (.agg #[.slice a1 n1 c1, .slice a2 n2 c2, .slice a3 n3 c3])) (((w1.setCell ⟨w.heap.size, 0, none⟩ (.slice a1 n1 c1)).setCell ⟨w.heap.size, 1, none⟩ (.slice a2 n2 c2)).setCell ⟨w.heap.size, 2, none⟩ (.slice a3 n3 c3)) :=
  ⟨_, rfl, grown_own (grown_own hgw0 hg1 (fun j hj hlt => by have := Option.some.inj hj; omega)) hT (fun j hj hlt => by have := Option.some.inj hj; omega), _, _, _, Q, rfl, hQl, (hQ.keptB hT hin).low (by omega)⟩
 have HE := Lib.hid hend
 clear hend hT hZ hQ hg1 hs1 hb1 hbS hgw0 hsS
 go_wp2_with fail
 refine bodyPost_ret (v := .agg #[.slice a1 n1 c1, .slice a2 n2 c2, .slice a3 n3 c3]) (by simp [results, Tryz.results60, go_sem, z0, z1, z2]) rfl ?_
 exact HE.out
end Go.Proofs.YtdcobapnlpeaaaaGreat
namespace Go.Proofs.YtdcobapnlpeaaaaGreat
open Go.Proofs Go.Shelf Go.RowKit Go.Lib Go.Sort
def Tryz.sortRows_ren : Go.Shelf.Ren := ⟨fun | 6 => 247 | 15 => 297 | 14 => 296 | 28 => 332 | 29 => 333 | 20 => 324 | 21 => 325 | 22 => 326 | 23 => 327 | 24 => 328 | 25 => 329 | 26 => 330 | 27 => 331 | 46 => 351 | 47 => 352 | 48 => 353 | 49 => 354 | 50 => 355 | 57 => 367 | n => n, fun | 22 => 25 | 24 => 24 | 25 => 195 | 3 => 3 | 39 => 139 | 0 => 0 | 53 => 266 | 55 => 62 | 4 => 4 | 46 => 260 | 45 => 259 | 50 => 193 | 5 => 5 | 9 => 9 | 66 => 281 | 70 => 285 | 76 => 296 | 77 => 297 | n => n, fun | n => n⟩
theorem Tryz.sortRows : Go.Proofs.SlLaysF.n6 Tryz.prog Tryz.sortRows_ren := {
  mixed := by kernel_rfl
  f6 := ⟨Tryz.f247.name, by decide, Tryz.func247.trans (congrArg some (by kernel_rfl))⟩
  f14 := ⟨Tryz.f296.name, by decide, Tryz.func296.trans (congrArg some (by kernel_rfl))⟩
  f15 := Tryz.func297.trans (congrArg some (by kernel_rfl))
  f20 := ⟨Tryz.f324.name, by decide, Tryz.func324.trans (congrArg some (by kernel_rfl))⟩
  f21 := ⟨Tryz.f325.name, by decide, Tryz.func325.trans (congrArg some (by kernel_rfl))⟩
  f22 := ⟨Tryz.f326.name, by decide, Tryz.func326.trans (congrArg some (by kernel_rfl))⟩
  f23 := ⟨Tryz.f327.name, by decide, Tryz.func327.trans (congrArg some (by kernel_rfl))⟩
  f24 := ⟨Tryz.f328.name, by decide, Tryz.func328.trans (congrArg some (by kernel_rfl))⟩
  f25 := ⟨Tryz.f329.name, by decide, Tryz.func329.trans (congrArg some (by kernel_rfl))⟩
  f26 := ⟨Tryz.f330.name, by decide, Tryz.func330.trans (congrArg some (by kernel_rfl))⟩
  f27 := ⟨Tryz.f331.name, by decide, Tryz.func331.trans (congrArg some (by kernel_rfl))⟩
  f28 := Tryz.func332.trans (congrArg some (by kernel_rfl))
  f29 := Tryz.func333.trans (congrArg some (by kernel_rfl))
  f46 := ⟨Tryz.f351.name, by decide, Tryz.func351.trans (congrArg some (by kernel_rfl))⟩
  f47 := Tryz.func352.trans (congrArg some (by kernel_rfl))
  f48 := Tryz.func353.trans (congrArg some (by kernel_rfl))
  f49 := ⟨Tryz.f354.name, by decide, Tryz.func354.trans (congrArg some (by kernel_rfl))⟩
  f50 := ⟨Tryz.f355.name, by decide, Tryz.func355.trans (congrArg some (by kernel_rfl))⟩
  f57 := ⟨Tryz.f367.name, by decide, Tryz.func367.trans (congrArg some (by kernel_rfl))⟩
  t0 := Tryz.underlying0
  a0 := Tryz.isAgg0
  z0 := Tryz.sizeOf0
  v0 := Tryz.zeroValue0
  t3 := Tryz.underlying3
  a3 := Tryz.isAgg3
  z3 := Tryz.sizeOf3
  v3 := Tryz.zeroValue3
  t4 := Tryz.underlying4
  a4 := Tryz.isAgg4
  z4 := Tryz.sizeOf4
  v4 := Tryz.zeroValue4
  t5 := Tryz.underlying5
  a5 := Tryz.isAgg5
  z5 := Tryz.sizeOf5
  v5 := Tryz.zeroValue5
  t9 := Tryz.underlying9
  a9 := Tryz.isAgg9
  z9 := Tryz.sizeOf9
  v9 := Tryz.zeroValue9
  t22 := Tryz.underlying25
  a22 := Tryz.isAgg25
  z22 := Tryz.sizeOf25
  v22 := Tryz.zeroValue25
  a24 := Tryz.isAgg24
  z24 := Tryz.sizeOf24
  t25 := Tryz.underlying195
  a25 := Tryz.isAgg195
  z25 := Tryz.sizeOf195
  v25 := Tryz.zeroValue195
  t39 := Tryz.underlying139
  a39 := Tryz.isAgg139
  z39 := Tryz.sizeOf139
  v39 := Tryz.zeroValue139
  t45 := Tryz.underlying259
  a45 := Tryz.isAgg259
  z45 := Tryz.sizeOf259
  v45 := Tryz.zeroValue259
  t46 := Tryz.underlying260
  a46 := Tryz.isAgg260
  z46 := Tryz.sizeOf260
  v46 := Tryz.zeroValue260
  t50 := Tryz.underlying193
  a50 := Tryz.isAgg193
  z50 := Tryz.sizeOf193
  v50 := Tryz.zeroValue193
  t53 := Tryz.underlying266
  a53 := Tryz.isAgg266
  z53 := Tryz.sizeOf266
  v53 := Tryz.zeroValue266
  t55 := Tryz.underlying62
  a55 := Tryz.isAgg62
  z55 := Tryz.sizeOf62
  v55 := Tryz.zeroValue62
  t66 := Tryz.underlying281
  a66 := Tryz.isAgg281
  z66 := Tryz.sizeOf281
  v66 := Tryz.zeroValue281
  t70 := Tryz.underlying285
  a70 := Tryz.isAgg285
  z70 := Tryz.sizeOf285
  v70 := Tryz.zeroValue285
  t76 := Tryz.underlying296
  a76 := Tryz.isAgg296
  z76 := Tryz.sizeOf296
  v76 := Tryz.zeroValue296
  t77 := Tryz.underlying297
  a77 := Tryz.isAgg297
  z77 := Tryz.sizeOf297
  v77 := Tryz.zeroValue297 }
end Go.Proofs.YtdcobapnlpeaaaaGreat
namespace Go.Proofs.YtdcobapnlpeaaaaGreat
open Go.Proofs Go.Shelf Go.RowKit Go.Lib Go.Sort
section
variable {α : Type} [Inhabited α] {enc : α → Value}
theorem holds_of_blockV {w : World} {g : Nat} {cur : Array Value} {e : TypeId} {ss : List α} (hb : w.heap[g]? = some (.cells cur e (0, 0))) (ht : cur.toList.take ss.length = ss.map enc) : Go.Sort.Holds enc w g 0 ss.toArray := by
 intro j hj
 have hj' : j < ss.length := by simpa using hj
 refine ⟨?_, by simp [World.frozen?, hb]⟩
 have h1 : (cur.toList.take ss.length)[j]? = (ss.map enc)[j]? := by rw [ht]
 rw [List.getElem?_take_of_lt hj'] at h1
 simp only [World.cell?, hb, Nat.zero_add]
 simp only [Option.isSome_none, Bool.false_eq_true, if_false]
 rw [← Array.getElem?_toList, h1]
 simp [hj']
theorem heap_sortedV {w : World} {g n : Nat} {os : Array Obj} {cur : Array Value} {e : TypeId} {fr : Nat × Nat} (d : Array α) (hb : w.heap[g]? = some (.cells cur e fr)) :
  (sortWorld enc w g 0 n d os).heap[g]? = some (.cells (putCells enc 0 d cur) e fr) := by
 have hg : g < w.heap.size := (Array.getElem?_eq_some_iff.1 hb).1
 unfold sortWorld
 rw [heap_grow_old _ _ (by simpa using hg)]
 simp [putRow, mapBlock, Sort.ahead, Array.getElem?_modify, hb, onCells]
theorem grownBy_sortedV {w : World} {g n : Nat} {os : Array Obj} (d : Array α) : w.grownBy (sortWorld enc w g 0 n d os) (some g) := by
 unfold sortWorld
 refine ⟨rfl, rfl, rfl, by simp, fun k hk hne => ?_⟩
 rw [heap_grow_old _ _ (by simpa using hk)]
 have : g ≠ k := fun e => hne (by rw [e])
 simp [putRow, mapBlock, Sort.ahead, Array.getElem?_modify, this]
theorem take_putCellsV (cur : Array Value) (ts : List α) (h : ts.length ≤ cur.size) : (putCells enc 0 ts.toArray cur).toList.take ts.length = ts.map enc := by
 apply List.ext_getElem?
 intro j
 by_cases hj : j < ts.length
 ·rw [List.getElem?_take_of_lt hj, Array.getElem?_toList]
  simp [putCells, hj, show j < cur.size by omega]
 ·rw [List.getElem?_take_eq_none (by omega), List.getElem?_eq_none (by simp; omega)]
theorem ownsRow_sortedV {w : World} {base g cap n : Nat} {e : TypeId} {os : Array Obj} {cur : Array Value} {ss ts : List α} (hl : ts.length = ss.length) (hbase : base ≤ g) (hb : w.heap[g]? = some (.cells cur e (0, 0)))
  (h1 : ss.length ≤ cap) (h2 : cap ≤ maxLen) (h3 : cur.size = cap * 1) :
  (sortWorld enc w g 0 n ts.toArray os).ownsRow base e 1 (.slice (some ⟨g, 0, none⟩) ss.length cap) ss.length (ts.map enc) :=
 ⟨by simp [hl], .inr ⟨g, cap, _, rfl, hbase, heap_sortedV _ hb, h1, h2, by simp [putCells, h3], by rw [Nat.mul_one, ← hl]; exact take_putCellsV cur ts (by omega)⟩⟩
end
def encAt (vs : List Value) (k : Nat) : Value := if k < vs.length then gt vs k else .slice none 0 0
def cfAt (L : List (List Int)) (i j : Nat) : Int := cmpL (gt L i) (gt L j)
theorem ltOf_true {L : List (List Int)} {x y : Nat} : ltOf (cfAt L) x y = true ↔ cmpL (gt L x) (gt L y) < 0 := by unfold ltOf; rw [decide_eq_true_iff]; rfl
theorem ltOf_false {L : List (List Int)} {x y : Nat} : ltOf (cfAt L) x y = false ↔ 0 ≤ cmpL (gt L x) (gt L y) := by
 unfold ltOf; rw [decide_eq_false_iff_not]; show ¬ (cmpL (gt L x) (gt L y) < 0) ↔ _; omega
theorem swo_cfAt (L : List (List Int)) : SWO (ltOf (cfAt L)) where
 irrefl x := by
  have := (cmpL_zero (gt L x) (gt L x)).2 rfl
  rw [ltOf_false]; omega
 trans x y z h k := by
  rw [ltOf_true] at *
  have h1 := cmpL_le_trans (gt L x) (gt L y) (gt L z) (by omega) (by omega)
  have h2 : cmpL (gt L x) (gt L z) ≠ 0 := by
   intro e
   rw [cmpL_zero] at e
   rw [e] at h
   have := cmpL_swap (gt L z) (gt L y)
   omega
  omega
 ntrans x y z h k := by
  rw [ltOf_false] at *
  have h1 := cmpL_swap (gt L x) (gt L y)
  have h2 := cmpL_swap (gt L y) (gt L z)
  have h3 := cmpL_swap (gt L x) (gt L z)
  have h4 := cmpL_le_trans (gt L z) (gt L y) (gt L x) (by omega) (by omega)
  omega
theorem encAt_one {vs : List Value} (h : ∀ i, i < vs.length → (gt vs i).oneCell' = true) : OneCell (encAt vs) := by
 intro k
 unfold encAt
 split
 ·exact h k (by assumption)
 ·rfl
theorem gt_inj {α : Type} [Inhabited α] {l : List α} (h : l.Nodup) {i j : Nat} (hi : i < l.length) (hj : j < l.length) (he : gt l i = gt l j) : i = j := by
 simp only [gt, List.getD_eq_getElem?_getD, List.getElem?_eq_getElem hi, List.getElem?_eq_getElem hj, Option.getD_some] at he
 rcases Nat.lt_trichotomy i j with h1 | h1 | h1
 ·exact absurd he (List.pairwise_iff_getElem.1 h i j hi hj h1)
 ·exact h1
 ·exact absurd he.symm (List.pairwise_iff_getElem.1 h j i hj hi h1)
theorem sortRows_ok (w : World) (v : Value) (L : List (List Int)) (B : Nat) (hL : RowsO B w v L) (hne : 0 < L.length) (hlen : L.length ≤ 1000000) :
  Calls Tryz.prog 247 #[v, .func (.func 245) #[] #[]] w fun e w' => e = .returned (.tuple #[]) ∧ RowsO B w' v (sortL L) ∧ w.grownBy w' v.ownBlock := by
 obtain ⟨vs, G, hvl, hO, hG, hd, hE⟩ := hL
 obtain ⟨_, ⟨rfl, h0⟩ | ⟨g, cap, cur, rfl, hBg, hb, hnc, hcm, hsz, hx⟩⟩ := hO
 ·omega
 have hgs : g < w.heap.size := (Array.getElem?_eq_some_iff.1 hb).1
 have hone : OneCell (encAt vs) := encAt_one fun i hi => by
  exact rdOwn.one (hE i (by omega))
 have hmap : (List.range L.length).map (encAt vs) = vs := by
  apply List.ext_getElem (by simp [hvl])
  intro j h1 h2
  simp [encAt, gt, h2]
 have hH : Go.Sort.Holds (encAt vs) w g 0 (List.range L.length).toArray := holds_of_blockV hb (by rw [hmap, List.length_range, ← hvl]; simpa using hx)
 have eg : ∀ args w, (callFunc 245 args).run Tryz.prog w = .ok (.enter 245 args) w := enters_of Tryz.func245 (by kernel_rfl) rfl
 have hcmp : CmpReads Tryz.prog 245 #[] (encAt vs) (cfAt L) g 0 (List.range L.length).toArray.size w := by
  intro m os dk _ x y
  have hgr : w.grownBy (sortWorld (encAt vs) w g 0 m dk os) (some g) := grownBy_sortedV dk
  have hread : ∀ k, Ints Any (sortWorld (encAt vs) w g 0 m dk os) (encAt vs k) (gt L k) := by
   intro k
   by_cases hk : k < vs.length
   ·have he := (hE k (by omega)).ints
    unfold encAt
    rw [if_pos hk]
    exact Ints.mono he (fun b hb2 hlt => ⟨trivial, Nat.lt_of_lt_of_le hlt hgr.size, hgr.block b hlt (fun e => (hG k b (by omega) hb2).2.1 (by cases e; rfl))⟩)
   ·have h1 : gt L k = [] := by simp [gt, show ¬ k < L.length by omega]; rfl
    unfold encAt
    rw [if_neg hk, h1]
    exact ⟨none, 0, rfl, ⟨by simp, by simp, fun _ => rfl⟩, fun i hi => by simp at hi⟩
  refine (sCompare_ok _ _ _ _ _ _ _ (hread x) (hread y)).mono ?_
  rintro e w' ⟨rfl, rfl⟩
  exact ⟨rfl, 0, rfl⟩
 have hcon := Any.slices_SortFunc Tryz.sortRows (encAt vs) hone (cfAt L) (swo_cfAt L) 245 #[] g 0 cap (List.range L.length).toArray w eg hcmp.lays hH hgs (by simp; omega)
 change Calls Tryz.prog 247 _ _ _ at hcon
 have hsz2 : (List.range L.length).toArray.size = vs.length := by simp [hvl]
 rw [hsz2] at hcon
 refine hcon.mono ?_
 rintro e w' ⟨he, d', n, os, ⟨hs1, _, hperm⟩, hsorted, rfl⟩
 have hts : d'.toList.length = L.length := by simpa [hvl] using hs1
 have hP : d'.toList.Perm (List.range L.length) := by
  have h1 : d'.extract 0 vs.length = d' := by
   apply Array.ext'
   rw [hvl, ← hts]; simp
  have h2 : (List.range L.length).toArray.extract 0 vs.length = (List.range L.length).toArray := by
   apply Array.ext'
   rw [hvl]; simp
  rw [h1, h2] at hperm
  simpa using hperm
 have hin : ∀ i, i < L.length → gt d'.toList i < L.length := fun i hi => by
  have := hP.subset (gt_mem (l := d'.toList) (i := i) (by omega))
  simpa using this
 have hnd : d'.toList.Nodup := hP.symm.nodup List.nodup_range
 have hmapL : (List.range L.length).map (gt L) = L := by
  apply List.ext_getElem (by simp)
  intro j h1 h2
  simp [gt, h2]
 have hsort : d'.toList.map (gt L) = sortL L := by
  refine sortL_unique ?_ ?_
  ·have := hP.map (gt L)
   rwa [hmapL] at this
  ·refine List.pairwise_iff_getElem.2 ?_
   intro i j hi hj hij
   have hi' : i < d'.size := by simpa using hi
   have hj' : j < d'.size := by simpa using hj
   have h1 := hsorted i j (Nat.zero_le _) hij (by rw [hs1, hsz2] at hj'; exact hj')
   rw [ltOf_false, getElem!_pos d' i hi', getElem!_pos d' j hj'] at h1
   have h2 := cmpL_swap (gt L d'[j]) (gt L d'[i])
   simp only [List.getElem_map, Array.getElem_toList]
   omega
 have hgr : w.grownBy (sortWorld (encAt vs) w g 0 n d' os) (some g) := grownBy_sortedV d'
 have hgv : ∀ i, i < L.length → gt (d'.toList.map (encAt vs)) i = gt vs (gt d'.toList i) := fun i hi => by
  have h1 : gt (d'.toList.map (encAt vs)) i = encAt vs (gt d'.toList i) := gt_map _ _ _ (by omega)
  rw [h1]; unfold encAt; rw [if_pos (by rw [hvl]; exact hin i hi)]
 have hgL : ∀ i, i < L.length → gt (sortL L) i = gt L (gt d'.toList i) := fun i hi => by
  rw [← hsort]; exact gt_map _ _ _ (by omega)
 have hsl : (sortL L).length = L.length := (sortL_perm L).length_eq
 refine ⟨he, ⟨d'.toList.map (encAt vs), fun i k => G (gt d'.toList i) k, by simp [hsl, ← hts], ?_, ?_, ?_, ?_⟩, hgr⟩
 ·have := ownsRow_sortedV (enc := encAt vs) (n := n) (os := os) (ss := List.range L.length) (ts := d'.toList) (by rw [hts, List.length_range]) hBg hb (by rw [List.length_range, ← hvl]; exact hnc) hcm hsz
  rw [List.length_range, ← hvl] at this
  unfold OwnV
  rw [show (d'.toList.map (encAt vs)).length = vs.length by rw [List.length_map, hts, hvl]]
  simpa using this
 ·intro i k hi hk
  obtain ⟨a1, a2, a3⟩ := hG _ k (hin i (by omega)) hk
  exact ⟨a1, a2, Nat.lt_of_lt_of_le a3 hgr.size⟩
 ·intro i j k hi hj hk hk'
  exact gt_inj hnd (by omega) (by omega) (hd _ _ k (hin i (by omega)) (hin j (by omega)) hk hk')
 ·intro i hi
  show OwnIn _ _ _ _
  rw [hgv i (by omega), hgL i (by omega)]
  have he := hE _ (hin i (by omega))
  exact rdOwn.mono he (fun b hb2 hlt => ⟨hb2, Nat.lt_of_lt_of_le hlt hgr.size, hgr.block b hlt (fun e => (hG _ b (hin i (by omega)) hb2).2.1 (by cases e; rfl))⟩)
end Go.Proofs.YtdcobapnlpeaaaaGreat
namespace Go.Proofs.YtdcobapnlpeaaaaGreat
open Go.RowKit
open Go.Maps (Keyed)
theorem und_seen : Tryz.prog.underlying 147 = some (.map 2 4) := by kernel_rfl
theorem und_bool : Tryz.prog.underlying 4 = some .bool := by kernel_rfl
theorem und_int64 : Tryz.prog.underlying 2 = some (.int .i64) := by kernel_rfl
def Seen (w : World) (b : Nat) (ns : List Int) : Prop :=
 ∃ (n : Nat) (D : DataW Unit), w.ownsMap Tryz.prog 2 (plainElem Tryz.prog 4) b n D ∧ n ≤ ns.length ∧ Maps.IsMap D ∧
  ∀ a : Int, (Lit.int .i64 a).wf = true → D.atKey (.int .i64 a) (.lit (.bool false)) = .lit (.bool (decide (a ∈ ns)))
theorem Seen.made (w : World) : Seen (w.alloc (.map #[] 0)) w.heap.size [] :=
 ⟨0, .map [], World.ownsMap_made _ _ _ _, Nat.le_refl _, Maps.isMap_empty, fun a _ => by simp [WideAt.atKey_none]⟩
theorem Seen.lt {w : World} {b : Nat} {ns : List Int} (h : Seen w b ns) : b < w.heap.size := by
 obtain ⟨n, D, h, _⟩ := h
 exact h.lt
theorem Seen.kept {w w' : World} {b : Nat} {ns : List Int} {r : Option Nat} (h : Seen w b ns) (hg : w.grownBy w' r) (hne : some b ≠ r) : Seen w' b ns := by
 obtain ⟨n, D, h, h2⟩ := h
 exact ⟨n, D, h.kept hg hne, h2⟩
theorem Seen.look {w : World} {b : Nat} {ns : List Int} (h : Seen w b ns) (a : Int) (ha : (Lit.int .i64 a).wf = true) :
  (Instr.lookup 147 (.map (some b)) (.int .i64 a) false).run Tryz.prog w = .ok (.bool (decide (a ∈ ns))) w := by
 obtain ⟨n, D, h, _, _, hat⟩ := h
 obtain ⟨v, ps, hrun, hv⟩ := h.lookup (Maps.int_keyed und_int64) und_seen (z := .bool false) (by kernel_rfl) (plainElem_bool und_bool false) (Maps.keyOf_int_mk und_int64 ha)
 rw [hat a ha] at hv
 have hvv : v = .bool (decide (a ∈ ns)) := by
  unfold plainElem at hv
  rw [und_bool] at hv
  cases v <;> simp at hv
  rw [hv.1]
 rw [hrun, hvv]
theorem Seen.update {w : World} {b : Nat} {ns : List Int} (h : Seen w b ns) (a : Int) (ha : (Lit.int .i64 a).wf = true) (hl : ns.length ≤ 1048576) :
  ∃ w', (Instr.mapUpdate 147 (.map (some b)) (.int .i64 a) (.bool true)).run Tryz.prog w = .ok () w' ∧ Seen w' b (a :: ns) ∧ w.grownBy w' (some b) := by
 obtain ⟨n, D, h, hn, hM, hat⟩ := h
 obtain ⟨w', hrun, hown, hg⟩ := h.update (Maps.int_keyed und_int64) und_seen (by unfold maxLen; omega) (Maps.keyOf_int_mk und_int64 ha) (plainElem_bool und_bool true)
 refine ⟨w', hrun, ⟨n + 1, _, hown, by simp; omega, hM.put _ _, ?_⟩, hg⟩
 intro c hc
 by_cases he : c = a
 ·subst he
  rw [Maps.atKey_put_same hM (by trivial)]
  simp
 ·rw [Maps.atKey_put_other (by intro e; cases e; exact he rfl), hat c hc]
  simp [he]
theorem Seen.congr {w : World} {b : Nat} {ns ms : List Int} (h : Seen w b ns) (hl : ns.length ≤ ms.length) (he : ∀ a, a ∈ ns ↔ a ∈ ms) : Seen w b ms := by
 obtain ⟨n, D, h1, h2, h3, h4⟩ := h
 exact ⟨n, D, h1, Nat.le_trans h2 hl, h3, fun a ha => by rw [h4 a ha]; simp [he a]⟩
end Go.Proofs.YtdcobapnlpeaaaaGreat
namespace Go.Proofs.YtdcobapnlpeaaaaGreat
open Go.RowKit
def bsTo (C : List (List Int)) (X : List Int) : Nat → Nat → Nat → Nat
 | 0, lo, _ => lo
 | f + 1, lo, hi => if lo < hi then (if cmpL (gt C ((lo + hi) / 2)) X < 0 then bsTo C X f ((lo + hi) / 2 + 1) hi else bsTo C X f lo ((lo + hi) / 2)) else lo
def bs (C : List (List Int)) (X : List Int) : Nat := bsTo C X (C.length + 1) 0 C.length
def bsFound (C : List (List Int)) (X : List Int) : Bool := decide (bs C X < C.length) && decide (cmpL (gt C (bs C X)) X = 0)
set_option maxHeartbeats 4000000 in
theorem binSearch_ok (c x : Value) (C : List (List Int)) (X : List Int) (w : World) (Sc Sx : Nat → Prop) (hc : Rows2 Sc w c C) (hx : Ints Sx w x X) (hlen : C.length ≤ 1048576) :
  Calls Tryz.prog 244 #[c, x, .func (.func 245) #[] #[]] w fun e w' => e = .returned (.tuple #[.int .i64 (bs C X : Nat), .bool (bsFound C X)]) ∧ w' = w := by
 obtain ⟨ac, capc, rfl, _, _⟩ := hc.shape
 go_enter Tryz.func244, Tryz.ntmps244
 go_wp2
 go_loopw [9, 10] (fun lv hv wr => ∃ lo hi f : Nat, lv = .int .i64 lo ∧ hv = .int .i64 hi ∧ lo ≤ hi ∧ hi ≤ C.length ∧ hi < lo + f ∧ wr = w ∧ bs C X = bsTo C X f lo hi) (fun lv hv _ => (intOf hv - intOf lv).toNat)
 case atStart => exact ⟨0, C.length, C.length + 1, rfl, rfl, by omega, by omega, by omega, rfl, rfl⟩
 case round =>
  obtain ⟨lo, hi, f, rfl, rfl, hlh, hhi, hf, rfl, hbs⟩ := hrel
  have HB := Lib.hid hbs; clear hbs
  by_cases hlt : lo < hi
  ·have hlt' : (lo : Int) < hi := by omega
   obtain ⟨f, rfl⟩ : ∃ f', f = f' + 1 := ⟨f - 1, by omega⟩
   have hbs := HB.out
   simp only [bsTo, if_pos hlt] at hbs
   have HB2 := Lib.hid hbs; clear hbs HB
   obtain ⟨mid, hmid⟩ : ∃ mid, (lo + hi) / 2 = mid := ⟨_, rfl⟩
   have hm1 : lo ≤ mid ∧ mid < hi := by omega
   obtain ⟨bc, oc, ac2, capc2, rfl, _, _, hcc, hci⟩ := Rows2.at hc mid (by omega)
   have hcon := sCompare_ok _ x (gt C mid) X wr _ _ hci hx
   go_wp2_with fail
   refine Calls.mono hcon ?_
   rintro e1 w1 ⟨rfl, rfl⟩
   clear hcon
   rw [hmid] at HB2
   by_cases hneg : cmpL (gt C mid) X < 0
   ·have hbs := HB2.out
    rw [if_pos hneg] at hbs
    have HB3 := Lib.hid hbs; clear hbs HB2 hcc
    go_wp2
    go_roundw
    case rel => exact ⟨mid + 1, hi, f, by go_num, rfl, by omega, by omega, by omega, trivial, HB3.out⟩
    case measure => simp [intOf]; omega
   ·have hbs := HB2.out
    rw [if_neg hneg] at hbs
    have HB3 := Lib.hid hbs; clear hbs HB2 hcc
    go_wp2
    go_roundw
    case rel => exact ⟨lo, mid, f, rfl, congrArg (Value.int .i64) (by omega), by omega, by omega, by omega, trivial, HB3.out⟩
    case measure => simp [intOf]; omega
  ·have hle : hi ≤ lo := by omega
   have hbs := HB.out
   have hbl : bs C X = lo := by
    rw [hbs]; cases f with
    | zero => rfl
    | succ f => simp only [bsTo, if_neg hlt]
   have HBL := Lib.hid hbl; clear hbl hbs HB
   have hbf : bsFound C X = (decide (lo < C.length) && decide (cmpL (gt C lo) X = 0)) := by unfold bsFound; rw [HBL.out]
   have HBF := Lib.hid hbf; clear hbf
   by_cases hin : lo < C.length
   ·obtain ⟨bc, oc, ac2, capc2, rfl, _, _, hcc, hci⟩ := Rows2.at hc lo hin
    have hcon := sCompare_ok _ x (gt C lo) X wr _ _ hci hx
    go_wp2_with fail
    refine Calls.mono hcon ?_
    rintro e1 w1 ⟨rfl, rfl⟩
    clear hcon
    go_wp2
    exact bodyPost_ret (v := .tuple #[.int .i64 lo, .bool (cmpL (gt C lo) X == 0)]) (by simp [results, Tryz.results244, go_sem]) rfl ⟨by rw [HBL.out, HBF.out]; simp [hin]; rfl, rfl⟩
   ·have hin' : C.length ≤ lo := by omega
    go_wp2
    exact bodyPost_ret (v := .tuple #[.int .i64 lo, .bool false]) (by simp [results, Tryz.results244, go_sem]) rfl ⟨by rw [HBL.out, HBF.out]; simp [hin], rfl⟩
set_option maxHeartbeats 4000000 in
theorem numClosure_ok (c x : Value) (pb : Nat) (C : List (List Int)) (X : List Int) (w : World) (Sc Sx : Nat → Prop) (hc : Rows2 Sc w c C) (hx : Ints Sx w x X) (hlen : C.length ≤ 1048576) (hp : w.cell? ⟨pb, 0, none⟩ = some x) :
  Calls Tryz.prog 243 #[c, .pointer (some ⟨pb, 0, none⟩)] w fun e w' => e = .returned (.bool (bsFound C X)) ∧ w' = w := by
 obtain ⟨ac, capc, rfl, _, _⟩ := hc.shape
 obtain ⟨ax, capx, rfl, _, _⟩ := hx.shape
 go_enter Tryz.func243, Tryz.ntmps243
 go_wp2_with fail
 refine Calls.mono (binSearch_ok _ _ C X w _ _ hc hx hlen) ?_
 rintro e1 w1 ⟨rfl, rfl⟩
 go_wp2
 exact bodyPost_ret (v := .bool (bsFound C X)) (by simp [results, Tryz.results243, go_sem]) rfl ⟨rfl, rfl⟩
def FirstAt (p : Nat → Bool) (n : Nat) (r : Int) : Prop := (∃ k : Nat, r = k ∧ k < n ∧ p k = true ∧ ∀ j, j < k → p j = false) ∨ (r = -1 ∧ ∀ j, j < n → p j = false)
set_option maxHeartbeats 4000000 in
theorem indexFunc_ok (cc x : Value) (pb : Nat) (CC : List (List (List Int))) (X : List Int) (w : World) (Sc Sx : Nat → Prop) (hc : Rows3 Sc w cc CC) (hx : Ints Sx w x X) (hlen : ∀ i, i < CC.length → (gt CC i).length ≤ 1048576) (hp : w.cell? ⟨pb, 0, none⟩ = some x) :
  Calls Tryz.prog 242 #[cc, .func (.func 243) #[] #[.pointer (some ⟨pb, 0, none⟩)]] w fun e w' => (∃ r : Int, e = .returned (.int .i64 r) ∧ FirstAt (fun i => bsFound (gt CC i) X) CC.length r) ∧ w' = w := by
 obtain ⟨ac, capc, rfl, _, _⟩ := Sl.shape hc
 go_enter Tryz.func242, Tryz.ntmps242
 go_wp2
 go_loopw [8] (fun v wr => ∃ k : Nat, v = .int .i64 k ∧ k ≤ CC.length ∧ wr = w ∧ ∀ j, j < k → bsFound (gt CC j) X = false) (fun v _ => CC.length - (intOf v).toNat)
 case atStart => exact ⟨0, rfl, by omega, rfl, fun j h => by omega⟩
 case round =>
  obtain ⟨k, rfl, hk, rfl, hno⟩ := hrel
  have HN := Lib.hid hno; clear hno
  by_cases hlt : k < CC.length
  ·have hlt' : (k : Int) < CC.length := by omega
   obtain ⟨bc, oc, ac2, capc2, rfl, _, _, hcc, hci⟩ := Rows3.at hc k hlt
   have hl := hlen k hlt
   have hcon := numClosure_ok _ x pb (gt CC k) X wr _ _ hci hx hl hp
   clear hp
   go_wp2_with fail
   refine Calls.mono hcon ?_
   rintro e1 w1 ⟨rfl, rfl⟩
   clear hcon
   cases hb : bsFound (gt CC k) X with
   | true =>
    have HB := Lib.hid hb; clear hb
    go_wp2
    exact bodyPost_ret (v := .int .i64 k) (by simp [results, Tryz.results242, go_sem]) rfl ⟨⟨_, rfl, .inl ⟨k, rfl, hlt, HB.out, HN.out⟩⟩, rfl⟩
   | false =>
    have HB := Lib.hid hb; clear hb hcc
    go_wp2
    go_roundw
    case rel => exact ⟨k + 1, by go_num, by omega, trivial, fun j hj => by
     rcases Nat.lt_or_ge j k with h | h
     ·exact HN.out j h
     ·have : j = k := by omega
      rw [this]; exact HB.out⟩
    case measure => simp [intOf]; omega
  ·have hke : k = CC.length := by omega
   subst hke
   go_wp2
   exact bodyPost_ret (v := .int .i64 (-1)) (by simp [results, Tryz.results242, go_sem]) rfl ⟨⟨_, rfl, .inr ⟨rfl, HN.out⟩⟩, rfl⟩
set_option maxHeartbeats 4000000 in
theorem classNumber_ok (cc x : Value) (CC : List (List (List Int))) (X : List Int) (w : World) (Sc Sx : Nat → Prop) (hc : Rows3 Sc w cc CC) (hx : Ints Sx w x X) (hlen : ∀ i, i < CC.length → (gt CC i).length ≤ 1048576) :
  Calls Tryz.prog 155 #[cc, x] w (Ret w fun _ v => ∃ r : Int, v = .int .i64 r ∧ FirstAt (fun i => bsFound (gt CC i) X) CC.length r) := by
 obtain ⟨ac, capc, rfl, _, _⟩ := Sl.shape hc
 obtain ⟨ax, capx, rfl, _, _⟩ := hx.shape
 go_enter Tryz.func155, Tryz.ntmps155
 go_wp2_with fail
 have hg0 : Ext w (w.alloc (.cells #[.slice ax X.length capx] 24)) := World.grownBy_alloc _ _ _
 refine Calls.mono (indexFunc_ok _ _ w.heap.size CC X _ _ _ (Rows3.ext hc hg0) (Ints.ext hx hg0) hlen (by rw [World.cell?_alloc_at _ _ _ _ rfl]; rfl)) ?_
 rintro e1 w1 ⟨⟨r, rfl, hr⟩, rfl⟩
 go_wp2
 exact bodyPost_ret (v := .int .i64 r) (by simp [results, Tryz.results155, go_sem]) rfl ⟨_, rfl, hg0, r, rfl, hr⟩
end Go.Proofs.YtdcobapnlpeaaaaGreat
namespace Go.Proofs.YtdcobapnlpeaaaaGreat
theorem bsTo_spec (C : List (List Int)) (X : List Int) (hs : SortedL C) : ∀ (f lo hi : Nat), hi < lo + f → lo ≤ hi → hi ≤ C.length →
  (∀ j, j < lo → cmpL (gt C j) X < 0) → (∀ j, hi ≤ j → j < C.length → 0 ≤ cmpL (gt C j) X) →
  bsTo C X f lo hi ≤ C.length ∧ (∀ j, j < bsTo C X f lo hi → cmpL (gt C j) X < 0) ∧ (∀ j, bsTo C X f lo hi ≤ j → j < C.length → 0 ≤ cmpL (gt C j) X) := by
 intro f
 induction f with
 | zero => intro lo hi h1 h2; omega
 | succ f ih =>
  intro lo hi h1 h2 h3 h4 h5
  simp only [bsTo]
  by_cases hlt : lo < hi
  ·rw [if_pos hlt]
   by_cases hn : cmpL (gt C ((lo + hi) / 2)) X < 0
   ·rw [if_pos hn]
    refine ih _ _ (by omega) (by omega) h3 ?_ h5
    intro j hj
    have h6 := sortedL_le hs (show j ≤ (lo + hi) / 2 by omega) (by omega)
    have h7 : ¬ (0 ≤ cmpL (gt C j) X) := by
     intro h8
     have h9 := cmpL_swap (gt C j) X
     have h10 := cmpL_le_trans X (gt C j) (gt C ((lo + hi) / 2)) (by omega) h6
     have h11 := cmpL_swap (gt C ((lo + hi) / 2)) X
     omega
    omega
   ·rw [if_neg hn]
    refine ih _ _ (by omega) (by omega) (by omega) h4 ?_
    intro j hj hj2
    have h6 := sortedL_le hs (show (lo + hi) / 2 ≤ j by omega) hj2
    have h7 : ¬ (cmpL (gt C j) X < 0) := by
     intro h8
     have h10 := cmpL_le_trans (gt C ((lo + hi) / 2)) (gt C j) X h6 (by omega)
     have h11 : cmpL (gt C ((lo + hi) / 2)) X = 0 := by omega
     rw [cmpL_zero] at h11
     rw [h11] at h6
     have := cmpL_swap X (gt C j)
     omega
    omega
  ·rw [if_neg hlt]
   exact ⟨by omega, h4, fun j hj hj2 => h5 j (by omega) hj2⟩
theorem bsFound_mem (C : List (List Int)) (X : List Int) (hs : SortedL C) : bsFound C X = decide (X ∈ C) := by
 obtain ⟨h1, h2, h3⟩ := bsTo_spec C X hs (C.length + 1) 0 C.length (by omega) (by omega) (Nat.le_refl _) (fun j hj => by omega) (fun j hj hj2 => by omega)
 have hb : bs C X = bsTo C X (C.length + 1) 0 C.length := rfl
 rw [← hb] at h1 h2 h3
 by_cases hm : X ∈ C
 ·obtain ⟨i, hi, hx⟩ := mem_gt hm
  have h0 : cmpL (gt C i) X = 0 := (cmpL_zero _ _).2 hx
  have hbi : bs C X ≤ i := by
   rcases Nat.lt_or_ge i (bs C X) with h | h
   ·have := h2 i h; omega
   ·exact h
  have h4 := h3 (bs C X) (Nat.le_refl _) (by omega)
  have h5 := sortedL_le hs hbi hi
  rw [hx] at h5
  have h6 : cmpL (gt C (bs C X)) X = 0 := by omega
  simp [bsFound, hm, h6]; omega
 ·by_cases hl : bs C X < C.length
  ·have : cmpL (gt C (bs C X)) X ≠ 0 := by
    intro h
    rw [cmpL_zero] at h
    exact hm (h ▸ gt_mem hl)
   simp [bsFound, hm, this]
  ·simp [bsFound, hm]; omega
end Go.Proofs.YtdcobapnlpeaaaaGreat
namespace Go.Proofs.YtdcobapnlpeaaaaGreat
open Go.RowKit
open Classical in
noncomputable def clsCode (P : Pr) (ok : Bool) : Int := if ok then (if ordP P > 128 then 3 else 0) else 1
open Classical in
set_option maxRecDepth 100000 in
set_option maxHeartbeats 4000000 in
theorem l18Code_ok (P : Pr) (w : World) (pv : Value) (Sp : Nat → Prop) (hpv : PresV Sp w pv P) :
  Calls Tryz.prog 164 #[pv] w (Ret w fun _ v => v = .int .i64 (clsCode P (rconsB P))) := by
 obtain ⟨vo, vp, vc, rfl, h3⟩ := hpv
 have hp0 := PresP.box h3 28
 have hg0 : Ext w (w.alloc (.cells #[vo, vp, vc] 28)) := World.grownBy_alloc _ _ _
 go_enter Tryz.func164, Tryz.ntmps164
 go_wp2_with fail
 refine Calls.mono (l08Group_ok P _ _ _ ⟨_, _, _, rfl, Pres3.ext h3 (World.grownBy_alloc _ _ _)⟩) ?_
 rintro eA wA ⟨vA, rfl, hgA, rfl⟩
 obtain ⟨vo5, vp5, vc5, _, _, hb1, hb2, hb3, h3r⟩ := (hp0.ext hgA).at
 simp at hb2 hb3
 cases hr : rconsB P with
 | false =>
  go_wp2
  exact bodyPost_ret (v := .int .i64 1) (by simp [results, Tryz.results164, go_sem]) rfl ⟨_, rfl, grown_trans hg0 hgA, by simp [clsCode, hr]⟩
 | true =>
  have hv : Valid P := by
   unfold rconsB at hr
   exact (of_decide_eq_true hr).1
  go_wp2_with fail
  refine Calls.mono (l10Order_ok _ _ P _ hv ⟨_, _, _, rfl, h3r⟩) ?_
  rintro eB wB ⟨vB, rfl, hgB, rfl⟩
  by_cases hb : ordP P > 128
  ·have hb' : 128 < ordP P := hb
   go_wp2
   exact bodyPost_ret (v := .int .i64 3) (by simp [results, Tryz.results164, go_sem]) rfl ⟨_, rfl, grown_trans hg0 (grown_trans hgA hgB), by simp [clsCode, hr, hb']⟩
  ·have hb' : ordP P ≤ 128 := by omega
   go_wp2
   exact bodyPost_ret (v := .int .i64 0) (by simp [results, Tryz.results164, go_sem]) rfl ⟨_, rfl, grown_trans hg0 (grown_trans hgA hgB), by simp [clsCode, hr]; omega⟩
def marksTo (P : Pr) (X : List Int) : Nat → List Bool
 | 0 => List.replicate (ordP P).toNat false
 | k + 1 => (marksTo P X k).set (num P (rConj P X (elAt P (k : Int)))).toNat true
theorem marksTo_len (P : Pr) (X : List Int) (k : Nat) : (marksTo P X k).length = (ordP P).toNat := by
 induction k with
 | zero => simp [marksTo]
 | succ k ih => simp [marksTo, ih]
set_option maxRecDepth 100000 in
set_option maxHeartbeats 8000000 in
theorem l18Marks_ok (P : Pr) (hP : Valid P) (w : World) (pv x : Value) (X : List Int) (Sp Sx : Nat → Prop) (hpv : PresV Sp w pv P) (hx : Ints Sx w x X) (hX : Vec P.orders X) :
  Calls Tryz.prog 248 #[pv, x] w (Ret w fun w' v => BOwn w.heap.size w' v (marksTo P X (ordP P).toNat)) := by
 have h729 : ordP P ≤ 729 := hP.le729
 have hn6 := hP.n6
 have hpos := hP.ordP_pos
 obtain ⟨vo, vp, vc, rfl, h3⟩ := hpv
 have hp0 := PresP.box h3 28
 have hg0 : Ext w (w.alloc (.cells #[vo, vp, vc] 28)) := World.grownBy_alloc _ _ _
 go_enter Tryz.func248, Tryz.ntmps248
 go_wp2_with fail
 refine Calls.mono (l10Order_ok _ _ P _ hP ⟨_, _, _, rfl, Pres3.ext h3 (World.grownBy_alloc _ _ _)⟩) ?_
 rintro eO wO ⟨vO, rfl, hgO, rfl⟩
 have hgw : Ext w wO := grown_trans hg0 hgO
 go_wp2_with (at_make; refine wp_make_bools rfl _ _ rfl wO.heap.size (ordP P).toNat wO.heap.size rfl (ordP P) rfl rfl (by omega) (by omega) (Nat.le_refl _) ?_; intro wM hoM hgM hltM)
 have hpM := (hp0.ext hgO).ext hgM
 have hgwM := grown_trans hgw hgM
 have hxM := hx.ext hgwM
 have hpb : w.heap.size < wO.heap.size := by have := hgO.size; simp at this; omega
 obtain ⟨wm, hwm⟩ : ∃ wm : World, wm = wM := ⟨_, rfl⟩
 go_loopw [6] (fun kv wr => ∃ k : Nat, kv = .int .i64 k ∧ k ≤ (ordP P).toNat ∧ Ext wO wr ∧ BOwn wO.heap.size wr (.slice (some ⟨wO.heap.size, 0, none⟩) (ordP P).toNat (ordP P).toNat) (marksTo P X k)) (fun kv _ => (ordP P).toNat - (intOf kv).toNat)
 case atStart => exact ⟨0, rfl, by omega, hgM, hoM⟩
 case round =>
  clear hoM
  obtain ⟨k, rfl, hk, hgo, hO⟩ := hrel
  have hpr := (hp0.ext hgO).ext hgo
  have hxr := hx.ext (grown_trans hgw hgo)
  obtain ⟨vo5, vp5, vc5, _, _, hb1, hb2, hb3, h3r⟩ := hpr.at
  simp at hb2 hb3
  go_wp2_with fail
  refine Calls.mono (l10Order_ok _ _ P _ hP ⟨_, _, _, rfl, h3r⟩) ?_
  rintro eC wC ⟨vC, rfl, hgC, rfl⟩
  have hO2 := hO.ext0 hgC
  have hgoC := grown_trans hgo hgC
  by_cases hlt : k < (ordP P).toNat
  ·have hlt' : (k : Int) < ordP P := by omega
   have hb1' := hgC.cell hb1 (by simp)
   have hb2' := hgC.cell hb2 (by simp)
   have hb3' := hgC.cell hb3 (by simp)
   have e1 : ∀ w', Near wC wO.heap.size w' → w'.cell? ⟨w.heap.size, 0, none⟩ = some vo5 := fun w' h => h.cell hb1' (by simp; omega)
   have e2 : ∀ w', Near wC wO.heap.size w' → w'.cell? ⟨w.heap.size, 1, none⟩ = some vp5 := fun w' h => h.cell hb2' (by simp; omega)
   have e3 : ∀ w', Near wC wO.heap.size w' → w'.cell? ⟨w.heap.size, 2, none⟩ = some vc5 := fun w' h => h.cell hb3' (by simp; omega)
   have hvE := elAt_vec hP (k : Int) (by omega)
   have hvC : Vec P.orders (rConj P X (elAt P (k : Int))) := rMul_vec hP _ _ (rInv_vec hP _ hvE) (rMul_vec hP _ _ hX hvE)
   have hnb := num_bd hP hvC
   have n0 : 0 ≤ num P (rConj P X (elAt P (k : Int))) := hnb.1
   have n1 : num P (rConj P X (elAt P (k : Int))) < max (ordP P) 0 := by omega
   have HV := Lib.hid (And.intro hvE hvC); clear hvE hvC hnb
   have h3C := Pres3.ext h3r hgC
   have hxC := hxr.ext hgC
   clear hb1 hb2 hb3 hb1' hb2' hb3'
   have hle := HV.out.1.1
   have hlc := HV.out.2.1
   have HL := Lib.hid (And.intro hle hlc); clear hle hlc
   have hcel := hO2.cell (num P (rConj P X (elAt P (k : Int)))).toNat (by rw [marksTo_len]; omega)
   have hfr := hO2.frozen (num P (rConj P X (elAt P (k : Int)))).toNat
   go_wp2
   go_region_held3 (fun w' => Near wC wO.heap.size w') (first | exact Near.of (grown_drew _ _) | exact Near.of (by assumption) | exact Near.store (by assumption) | assumption)
    (first
     | (go_at_call 107; refine Calls.mono (Calls.rel (w0 := wC) (by first | exact grown_drew _ _ | assumption) (l10At_ok P hP _ _ _ Any ⟨_, _, _, rfl, Pres3.ext h3C (by first | exact grown_drew _ _ | assumption)⟩ (by omega) (by omega))) ?_; rintro eE wE ⟨vE, rfl, hgE, hsE, hOE⟩; have hEi := hOE.ints (by rw [HL.out.1]; omega))
     | (go_at_call 150; refine Calls.mono (Calls.rel (w0 := wC) (by assumption) (l10Conj_ok P hP _ _ _ _ _ _ Any Sx Any ⟨_, _, _, rfl, Pres3.ext h3C (by assumption)⟩ (Ints.ext hxC (by assumption)) hEi hX HV.out.1)) ?_; rintro eF wF ⟨vF, rfl, hgF, hsF, hOF⟩; have hFi := hOF.ints (by rw [HL.out.2]; omega))
     | (go_at_call 255; refine Calls.mono (Calls.rel (w0 := wC) (by assumption) (l10Number_ok P hP _ _ _ _ Any Any ⟨_, _, _, rfl, Pres3.ext h3C (by assumption)⟩ hFi HV.out.2)) ?_; rintro eG wG ⟨vG, rfl, hgG, hsG, rfl⟩; have hcel2 := hgG.cell hcel (by simp); have hfr2 := (hO2.ext0 hgG).frozen (num P (rConj P X (elAt P (k : Int)))).toNat))
   clear e1 e2 e3
   obtain ⟨hO3, hgs⟩ := (hO2.ext0 hgG).store (num P (rConj P X (elAt P (k : Int)))).toNat true
   have hgn : Ext wO (wG.setCell ⟨wO.heap.size, (num P (rConj P X (elAt P (k : Int)))).toNat, none⟩ (.bool true)) := grown_own (grown_trans hgoC hgG) hgs (fun j hj hlt => by cases hj; omega)
   clear hcel hcel2 hfr hfr2 hgs
   go_wp2
   go_roundw
   case rel => exact ⟨k + 1, by go_num, by omega, hgn, hO3⟩
   case measure => simp [intOf]; omega
  ·have hke : k = (ordP P).toNat := by omega
   have hlt' : ordP P ≤ (k : Int) := by omega
   subst hke
   go_wp2
   exact bodyPost_ret (v := .slice (some ⟨wO.heap.size, 0, none⟩) (ordP P).toNat (ordP P).toNat) (by simp [results, Tryz.results248, go_sem]) rfl ⟨_, rfl, grown_trans hgw hgoC, hO2.weak hgw.size⟩
/-! ### the classes -/
def fillTo (N : Nat) : Nat → List Int
 | 0 => List.replicate N 0
 | j + 1 => (fillTo N j).set j (-1)
theorem fillTo_len (N j : Nat) : (fillTo N j).length = N := by
 induction j with
 | zero => simp [fillTo]
 | succ j ih => simp [fillTo, ih]
def paint (m : List Bool) (c : Int) (L : List Int) : Nat → List Int
 | 0 => L
 | j + 1 => if gt m j = true then (paint m c L j).set j c else paint m c L j
theorem paint_len (m : List Bool) (c : Int) (L : List Int) (j : Nat) : (paint m c L j).length = L.length := by
 induction j with
 | zero => rfl
 | succ j ih => simp only [paint]; split <;> simp [ih]
def clsTo (P : Pr) : Nat → List Int × Nat
 | 0 => (fillTo (ordP P).toNat (ordP P).toNat, 0)
 | k + 1 => if 0 ≤ gt (clsTo P k).1 k then clsTo P k else (paint (marksTo P (elAt P (k : Int)) (ordP P).toNat) (clsTo P k).2 (clsTo P k).1 (ordP P).toNat, (clsTo P k).2 + 1)
theorem clsTo_len (P : Pr) (k : Nat) : (clsTo P k).1.length = (ordP P).toNat := by
 induction k with
 | zero => simp [clsTo, fillTo_len]
 | succ k ih => simp only [clsTo]; split <;> simp [paint_len, ih]
theorem clsTo_num (P : Pr) (k : Nat) : (clsTo P k).2 ≤ k := by
 induction k with
 | zero => simp [clsTo]
 | succ k ih =>
  simp only [clsTo]; split
  ·omega
  ·show _ + 1 ≤ _; omega
def rCls (P : Pr) : List Int × Nat := clsTo P (ordP P).toNat
set_option maxRecDepth 100000 in
set_option maxHeartbeats 8000000 in
theorem l18Classes_ok (P : Pr) (hP : Valid P) (w : World) (pv : Value) (Sp : Nat → Prop) (hpv : PresV Sp w pv P) :
  Calls Tryz.prog 165 #[pv] w (Ret w fun w' v => ∃ r, v = .tuple #[r, .int .i64 ((rCls P).2 : Nat)] ∧ Own w.heap.size w' r (rCls P).1) := by
 have h729 : ordP P ≤ 729 := hP.le729
 have hn6 := hP.n6
 have hpos := hP.ordP_pos
 obtain ⟨vo, vp, vc, rfl, h3⟩ := hpv
 have hp0 := PresP.box h3 28
 have hg0 : Ext w (w.alloc (.cells #[vo, vp, vc] 28)) := World.grownBy_alloc _ _ _
 go_enter Tryz.func165, Tryz.ntmps165
 go_wp2_with fail
 refine Calls.mono (l10Order_ok _ _ P _ hP ⟨_, _, _, rfl, Pres3.ext h3 (World.grownBy_alloc _ _ _)⟩) ?_
 rintro eO wO ⟨vO, rfl, hgO, rfl⟩
 have hgw : Ext w wO := grown_trans hg0 hgO
 have hpO := hp0.ext hgO
 clear hp0
 go_wp2_with (at_make; refine wp_make_ints rfl _ _ rfl wO.heap.size (ordP P).toNat wO.heap.size rfl (ordP P) rfl rfl (by omega) (by omega) (Nat.le_refl _) ?_; intro wM hoM hgM hltM)
 have hpb : w.heap.size < wO.heap.size := by have := hgO.size; simp at this; omega
 have hN : (ordP P).toNat ≤ 729 ∧ 1 ≤ (ordP P).toNat ∧ (ordP P).toNat ≤ 729 := by omega
 have hNE : ordP P = ((ordP P).toNat : Nat) := by omega
 have HNE := Lib.hid hNE; clear hNE
 generalize hNN : (ordP P).toNat = N at *
 have HNN := Lib.hid hNN; clear hNN
 go_loopw [5] (fun kv wr => ∃ j : Nat, kv = .int .i64 j ∧ j ≤ N ∧ Ext wO wr ∧ Own wO.heap.size wr (.slice (some ⟨wO.heap.size, 0, none⟩) N N) (fillTo N j)) (fun kv _ => N - (intOf kv).toNat)
 case atStart => exact ⟨0, rfl, by omega, hgM, hoM⟩
 case round =>
  clear hoM hgM
  obtain ⟨j, rfl, hj, hgo, hO⟩ := hrel
  by_cases hlt : j < N
  ·have hc := hO.cell j (by rw [fillTo_len]; omega)
   have hf := hO.frozen j
   obtain ⟨hO3, hgs⟩ := hO.store j (-1)
   have hgn : Ext wO (wr.setCell ⟨wO.heap.size, j, none⟩ (.int .i64 (-1))) := grown_own hgo hgs (fun j hj hlt => by cases hj; omega)
   go_wp2
   clear hc hf hgs
   go_roundw
   case rel => exact ⟨j + 1, by go_num, by omega, hgn, hO3⟩
   case measure => simp [intOf]; omega
  ·have hje : j = N := by omega
   subst hje
   go_wp2
   clear hlt hj
   go_loopw [6, 7] (fun cv kv wr => ∃ k : Nat, kv = .int .i64 k ∧ cv = .int .i64 ((clsTo P k).2 : Nat) ∧ k ≤ j ∧ Ext wO wr ∧ Own wO.heap.size wr (.slice (some ⟨wO.heap.size, 0, none⟩) j j) (clsTo P k).1) (fun _ kv _ => j - (intOf kv).toNat)
   case atStart => exact ⟨0, rfl, rfl, by omega, hgo, by simp only [clsTo]; rw [HNN.out]; exact hO⟩
   case round =>
    clear hO hgo
    obtain ⟨k, rfl, rfl, hk, hgo, hO⟩ := hrel
    have hcn := clsTo_num P k
    by_cases hlt : k < j
    ·have hc := hO.cell k (by rw [clsTo_len, HNN.out]; omega)
     by_cases hge : 0 ≤ gt (clsTo P k).1 k
     ·have hsucc : clsTo P (k + 1) = clsTo P k := by simp only [clsTo]; rw [if_pos hge]
      have HS := Lib.hid hsucc; clear hsucc
      go_wp2
      go_roundw
      case rel => exact ⟨k + 1, by go_num, by rw [HS.out], by omega, hgo, by rw [HS.out]; exact hO⟩
      case measure => simp [intOf]; omega
     ·have hlt0 : gt (clsTo P k).1 k < 0 := by omega
      have hsucc : clsTo P (k + 1) = (paint (marksTo P (elAt P (k : Int)) j) (clsTo P k).2 (clsTo P k).1 j, (clsTo P k).2 + 1) := by simp only [clsTo]; rw [if_neg hge, HNN.out]
      have HS := Lib.hid hsucc; clear hsucc hge
      obtain ⟨vo5, vp5, vc5, _, _, hb1, hb2, hb3, h3r⟩ := (hpO.ext hgo).at
      simp at hb2 hb3
      have e1 : ∀ w', Ext wr w' → w'.cell? ⟨w.heap.size, 0, none⟩ = some vo5 := fun w' h => h.cell hb1 (by simp)
      have e2 : ∀ w', Ext wr w' → w'.cell? ⟨w.heap.size, 1, none⟩ = some vp5 := fun w' h => h.cell hb2 (by simp)
      have e3 : ∀ w', Ext wr w' → w'.cell? ⟨w.heap.size, 2, none⟩ = some vc5 := fun w' h => h.cell hb3 (by simp)
      have hvE := elAt_vec hP (k : Int) (by omega)
      have HV := Lib.hid hvE; clear hvE
      clear hb1 hb2 hb3
      go_wp2
      clear hc
      go_region_held3 (fun w' => Ext wr w') (first | exact grown_drew _ _ | assumption)
       (first
        | (go_at_call 107; refine Calls.mono (Calls.rel (w0 := wr) (by assumption) (l10At_ok P hP _ _ _ Any ⟨_, _, _, rfl, Pres3.ext h3r (by assumption)⟩ (by omega) (by omega))) ?_; rintro eE wE ⟨vE, rfl, hgE, hsE, hOE⟩; have hEi := hOE.ints (by rw [HV.out.1]; omega))
        | (go_at_call 248; refine Calls.mono (Calls.rel (w0 := wr) (by assumption) (l18Marks_ok P hP _ _ _ _ Any Any ⟨_, _, _, rfl, Pres3.ext h3r (by assumption)⟩ hEi HV.out)) ?_; rintro eG wG ⟨vG, rfl, hgG, hsG, hOG⟩; have hOL := hO.ext0 hgG))
      have hwr : wO.heap.size < wr.heap.size := by
       obtain ⟨g, cap, hv, _, hg⟩ := hO.form (by rw [clsTo_len, HNN.out]; omega)
       cases hv; exact hg
      clear e1 e2 e3 hOE hEi hO h3r
      rw [HNN.out] at hOG
      have hml : (marksTo P (elAt P (k : Int)) j).length = j := by rw [marksTo_len, HNN.out]
      have hll : (clsTo P k).1.length = j := by rw [clsTo_len, HNN.out]
      obtain ⟨g2, cap2, rfl, hg2, hg2'⟩ := hOG.form (by rw [hml]; omega)
      rw [hml] at hOG
      simp only [hml]
      have hgoG := grown_trans hgo hgG
      have hwE : wO.heap.size < g2 := by have := hgE.size; omega
      have HML := Lib.hid (And.intro hml hll); clear hml hll
      go_wp2
      obtain ⟨wo, rfl⟩ : ∃ wo : World, wo = wG := ⟨_, rfl⟩
      generalize hMM : marksTo P (elAt P (k : Int)) j = M at *
      have HMM := Lib.hid hMM; clear hMM
      go_loopw [9] (fun iv wr => ∃ i : Nat, iv = .int .i64 i ∧ i ≤ j ∧ wo.grownBy wr (some wO.heap.size) ∧ Ext wO wr ∧ Own wO.heap.size wr (.slice (some ⟨wO.heap.size, 0, none⟩) j j) (paint M (clsTo P k).2 (clsTo P k).1 i)) (fun iv _ => j - (intOf iv).toNat)
      case atStart => exact ⟨0, rfl, by omega, grown_refl _ _, hgoG, hOL⟩
      case round =>
       clear hgo hgoG hOL hgG hgE
       obtain ⟨i, rfl, hi, hgi, hgo, hO⟩ := hrel
       by_cases hlt2 : i < j
       ·have hmc := (hOG.keep hgi (by omega)).cell i (by rw [HML.out.1]; omega)
        have hcc := hO.cell i (by rw [paint_len, HML.out.2]; omega)
        have hf := hO.frozen i
        have hii : (i : Int) < j := by omega
        cases hq : gt M i with
        | true =>
         rw [hq] at hmc
         have hsucc : paint M (clsTo P k).2 (clsTo P k).1 (i + 1) = (paint M (clsTo P k).2 (clsTo P k).1 i).set i (clsTo P k).2 := by simp only [paint]; rw [if_pos hq]
         have HS2 := Lib.hid hsucc; clear hsucc hq
         obtain ⟨hO3, hgs⟩ := hO.store i ((clsTo P k).2 : Nat)
         have hgn : Ext wO (wr.setCell ⟨wO.heap.size, i, none⟩ (.int .i64 ((clsTo P k).2 : Nat))) := grown_own hgo hgs (fun j hj hlt => by cases hj; omega)
         have hgn2 := hgi.trans hgs
         go_wp2
         clear hmc hcc hf
         go_roundw
         case rel => exact ⟨i + 1, by go_num, by omega, hgn2, hgn, by rw [HS2.out]; exact hO3⟩
         case measure => simp [intOf]; omega
        | false =>
         rw [hq] at hmc
         have hsucc : paint M (clsTo P k).2 (clsTo P k).1 (i + 1) = paint M (clsTo P k).2 (clsTo P k).1 i := by simp only [paint]; rw [if_neg (by rw [hq]; simp)]
         have HS2 := Lib.hid hsucc; clear hsucc hq
         go_wp2
         clear hmc hcc hf
         go_roundw
         case rel => exact ⟨i + 1, by go_num, by omega, hgi, hgo, by rw [HS2.out]; exact hO⟩
         case measure => simp [intOf]; omega
       ·have hie : i = j := by omega
        subst hie
        go_wp2
        go_roundw
        case rel => exact ⟨k + 1, by go_num, by rw [HS.out]; go_num, by omega, hgo, by rw [HS.out]; exact hO⟩
        case measure => simp [intOf]; omega
    ·have hke : k = j := by omega
     subst hke
     go_wp2
     refine bodyPost_ret (v := .tuple #[.slice (some ⟨wO.heap.size, 0, none⟩) k k, .int .i64 ((clsTo P k).2 : Nat)]) (by simp [results, Tryz.results165, go_sem]) rfl ⟨_, rfl, grown_trans hgw hgo, _, by unfold rCls; rw [HNN.out], by unfold rCls; rw [HNN.out]; exact hO.weak hgw.size⟩
def cntTo (L : List Int) (c : Nat) : Nat → List Int
 | 0 => List.replicate c 0
 | k + 1 => (cntTo L c k).set (gt L k).toNat (gt (cntTo L c k) (gt L k).toNat + 1)
theorem cntTo_len (L : List Int) (c k : Nat) : (cntTo L c k).length = c := by
 induction k with
 | zero => simp [cntTo]
 | succ k ih => simp [cntTo, ih]
theorem gt_set {α : Type} [Inhabited α] (l : List α) (i j : Nat) (x : α) (hj : j < l.length) : gt (l.set i x) j = if i = j then x else gt l j := by
 simp only [gt, List.getD_eq_getElem?_getD]
 rw [List.getElem?_set]
 by_cases h : i = j
 ·subst h; simp [hj]
 ·simp [h]
theorem cntTo_bd (L : List Int) (c k : Nat) : ∀ j, j < c → 0 ≤ gt (cntTo L c k) j ∧ gt (cntTo L c k) j ≤ k := by
 induction k with
 | zero => intro j hj; simp [cntTo, gt, hj]
 | succ k ih =>
  intro j hj
  simp only [cntTo]
  rw [gt_set _ _ _ _ (by rw [cntTo_len]; exact hj)]
  have := ih j hj
  split
  ·rename_i h; subst h; omega
  ·omega
def rSizes (P : Pr) : List Int := cntTo (rCls P).1 (rCls P).2 (ordP P).toNat
end Go.Proofs.YtdcobapnlpeaaaaGreat
namespace Go.Proofs.YtdcobapnlpeaaaaGreat
open Go.RowKit
theorem nodup_len : ∀ (N : Nat) (l : List Int), l.Nodup → (∀ x ∈ l, 0 ≤ x ∧ x < (N : Int)) → l.length ≤ N := by
 intro N
 induction N with
 | zero =>
  intro l _ h
  cases l with
  | nil => simp
  | cons a l => have := h a (by simp); omega
 | succ N ih =>
  intro l hn h
  by_cases hm : (N : Int) ∈ l
  ·have h1 := ih (l.erase (N : Int)) (hn.erase _) (fun x hx => by
    have h2 := (hn.mem_erase_iff).1 hx
    have h3 := h x h2.2
    have := h2.1
    omega)
   rw [List.length_erase_of_mem hm] at h1
   omega
  ·have h1 := ih l hn (fun x hx => by
    have h3 := h x hx
    have : x ≠ (N : Int) := fun e => hm (e ▸ hx)
    omega)
   omega
def addZ (P : Pr) (L : List (List Int)) (z : List Int) : List (List Int) := if num P z ∈ L.map (num P) then L else L ++ [z]
def orbIn (P : Pr) (y : List Int) (L : List (List Int)) : Nat → List (List Int)
 | 0 => L
 | g + 1 => addZ P (orbIn P y L g) (iConj P y (unitV P.orders.length g))
def orbTo (P : Pr) : Nat → Nat → List (List Int) → List (List Int)
 | 0, _, L => L
 | f + 1, i, L => if i < L.length then orbTo P f (i + 1) (orbIn P (gt L i) L P.orders.length) else L
def orb (P : Pr) (x : List Int) : List (List Int) := orbTo P ((ordP P).toNat + 1) 0 [x]
structure OrbI (P : Pr) (L : List (List Int)) : Prop where
 vec : ∀ y ∈ L, Vec P.orders y
 nd : (L.map (num P)).Nodup
theorem OrbI.len {P : Pr} (hP : Valid P) {L : List (List Int)} (h : OrbI P L) : L.length ≤ (ordP P).toNat := by
 have h1 := nodup_len (ordP P).toNat (L.map (num P)) h.nd (fun x hx => by
  obtain ⟨y, hy, rfl⟩ := List.mem_map.1 hx
  have := num_bd hP (h.vec y hy)
  omega)
 simpa using h1
theorem OrbI.add {P : Pr} {L : List (List Int)} (h : OrbI P L) {z : List Int} (hz : Vec P.orders z) : OrbI P (addZ P L z) := by
 unfold addZ
 by_cases hm : num P z ∈ L.map (num P)
 ·rw [if_pos hm]; exact h
 ·rw [if_neg hm]
  refine ⟨fun y hy => ?_, ?_⟩
  ·rcases List.mem_append.1 hy with h1 | h1
   ·exact h.vec y h1
   ·rw [List.mem_singleton.1 h1]; exact hz
  ·rw [List.map_append, List.nodup_append]
   refine ⟨h.nd, by simp, ?_⟩
   intro a ha b hb e
   simp at hb
   subst e hb
   exact hm ha
theorem OrbI.single {P : Pr} {x : List Int} (hx : Vec P.orders x) : OrbI P [x] := ⟨fun y hy => by rw [List.mem_singleton.1 hy]; exact hx, by simp⟩
theorem addZ_pre (P : Pr) (L : List (List Int)) (z : List Int) : ∃ M, addZ P L z = L ++ M := by
 unfold addZ; split
 ·exact ⟨[], by simp⟩
 ·exact ⟨[z], rfl⟩
theorem orbIn_pre (P : Pr) (y : List Int) (L : List (List Int)) (g : Nat) : ∃ M, orbIn P y L g = L ++ M := by
 induction g with
 | zero => exact ⟨[], by simp [orbIn]⟩
 | succ g ih =>
  obtain ⟨M, hM⟩ := ih
  obtain ⟨M2, h2⟩ := addZ_pre P (orbIn P y L g) (iConj P y (unitV P.orders.length g))
  exact ⟨M ++ M2, by simp only [orbIn]; rw [h2, hM, List.append_assoc]⟩
theorem OrbI.inn {P : Pr} (hP : Valid P) {L : List (List Int)} (h : OrbI P L) {y : List Int} (hy : Vec P.orders y) (g : Nat) : OrbI P (orbIn P y L g) := by
 induction g with
 | zero => exact h
 | succ g ih => exact ih.add (iConj_vec hP _ _ hy (unitV_vec hP g))
end Go.Proofs.YtdcobapnlpeaaaaGreat
namespace Go.Proofs.YtdcobapnlpeaaaaGreat
open Go.Proofs Go.RowKit
theorem SlO.lit {α : Type} [Inhabited α] {El : (Nat → Prop) → World → Value → α → Prop} (hEl : RdOk El) {E B : Nat} {w : World} {u : Value} {y : α} (hu : El (From B) w u y) (hB : B ≤ w.heap.size) :
  SlO El E B (w.alloc (.cells #[u] E)) (.slice (some ⟨w.heap.size, 0, none⟩) 1 1) [y] := by
 have hg : Ext w (w.alloc (.cells #[u] E)) := World.grownBy_alloc _ _ _
 refine ⟨[u], fun _ k => B ≤ k ∧ k < w.heap.size, rfl, World.ownsRow_lit w #[u] 1 hB (by decide) rfl, ?_, ?_, ?_⟩
 ·intro i k _ hk
  refine ⟨hk.1, fun h => ?_, ?_⟩
  ·have : w.heap.size = k := Option.some.inj h
   omega
  ·have := hg.size; omega
 ·intro i j k hi hj _ _
  simp at hi hj; omega
 ·intro i hi
  have : i = 0 := by simpa using hi
  subst this
  exact hEl.mono hu (fun k hk hlt => ⟨⟨hk, hlt⟩, Nat.lt_of_lt_of_le hlt hg.size, hg.block k hlt (by simp)⟩)
theorem num_wf {P : Pr} (hP : Valid P) {x : List Int} (hx : Vec P.orders x) : (Lit.int .i64 (num P x)).wf = true := by
 have h1 := num_bd hP hx
 have h2 : ordP P ≤ 729 := hP.le729
 have e1 : IntKind.i64.min = -9223372036854775808 := by decide
 have e2 : IntKind.i64.max = 9223372036854775807 := by decide
 simp [Lit.wf]
 omega
theorem run_makeSeen (w : World) : (Instr.makeMap 147 none).run Tryz.prog w = .ok (.map (some w.heap.size)) (w.alloc (.map #[] 0)) := by kernel_rfl
set_option maxRecDepth 100000 in
set_option maxHeartbeats 8000000 in
theorem classOf_ok (P : Pr) (hP : Valid P) (w : World) (p x : Value) (X : List Int) (Sp Sx : Nat → Prop) (hp : PresP Sp w p P) (hx : Ints Sx w x X) (hX : Vec P.orders X) :
  Calls Tryz.prog 241 #[p, x] w (Ret w fun w' v => RowsO w.heap.size w' v (sortL (orb P X))) := by
 have h729 : ordP P ≤ 729 := hP.le729
 have hn6 := hP.n6
 have hpos := hP.ordP_pos
 obtain ⟨pb, po, rfl, _⟩ := hp.shape
 have hlX : X.length ≤ P.orders.length ∧ P.orders.length ≤ X.length := by rw [hX.1]; omega
 go_enter Tryz.func241, Tryz.ntmps241
 go_wp2_with fail
 refine Calls.mono (clone_ok w x X _ hx (by omega)) ?_
 rintro e1 w1 ⟨r, rfl, hg1, hO1⟩
 have hr1 : OwnIn (From w.heap.size) w1 r X := OwnIn.of hO1 (by omega) (fun j hj _ => hj)
 obtain ⟨ar, capr, rfl, _, _⟩ := hr1.ints.shape
 have hL1 : RowsO w.heap.size (w1.alloc (.cells #[.slice ar X.length capr] 24)) (.slice (some ⟨w1.heap.size, 0, none⟩) 1 1) [X] := SlO.lit rdOwn hr1 hg1.size
 have hg2 : Ext w (w1.alloc (.cells #[.slice ar X.length capr] 24)) := grown_trans hg1 (World.grownBy_alloc _ _ _)
 have hL2 := (SlO.avoid (A := fun k => k = w1.heap.size + 1) hL1 (by intro k hk; simp; omega)).ext rdOwn (World.grownBy_alloc (w1.alloc (.cells #[.slice ar X.length capr] 24)) (.map #[] 0) none)
 have hS2 := Seen.made (w1.alloc (.cells #[.slice ar X.length capr] 24))
 have hg3 : Ext w ((w1.alloc (.cells #[.slice ar X.length capr] 24)).alloc (.map #[] 0)) := grown_trans hg2 (World.grownBy_alloc _ _ _)
 have hmk := run_makeSeen (w1.alloc (.cells #[.slice ar X.length capr] 24))
 go_wp2_with fail
 have hsz : (w1.alloc (.cells #[.slice ar X.length capr] 24)).heap.size = w1.heap.size + 1 := by simp
 rw [hsz] at hS2
 clear hmk
 generalize (w1.alloc (.cells #[.slice ar X.length capr] 24)).alloc (.map #[] 0) = w2 at *
 refine Calls.mono (numberOf_ok P hP w2 _ _ X _ _ (hp.ext hg3) (hx.ext hg3) hX) ?_
 rintro e3 w3 ⟨rfl, rfl⟩
 obtain ⟨w4, hrun, hS4, hg4⟩ := hS2.update (num P X) (num_wf hP hX) (by simp)
 have hw2 : w1.heap.size + 1 < w2.heap.size := hS2.lt
 have hgw4 : Ext w w4 := grown_own hg3 hg4 (fun j hj hlt => by cases hj; have := hg1.size; omega)
 have hL4 := hL2.kept rdOwn hg4 rfl
 clear hsz hL1 hL2 hS2 hg2 hO1 hr1
 go_wp2
 clear hrun
 have hmw : w1.heap.size + 1 < w4.heap.size := hS4.lt
 have hmB : w.heap.size ≤ w1.heap.size + 1 := by have := hg1.size; omega
 clear hg1 hg3 hg4 hw2
 generalize w1.heap.size + 1 = mb at *
 have HO := Lib.hid (show orbTo P ((ordP P).toNat + 1) 0 [X] = orb P X from rfl)
 generalize w1.heap.size = b1 at *
 go_loopw [5, 7] (fun v iv wr => ∃ (i f : Nat) (L : List (List Int)), iv = .int .i64 i ∧ i ≤ L.length ∧ 1 ≤ L.length ∧ f + i = (ordP P).toNat + 1 ∧ Ext w wr ∧ SlOA OwnIn 24 w.heap.size (fun k => k = mb) wr v L ∧ Seen wr mb (L.map (num P)) ∧ OrbI P L ∧ orbTo P f i L = orb P X) (fun _ iv _ => (ordP P).toNat - (intOf iv).toNat)
 case atStart => exact ⟨0, (ordP P).toNat + 1, [X], rfl, by simp, by simp, by omega, hgw4, hL4, hS4, OrbI.single hX, HO.out⟩
 case round =>
  clear hL4 hS4 hgw4 hmw
  obtain ⟨i, f, L, rfl, hiL, hL1, hfi, hg, hL, hS, hI, horb⟩ := hrel
  have HORB := Lib.hid horb; clear horb
  have hLn := hI.len hP
  have HI := Lib.hid hI; clear hI
  have hLd := RowsD.rows (hL.o.toD (by omega))
  obtain ⟨aL, capL, rfl, _, _⟩ := Sl.shape hLd
  have hmw : mb < wr.heap.size := hS.lt
  by_cases hlt : i < L.length
  ·go_wp2_with fail
   refine Calls.mono (generators_ok P hP wr _ Sp (hp.ext hg)) ?_
   rintro eg wg ⟨gv, rfl, hgg, hG⟩
   have hgl : (gensOf P.orders.length).length = P.orders.length := by simp [gensOf]
   have hGd : Rows2 (fun k => wr.heap.size ≤ k ∧ k < wg.heap.size) wg gv (gensOf P.orders.length) := RowsD.rows (SlD.mono rdOwn (hG.toD (by rw [hgl]; omega)) (fun k hk hlt => ⟨⟨hk, hlt⟩, hlt, rfl⟩))
   obtain ⟨ag, capg, rfl, _, _⟩ := Sl.shape hGd
   clear hG
   have hLg := (hL.more (A' := fun k => k = mb ∨ (wr.heap.size ≤ k ∧ k < wg.heap.size)) (fun k hk => hk.imp id (fun h => h.1))).ext rdOwn hgg
   have hSg := hS.kept hgg (by simp)
   have hgwg := grown_trans hg hgg
   clear hL hS
   rw [hgl] at hGd
   have HGL := Lib.hid hgl
   simp only [hgl]
   clear hgl
   go_wp2
   obtain ⟨wo, hwo⟩ : ∃ wo : World, wo = wr := ⟨_, rfl⟩
   have hwos : wo.heap.size = wr.heap.size := by rw [hwo]
   rw [← hwos] at hGd hLg hmw
   clear hwos
   have hYv : Vec P.orders (gt L i) := HI.out.vec _ (gt_mem hlt)
   have HY := Lib.hid hYv; clear hYv
   go_loopw [5, 29] (fun v jv w' => ∃ g : Nat, jv = .int .i64 g ∧ g ≤ P.orders.length ∧ Ext w w' ∧ SlOA OwnIn 24 w.heap.size (fun k => k = mb ∨ (wo.heap.size ≤ k ∧ k < wg.heap.size)) w' v (orbIn P (gt L i) L g) ∧ Seen w' mb ((orbIn P (gt L i) L g).map (num P)) ∧
    (∀ k, wo.heap.size ≤ k → k < wg.heap.size → k < w'.heap.size ∧ w'.heap[k]? = wg.heap[k]?)) (fun _ jv _ => P.orders.length - (intOf jv).toNat)
   case atStart => exact ⟨0, rfl, by omega, hgwg, hLg, hSg, fun k h1 h2 => ⟨h2, rfl⟩⟩
   case round =>
    clear hLg hSg hgwg hgg hLd hg
    obtain ⟨g, rfl, hgn, hg, hL, hS, hkeep⟩ := hrel
    have hII := HI.out.inn hP HY.out g
    have hMn := hII.len hP
    have HII := Lib.hid hII; clear hII
    have hpre := orbIn_pre P (gt L i) L g
    have HPRE := Lib.hid hpre; clear hpre
    have HKEEP := Lib.hid hkeep; clear hkeep
    by_cases hltg : g < P.orders.length
    ·have hGw := Rows2.mono (S' := Any) hGd (fun k hk _ => ⟨trivial, HKEEP.out k hk.1 hk.2⟩)
     obtain ⟨bg, og, ag2, capg2, rfl, _, _, hcg, hig⟩ := Rows2.at hGw g (by rw [HGL.out]; omega)
     have hgg : gt (gensOf P.orders.length) g = unitV P.orders.length g := by simp [gensOf, gt, hltg]
     rw [hgg] at hcg hig
     obtain ⟨M2, hM2⟩ := HPRE.out
     have hiM : i < (orbIn P (gt L i) L g).length := by rw [hM2]; simp; omega
     have hgi : gt (orbIn P (gt L i) L g) i = gt L i := by rw [hM2]; exact gt_append_left _ _ _ hlt
     have hMd := RowsD.rows (hL.o.toD (by omega))
     obtain ⟨aM, capM, rfl, _, _⟩ := Sl.shape hMd
     obtain ⟨bm, om, am2, capm2, rfl, _, _, hcm, him⟩ := Rows2.at hMd i hiM
     rw [hgi] at hcm him
     have hiM' : (i : Int) < (orbIn P (gt L i) L g).length := by omega
     clear hM2 hGw hMd hgi
     have hgn' : (g : Int) < P.orders.length := by omega
     have hvz := iConj_vec hP _ _ HY.out (unitV_vec hP g)
     have HZ := Lib.hid hvz; clear hvz
     go_wp2_with fail
     refine Calls.mono (conjugate_ok P hP wr _ _ _ _ _ _ _ _ (hp.ext hg) him hig HY.out (unitV_vec hP g)) ?_
     rintro ez wz ⟨zv, rfl, hgz, hOz⟩
     have hzo : OwnIn (From wr.heap.size) wz zv _ := OwnIn.of hOz (by rw [HZ.out.1]; omega) (fun j hj _ => hj)
     have hz := hzo.ints
     obtain ⟨az, capz, rfl, _, _⟩ := hz.shape
     go_wp2_with fail
     refine Calls.mono (numberOf_ok P hP wz _ _ _ _ _ (hp.ext (grown_trans hg hgz)) hz HZ.out) ?_
     rintro en wn ⟨rfl, rfl⟩
     have hSz := hS.kept hgz (by simp)
     have hlook := hSz.look (num P (iConj P (gt L i) (unitV P.orders.length g))) (num_wf hP HZ.out)
     have hsucc : orbIn P (gt L i) L (g + 1) = addZ P (orbIn P (gt L i) L g) (iConj P (gt L i) (unitV P.orders.length g)) := rfl
     have HS := Lib.hid hsucc; clear hsucc
     have hgwz := grown_trans hg hgz
     have hkz : ∀ k, wo.heap.size ≤ k → k < wg.heap.size → k < wz.heap.size ∧ wz.heap[k]? = wg.heap[k]? := fun k h1 h2 => by
      obtain ⟨h3, h4⟩ := HKEEP.out k h1 h2
      exact ⟨Nat.lt_of_lt_of_le h3 hgz.size, (hgz.block k h3 (by simp)).trans h4⟩
     have HKZ := Lib.hid hkz; clear hkz
     by_cases hin : num P (iConj P (gt L i) (unitV P.orders.length g)) ∈ (orbIn P (gt L i) L g).map (num P)
     ·rw [decide_eq_true hin] at hlook
      have hadd : orbIn P (gt L i) L (g + 1) = orbIn P (gt L i) L g := by rw [HS.out, addZ, if_pos hin]
      have HA := Lib.hid hadd; clear hadd hin
      go_wp2
      clear hlook
      have hLz := hL.ext rdOwn hgz
      go_roundw
      case rel => exact ⟨g + 1, by go_num, by omega, hgwz, by rw [HA.out]; exact hLz, by rw [HA.out]; exact hSz, HKZ.out⟩
      case measure => simp [intOf]; omega
     ·rw [decide_eq_false hin] at hlook
      have hadd : orbIn P (gt L i) L (g + 1) = orbIn P (gt L i) L g ++ [iConj P (gt L i) (unitV P.orders.length g)] := by rw [HS.out, addZ, if_neg hin]
      have HA := Lib.hid hadd; clear hadd hin
      obtain ⟨wu, hrun, hSu, hgu⟩ := hSz.update (num P (iConj P (gt L i) (unitV P.orders.length g))) (num_wf hP HZ.out) (by simp; omega)
      have hmr : mb < wr.heap.size := hS.lt
      have hzu : OwnIn (From wr.heap.size) wu (.slice az (iConj P (gt L i) (unitV P.orders.length g)).length capz) (iConj P (gt L i) (unitV P.orders.length g)) := rdOwn.mono hzo (fun k hk hlt => ⟨hk, Nat.lt_of_lt_of_le hlt hgu.size, hgu.block k hlt (fun e => by have he := Option.some.inj e; have hk : wr.heap.size ≤ k := hk; omega)⟩)
      obtain ⟨hav1, hav2, hav3⟩ := hL.avoids bm rfl
      go_wp2_with (at_builtin; go_must (refine wp_app_rowA rfl _ _ rfl w.heap.size (fun k => k = mb ∨ (wo.heap.size ≤ k ∧ k < wg.heap.size)) wr wu _ _ _ (iConj P (gt L i) (unitV P.orders.length g)) rfl hL (fun k hk => hk.elim (fun e => e ▸ hmr) (fun h => (HKEEP.out k h.1 h.2).1)) (some mb) (grown_trans (grown_of_ext _ hgz) hgu) (fun k hk => by cases hk; exact .inl rfl) hzu rfl rfl (by omega) hg.size ?_); intro v5 w5 hL5 hg5)
      have hgu2 : Ext w wu := grown_own hgwz hgu (fun j hj hlt => by cases hj; omega)
      have hg5' : wu.grownBy w5 (some bm) := hg5
      have hgw5 : Ext w w5 := grown_own hgu2 hg5' (fun j hj hlt => by cases hj; omega)
      have hS5 := hSu.kept hg5' (fun e => hav1 (.inl (by cases e; rfl)))
      have hk5 : ∀ k, wo.heap.size ≤ k → k < wg.heap.size → k < w5.heap.size ∧ w5.heap[k]? = wg.heap[k]? := fun k h1 h2 => by
       obtain ⟨h3, h4⟩ := HKZ.out k h1 h2
       have h5 := Nat.lt_of_lt_of_le h3 hgu.size
       refine ⟨Nat.lt_of_lt_of_le h5 hg5'.size, (hg5'.block k h5 (fun e => hav1 (by cases e; exact .inr ⟨h1, h2⟩))).trans ((hgu.block k h3 (fun e => by cases e; omega)).trans h4)⟩
      have HK5 := Lib.hid hk5; clear hk5
      go_roundw
      case rel => exact ⟨g + 1, by go_num, by omega, hgw5, by rw [HA.out]; exact hL5, by rw [HA.out]; exact hS5.congr (by simp) (fun a => by rw [List.map_append, List.mem_append, List.mem_cons, List.map_cons, List.map_nil, List.mem_singleton]; exact Or.comm), HK5.out⟩
      case measure => simp [intOf]; omega
    ·have hge : g = P.orders.length := by omega
     subst hge
     have hIn := HI.out.inn hP HY.out P.orders.length
     have hnext : orbTo P f i L = orbTo P (f - 1) (i + 1) (orbIn P (gt L i) L P.orders.length) := by
      obtain ⟨f', rfl⟩ : ∃ f', f = f' + 1 := ⟨f - 1, by omega⟩
      simp only [orbTo, if_pos hlt, Nat.add_sub_cancel]
     have hlen2 : i + 1 ≤ (orbIn P (gt L i) L P.orders.length).length := by
      obtain ⟨M2, hM2⟩ := HPRE.out
      rw [hM2]; simp; omega
     have HN := Lib.hid (And.intro hIn (And.intro hnext hlen2)); clear hIn hnext hlen2
     have hL6 := hL.less (A' := fun k => k = mb) (fun k hk => .inl hk)
     go_wp2
     go_roundw
     case rel => exact ⟨i + 1, f - 1, orbIn P (gt L i) L P.orders.length, by go_num, HN.out.2.2, Nat.le_trans (by omega) HN.out.2.2, by omega, hg, hL6, hS, HN.out.1, by rw [← HN.out.2.1]; exact HORB.out⟩
     case measure => simp [intOf]; omega
  ·have hie : i = L.length := by omega
   have hLe : L = orb P X := by
    rw [← HORB.out]
    cases f with
    | zero => rfl
    | succ f => simp only [orbTo]; rw [if_neg hlt]
   have HLE := Lib.hid hLe; clear hLe
   subst hie
   go_wp2_with fail
   refine Calls.mono (sortRows_ok wr _ L w.heap.size hL.o (by omega) (by omega)) ?_
   rintro es ws ⟨rfl, hs1, hs2⟩
   have hgs := grown_own hg hs2 (fun j hj hlt => by have := (hL.avoids j hj).2.1; omega)
   go_wp2
   exact bodyPost_ret (v := .slice aL L.length capL) (by simp [results, Tryz.results241, go_sem]) rfl ⟨_, rfl, hgs, by rw [← HLE.out]; exact hs1⟩
end Go.Proofs.YtdcobapnlpeaaaaGreat
namespace Go.Proofs.YtdcobapnlpeaaaaGreat
open Go.Proofs Go.RowKit
abbrev Rows3O (B : Nat) (w : World) (v : Value) (xs : List (List (List Int))) : Prop := SlO (fun F w u (x : List (List Int)) => RowsD F w u x) 25 B w v xs
def iClsTo (P : Pr) : Nat → List (List (List Int))
 | 0 => []
 | k + 1 => if (iClsTo P k).any (fun C => bsFound C (elAt P (k : Int))) then iClsTo P k else iClsTo P k ++ [sortL (orb P (elAt P (k : Int)))]
def iCls (P : Pr) : List (List (List Int)) := iClsTo P (ordP P).toNat
theorem iClsTo_len (P : Pr) (k : Nat) : (iClsTo P k).length ≤ k := by
 induction k with
 | zero => simp [iClsTo]
 | succ k ih =>
  simp only [iClsTo]; split
  ·omega
  ·rw [List.length_append]; simp; omega
theorem orb_len {P : Pr} (hP : Valid P) {X : List Int} (hX : Vec P.orders X) : (orb P X).length ≤ (ordP P).toNat := by
 have : ∀ (f i : Nat) (L : List (List Int)), OrbI P L → (orbTo P f i L).length ≤ (ordP P).toNat := by
  intro f
  induction f with
  | zero => intro i L h; exact h.len hP
  | succ f ih =>
   intro i L h
   simp only [orbTo]
   split
   ·rename_i hi
    exact ih _ _ (h.inn hP (h.vec _ (gt_mem hi)) _)
   ·exact h.len hP
 exact this _ _ _ (OrbI.single hX)
theorem iClsTo_rows {P : Pr} (hP : Valid P) (k : Nat) : ∀ C ∈ iClsTo P k, C.length ≤ (ordP P).toNat := by
 induction k with
 | zero => simp [iClsTo]
 | succ k ih =>
  intro C hC
  simp only [iClsTo] at hC
  split at hC
  ·exact ih C hC
  ·rcases List.mem_append.1 hC with h | h
   ·exact ih C h
   ·rw [List.mem_singleton.1 h, (sortL_perm _).length_eq]
    exact orb_len hP (elAt_vec hP _ (by omega))
theorem firstAt_any {CC : List (List (List Int))} {X : List Int} {r : Int} (h : FirstAt (fun i => bsFound (gt CC i) X) CC.length r) : (r < 0 ↔ CC.any (fun C => bsFound C X) = false) := by
 rcases h with ⟨k, rfl, hk, hp, _⟩ | ⟨rfl, hno⟩
 ·constructor
  ·intro h; omega
  ·intro h
   rw [List.any_eq_false] at h
   exact absurd hp (h _ (gt_mem hk))
 ·constructor
  ·intro _
   rw [List.any_eq_false]
   intro C hC
   obtain ⟨i, hi, rfl⟩ := mem_gt hC
   simp [hno i hi]
  ·intro _; omega
theorem und_rows3c : Tryz.prog.underlying 26 = some (.slice 25) := by kernel_rfl
theorem Tryz.infoRow2 : (Tryz.prog.info? 25).map (fun i => (i.zero, i.size, i.bytes)) = some (some (.slice none 0 0), 1, 24) := by kernel_rfl
open Classical in
set_option maxRecDepth 100000 in
set_option maxHeartbeats 8000000 in
theorem classesOf_ok (P : Pr) (w : World) (p : Value) (Sp : Nat → Prop) (hp : PresP Sp w p P) :
  Calls Tryz.prog 154 #[p] w (Ret w fun w' v => ∃ r, v = .tuple #[r, .int .i64 (clsCode P (iconsB P))] ∧ ((clsCode P (iconsB P) ≠ 0 ∧ r = .slice none 0 0) ∨ (clsCode P (iconsB P) = 0 ∧ Rows3O w.heap.size w' r (iCls P)))) := by
 obtain ⟨pb, po, rfl⟩ := hp.shape
 obtain ⟨vo, vp, vc, _, _, hb1, hb2, hb3, h3⟩ := hp.at
 go_enter Tryz.func154, Tryz.ntmps154
 go_wp2_with fail
 refine Calls.mono (isConsistent_ok P _ _ _ ⟨_, _, _, rfl, h3⟩) ?_
 rintro eA wA ⟨vA, rfl, hgA, rfl⟩
 clear hb1 hb2 hb3 h3
 cases hr : iconsB P with
 | false =>
  go_wp2
  exact bodyPost_ret (v := .tuple #[.slice none 0 0, .int .i64 1]) (by simp [results, Tryz.results154, go_sem]) rfl ⟨_, rfl, hgA, _, by simp [clsCode, hr], .inl ⟨by simp [clsCode, hr], rfl⟩⟩
 | true =>
  have hP : Valid P := by
   unfold iconsB at hr
   exact (of_decide_eq_true hr).1
  have h729 : ordP P ≤ 729 := hP.le729
  have hpos := hP.ordP_pos
  have hn6 := hP.n6
  go_wp2_with fail
  refine (orderOf_ok _ _ P Sp hP (hp.ext hgA)).mono ?_
  rintro eB wB ⟨rfl, rfl⟩
  by_cases hb : ordP P > 128
  ·have hb' : 128 < ordP P := hb
   go_wp2
   exact bodyPost_ret (v := .tuple #[.slice none 0 0, .int .i64 3]) (by simp [results, Tryz.results154, go_sem]) rfl ⟨_, rfl, hgA, _, by simp [clsCode, hr, hb'], .inl ⟨by simp [clsCode, hr, hb'], rfl⟩⟩
  ·have hb' : ordP P ≤ 128 := by omega
   have hz : clsCode P (iconsB P) = 0 := by simp [clsCode, hr]; omega
   have HZ := Lib.hid hz; clear hz hr
   go_wp2_with fail
   refine Calls.mono (allElements_ok P hP _ _ Sp (hp.ext hgA)) ?_
   rintro eC wC ⟨vC, rfl, hgC, hC⟩
   have hal : (allEl P).length = (ordP P).toNat := by simp [allEl]
   have hCd := RowsD.rows (hC.toD (by omega))
   obtain ⟨ac, capc, rfl, _, _⟩ := Sl.shape hCd
   rw [hal] at hCd
   have HAL := Lib.hid hal
   simp only [hal]
   clear hal
   have hgwC := grown_trans hgA hgC
   go_wp2
   go_loopw [4, 18] (fun v kv wr => ∃ k : Nat, kv = .int .i64 k ∧ k ≤ (ordP P).toNat ∧ Ext wC wr ∧ Rows3O wC.heap.size wr v (iClsTo P k)) (fun _ kv _ => (ordP P).toNat - (intOf kv).toNat)
   case atStart => exact ⟨0, rfl, by omega, Ext.refl _, SlO.nil _ _ _ _⟩
   case round =>
    obtain ⟨k, rfl, hk, hg, hL⟩ := hrel
    have hkl := iClsTo_len P k
    have hLd := Rows3D.rows (hL.toD (by omega))
    obtain ⟨aL, capL, rfl, _, _⟩ := Sl.shape hLd
    by_cases hlt : k < (ordP P).toNat
    ·have hlt' : (k : Int) < ordP P := by omega
     have hlt'' : (k : Int) < max (ordP P) 0 := by omega
     obtain ⟨be, oe, ae2, cape2, rfl, _, _, hce, hie⟩ := Rows2.at (hCd.ext hg) k (by rw [HAL.out]; omega)
     have hge : gt (allEl P) k = elAt P (k : Int) := by simp [allEl, gt, hlt]
     rw [hge] at hce hie
     have hvE := elAt_vec hP (k : Int) (by omega)
     have HV := Lib.hid (And.intro hvE hge); clear hvE hge
     go_wp2_with fail
     refine Calls.mono (classNumber_ok _ _ (iClsTo P k) (elAt P (k : Int)) wr _ _ hLd hie (fun i hi => by have := iClsTo_rows hP k _ (gt_mem hi); omega)) ?_
     rintro eN wN ⟨vN, rfl, hgN, r, rfl, hr⟩
     have hany := firstAt_any hr
     have HS := Lib.hid (show iClsTo P (k + 1) = if (iClsTo P k).any (fun C => bsFound C (elAt P (k : Int))) then iClsTo P k else iClsTo P k ++ [sortL (orb P (elAt P (k : Int)))] from rfl)
     have hgN' := grown_trans hg hgN
     have hL2 := hL.ext rdRows hgN
     clear hce hr
     by_cases hneg : r < 0
     ·have ha := hany.1 hneg
      have hs := HS.out
      rw [ha] at hs
      simp only [if_false, Bool.false_eq_true] at hs
      have HS2 := Lib.hid hs; clear hs ha hany
      go_wp2_with fail
      refine Calls.mono (classOf_ok P hP wN _ _ (elAt P (k : Int)) Sp _ (hp.ext (grown_trans hgwC hgN')) (hie.ext hgN) HV.out.1) ?_
      rintro eX wX ⟨vX, rfl, hgX, hX⟩
      have hXl : (sortL (orb P (elAt P (k : Int)))).length ≤ 1000000 := by
       rw [(sortL_perm _).length_eq]
       have := orb_len hP HV.out.1
       omega
      have hXd : RowsD (From wN.heap.size) wX vX (sortL (orb P (elAt P (k : Int)))) := hX.toD (by omega)
      obtain ⟨aX, capX, rfl, _, _⟩ := SlD.shape hXd
      clear hXl
      go_wp2_with (at_builtin; go_must (refine wp_app_one rdRows 26 25 (.slice none 0 0) 24 und_rows3c Tryz.infoRow2 rfl (by decide) rfl _ _ rfl wC.heap.size wN wX _ _ _ (sortL (orb P (elAt P (k : Int)))) rfl hL2 hgX hXd rfl rfl (by omega) hgN'.size ?_); intro v5 w5 hL5 hg5 hg6)
      have hgx := hL2.extw hgN' (Nat.le_refl _) hg5
      go_roundw
      case rel => exact ⟨k + 1, by go_num, by omega, hgx, by rw [HS2.out]; exact hL5⟩
      case measure => simp [intOf]; omega
     ·have hneg' : 0 ≤ r := by omega
      have ha : (iClsTo P k).any (fun C => bsFound C (elAt P (k : Int))) = true := by
       cases h : (iClsTo P k).any (fun C => bsFound C (elAt P (k : Int)))
       ·exact absurd (hany.2 h) hneg
       ·rfl
      have hs := HS.out
      rw [if_pos ha] at hs
      have HS2 := Lib.hid hs; clear hs ha hany
      go_wp2
      go_roundw
      case rel => exact ⟨k + 1, by go_num, by omega, hgN', by rw [HS2.out]; exact hL2⟩
      case measure => simp [intOf]; omega
    ·have hke : k = (ordP P).toNat := by omega
     subst hke
     go_wp2
     exact bodyPost_ret (v := .tuple #[.slice aL (iClsTo P (ordP P).toNat).length capL, .int .i64 0]) (by simp [results, Tryz.results154, go_sem]) rfl ⟨_, rfl, grown_trans hgwC hg, _, by rw [HZ.out], .inr ⟨HZ.out, hL.weak hgwC.size⟩⟩
def iSizes (P : Pr) : List Int := (iCls P).map (fun C => (C.length : Int))
end Go.Proofs.YtdcobapnlpeaaaaGreat
