/-
  Lists of lists that a call builds by append: each row in blocks of its own.
  spec.IsPresentation; orders of groups.
  Numbers of elements: impl.numberOf, spec.l10Number, impl.elementAt, spec.l10At, spec.l10One.
  impl.allElements, impl.generators.
  The reference's inverse, conjugate and power: spec.l10From, l10Inv, l10Conj, l08Repeat.
  Plain: the canonical sequence of a subgroup is one: a table that is reduced is determined by the subgroup; so are representatives of cosets.
  Plain: a sequence as a table by depths, as the reference lays it; coset representatives, sifting and the reduced sequence by such a table.
  The reference's tables by depths: spec.l02Lead, l12Depth, l12Table; how a table reads.
  Plain: generated subgroups of sets; intersections.
  The reference's coset representatives and membership: spec.l12Reduce, l12Sift, l12Has.
  The reference's membership and order: spec.l01Zero, l12Sift, l12Has, l12Order.
  append of a whole list of rows, in a region that draws; l01Own2 hands back a list that is not nil.
  Drawing: spec.l07Vectors, l10Some.
  Drawing: spec.l12Some.
  Plain: a group of order at most 32 has at most 17408 subgroups (a crude bound).
  Drawing: spec.l12Draw.
  Drawing: spec.l12Pair and spec.l13Draw.
  The library's sort at [][]int64, laid from the shelf.
  The reference's test of a sequence: spec.l10Element, l10Elements, l01Same2, l12Is, IsSubgroup, l13Two.
  Small things of the subgroup statements.
  impl.conjugates, impl.conjugateSubgroup.
  spec.l13Conj: a conjugate of a subgroup, in new blocks (printed by gen_drawsj.py).
  Plain: the greatest normal subgroup within a subgroup.
  The subgroup of a list.
  NormalCore on both sides.
  impl.closure: the smallest subgroup above a list that is closed under the conjugation by another list.
-/
import Derived.Test.YtdcobapnlpeaaaaGreatK9
import Derived.Test.YtdcobapnlpeaaaaGreatK1
import Derived.Test.YtdcobapnlpeaaaaGreatK2
import Derived.Test.YtdcobapnlpeaaaaGreatK3
import Derived.Test.YtdcobapnlpeaaaaGreatK4
import Derived.Test.YtdcobapnlpeaaaaGreatK5
import Derived.Test.YtdcobapnlpeaaaaGreatK6
import Derived.Test.YtdcobapnlpeaaaaGreatK7
import Derived.Test.YtdcobapnlpeaaaaGreatK8
import Derived.Laws.BitsAllLaws
import Derived.Sort.OwnSortedInts
import Derived.Deep.RegionHeld3
import Derived.BigRegion
import Derived.Shelf.SlSortCmp.NoneTotal
namespace Go.Proofs.YtdcobapnlpeaaaaGreat
open Go.RowKit
theorem SlD.mono {α : Type} [Inhabited α] {El : (Nat → Prop) → World → Value → α → Prop} (hEl : RdOk El) {F F' : Nat → Prop} {w w' : World} {v : Value} {xs : List α} (h : SlD El F w v xs)
  (hb : ∀ k, F k → k < w.heap.size → F' k ∧ k < w'.heap.size ∧ w'.heap[k]? = w.heap[k]?) : SlD El F' w' v xs := by
 obtain ⟨G, H, h1, h2, h3, a, cap, hv, hl, hc⟩ := h
 refine ⟨fun i k => G i k ∧ k < w.heap.size, fun k => H k ∧ k < w.heap.size, fun k hk => (hb k (h1 k hk.1) hk.2).1, fun i k hi hk => ⟨(hb k (h2 i k hi hk.1).1 hk.2).1, fun h => (h2 i k hi hk.1).2 h.1⟩,
  fun i j k hi hj hk hk' => h3 i j k hi hj hk.1 hk'.1, a, cap, hv, hl, fun i hi => ?_⟩
 obtain ⟨b, off, u, e1, e2, e3, e4, e5⟩ := hc i hi
 obtain ⟨f1, f2, f3⟩ := hb b (h1 b e2) e3
 exact ⟨b, off, u, e1, ⟨e2, e3⟩, f2, (World.cell?_of_block (w := w) f3).trans e4, hEl.mono e5 (fun k hk hlt => ⟨⟨hk, hlt⟩, (hb k (h2 i k hi hk).1 hlt).2⟩)⟩
theorem rdRows : RdOk (fun F w u (x : List (List Int)) => RowsD F w u x) :=
 ⟨fun h hb => SlD.mono rdOwn h hb, fun h => by obtain ⟨_, _, _, _, _, a, cap, rfl, _⟩ := h; rfl⟩
end Go.Proofs.YtdcobapnlpeaaaaGreat
namespace Go.Proofs.YtdcobapnlpeaaaaGreat
open Go.RowKit
set_option maxHeartbeats 400000 in
theorem orderOf_ok (w : World) (p : Value) (P : Pr) (S : Nat → Prop) (hP : Valid P) (hp : PresP S w p P) :
  Calls Tryz.prog 110 #[p] w fun e w' => e = .returned (.int .i64 (ordP P)) ∧ w = w' := by
 obtain ⟨pb, po, rfl⟩ := hp.shape
 obtain ⟨ao, capo, hco, hoi⟩ := hp.ordAt
 have hn6 := hP.n6
 go_enter Tryz.func110, Tryz.ntmps110
 go_wp2
 go_loop [3, 11] (fun pr i => ∃ k : Nat, i = .int .i64 k ∧ pr = .int .i64 (prodTo P.orders k) ∧ k ≤ P.orders.length) (fun _ i => P.orders.length - (intOf i).toNat)
 case atStart => exact ⟨0, rfl, rfl, by omega⟩
 case round =>
  obtain ⟨k, rfl, rfl, hk⟩ := hrel
  by_cases hlt : k < P.orders.length
  ·obtain ⟨b, off, rfl, _, _, hc⟩ := Ints.at hoi k hlt
   have h1 := hP.pre (k + 1) hlt
   have h0 := prodTo_pos (l := P.orders) (k + 1) (fun i hi => hP.pos i (by omega))
   have hm0 : 0 ≤ prodTo P.orders k * gt P.orders k := by simp only [prodTo] at h0; omega
   have hm1 : prodTo P.orders k * gt P.orders k ≤ 729 := h1
   clear h0 h1
   go_wp2
   go_round
   case rel => exact ⟨k + 1, by go_num, rfl, by omega⟩
   case measure => simp [intOf]; omega
  ·have hke : k = P.orders.length := by omega
   subst hke
   go_wp2
   go_ret
   exact ⟨rfl, rfl⟩
set_option maxHeartbeats 400000 in
theorem l10Order_ok (w : World) (pv : Value) (P : Pr) (S : Nat → Prop) (hP : Valid P) (hp : PresV S w pv P) :
  Calls Tryz.prog 105 #[pv] w (Ret w fun _ v => v = .int .i64 (ordP P)) := by
 obtain ⟨vo, vp, vc, rfl, h3⟩ := hp
 have hB := PresP.box h3 28
 obtain ⟨ao, capo, hco, hoi⟩ := hB.ordAt
 have hn6 := hP.n6
 go_enter Tryz.func105, Tryz.ntmps105
 go_wp2
 go_loop [3, 4] (fun pr i => ∃ k : Nat, i = .int .i64 k ∧ pr = .int .i64 (prodTo P.orders k) ∧ k ≤ P.orders.length) (fun _ i => P.orders.length - (intOf i).toNat)
 case atStart => exact ⟨0, rfl, rfl, by omega⟩
 case round =>
  obtain ⟨k, rfl, rfl, hk⟩ := hrel
  by_cases hlt : k < P.orders.length
  ·obtain ⟨b, off, rfl, _, _, hc⟩ := Ints.at hoi k hlt
   have h1 := hP.pre (k + 1) hlt
   have h0 := prodTo_pos (l := P.orders) (k + 1) (fun i hi => hP.pos i (by omega))
   have hm0 : 0 ≤ prodTo P.orders k * gt P.orders k := by simp only [prodTo] at h0; omega
   have hm1 : prodTo P.orders k * gt P.orders k ≤ 729 := h1
   clear h0 h1
   go_wp2
   go_round
   case rel => exact ⟨k + 1, by go_num, rfl, by omega⟩
   case measure => simp [intOf]; omega
  ·have hke : k = P.orders.length := by omega
   subst hke
   go_wp2
   go_ret
   exact ⟨_, rfl, World.grownBy_alloc _ _ _, rfl⟩
end Go.Proofs.YtdcobapnlpeaaaaGreat
namespace Go.Proofs.YtdcobapnlpeaaaaGreat
open Go.RowKit
set_option maxHeartbeats 400000 in
theorem numberOf_ok (P : Pr) (hP : Valid P) (w : World) (p x : Value) (X : List Int) (Sp Sx : Nat → Prop) (hp : PresP Sp w p P) (hx : Ints Sx w x X) (hX : Vec P.orders X) :
  Calls Tryz.prog 177 #[p, x] w fun e w' => e = .returned (.int .i64 (num P X)) ∧ w = w' := by
 have hn6 := hP.n6
 have hlX : X.length ≤ P.orders.length ∧ P.orders.length ≤ X.length := by rw [hX.1]; omega
 obtain ⟨pb, po, rfl⟩ := hp.shape
 obtain ⟨ax, capx, rfl, _, _⟩ := hx.shape
 obtain ⟨ao, capo, hco, hoi⟩ := hp.ordAt
 go_enter Tryz.func177, Tryz.ntmps177
 go_wp2
 go_loop [5, 10] (fun nv i => ∃ k : Nat, i = .int .i64 k ∧ nv = .int .i64 (numTo P.orders X k) ∧ k ≤ X.length) (fun _ i => X.length - (intOf i).toNat)
 case atStart => exact ⟨0, rfl, rfl, by omega⟩
 case round =>
  obtain ⟨k, rfl, rfl, hk⟩ := hrel
  by_cases hlt : k < X.length
  ·obtain ⟨b, off, rfl, _, _, hc⟩ := Ints.at hx k hlt
   obtain ⟨b2, off2, rfl, _, _, hc2⟩ := Ints.at hoi k (by omega)
   have h1 := numTo_bd hP hX (k + 1) (by omega)
   have h2 := hP.pre (k + 1) (by omega)
   have h3 := hX.2 k (by omega)
   have h4 := numTo_bd hP hX k (by omega)
   have h7 := hP.ord7 k (by omega)
   have h5 : 0 ≤ numTo P.orders X k * gt P.orders k := Int.mul_nonneg h4.1 (by omega)
   have h6 : numTo P.orders X k * gt P.orders k ≤ 729 := by simp only [numTo] at h1; omega
   have h8 : 0 ≤ gt X k := h3.1
   have h9 : gt X k ≤ 7 := by omega
   clear h1 h2 h3 h4 h7
   go_wp2
   go_round
   case rel => exact ⟨k + 1, by go_num, rfl, by omega⟩
   case measure => simp [intOf]; omega
  ·have hke : k = P.orders.length := by omega
   subst hke
   go_wp2
   go_ret
   exact ⟨rfl, rfl⟩
set_option maxHeartbeats 400000 in
theorem l10One_ok (P : Pr) (hP : Valid P) (w : World) (pv : Value) (Sp : Nat → Prop) (hp : PresV Sp w pv P) :
  Calls Tryz.prog 212 #[pv] w (Ret w fun w' v => Own w.heap.size w' v (zeros P.orders.length)) := by
 obtain ⟨vo, vp, vc, rfl, h3⟩ := hp
 have hn6 := hP.n6
 have hB := PresP.box h3 28
 obtain ⟨ao, capo, hco, hoi⟩ := hB.ordAt
 go_enter Tryz.func212, Tryz.ntmps212
 go_wp2_with (at_make; refine wp_make_ints rfl _ _ rfl (w.heap.size + 1) P.orders.length (w.heap.size + 1) (by simp) _ rfl rfl rfl (by omega) (by simp) ?_; intro w1 ho1 hg1 _)
 go_ret
 exact ⟨_, rfl, grown_trans (World.grownBy_alloc _ _ _) hg1, ho1.weak (by omega)⟩
set_option maxHeartbeats 1000000 in
theorem elementAt_ok (P : Pr) (hP : Valid P) (w : World) (p : Value) (m : Int) (Sp : Nat → Prop) (hp : PresP Sp w p P) (hm : 0 ≤ m) (hm2 : m ≤ 1000000000) :
  Calls Tryz.prog 147 #[p, .int .i64 m] w (Ret w fun w' v => Own w.heap.size w' v (elAt P m)) := by
 have hn6 := hP.n6
 obtain ⟨pb, po, rfl⟩ := hp.shape
 obtain ⟨ao, capo, hco0, hoi⟩ := hp.ordAt
 have hco := hco0
 go_enter Tryz.func147, Tryz.ntmps147
 go_wp2_with (at_make; refine wp_make_ints rfl _ _ rfl w.heap.size P.orders.length w.heap.size rfl _ rfl rfl rfl (by omega) (by simp) ?_; intro w1 ho1 hg1 _)
 clear hco
 have HCO := Lib.hid hco0; clear hco0
 go_loopw [1, 6] (fun mv i wr => ∃ k : Nat, i = .int .i64 ((P.orders.length : Int) - 1 - k) ∧ mv = .int .i64 (elTo P.orders P.orders.length m k).2 ∧ k ≤ P.orders.length ∧ Ext w wr ∧
   Own w.heap.size wr (.slice (some ⟨w.heap.size, 0, none⟩) P.orders.length P.orders.length) (elTo P.orders P.orders.length m k).1) (fun _ i _ => (intOf i + 1).toNat)
 case atStart => exact ⟨0, by simp, rfl, by omega, hg1, ho1⟩
 case round =>
  obtain ⟨k, rfl, rfl, hk, hg, hO⟩ := hrel
  obtain ⟨hv, hm0, hm1⟩ := elTo_inv hP m hm k hk
  by_cases hlt : k < P.orders.length
  ·obtain ⟨b2, off2, rfl, _, _, hc20⟩ := Ints.at hoi (P.orders.length - 1 - k) (by omega)
   have hco := hg.cell HCO.out (by simp)
   have hc2 := hg.cell hc20 (by simp)
   have ho7 := hP.ord7 (P.orders.length - 1 - k) (by omega)
   have hc := hO.cell (P.orders.length - 1 - k) (by rw [hv.1]; omega)
   have hf := hO.frozen (P.orders.length - 1 - k)
   have hsucc : elTo P.orders P.orders.length m (k + 1) = ((elTo P.orders P.orders.length m k).1.set (P.orders.length - 1 - k) ((elTo P.orders P.orders.length m k).2 % gt P.orders (P.orders.length - 1 - k)), (elTo P.orders P.orders.length m k).2 / gt P.orders (P.orders.length - 1 - k)) := rfl
   have HSC := Lib.hid hsucc; clear hsucc
   obtain ⟨hO2, hg2⟩ := hO.store (P.orders.length - 1 - k) ((elTo P.orders P.orders.length m k).2 % gt P.orders (P.orders.length - 1 - k))
   have hgx : Ext w (wr.setCell ⟨w.heap.size, P.orders.length - 1 - k, none⟩ (.int .i64 ((elTo P.orders P.orders.length m k).2 % gt P.orders (P.orders.length - 1 - k)))) := grown_own hg hg2 (fun j hj hlt => by cases hj; omega)
   have hco3 := hgx.cell HCO.out (by simp)
   have hc23 := hgx.cell hc20 (by simp)
   clear hc20
   have hidx : ((P.orders.length : Int) - 1 - k).toNat = P.orders.length - 1 - k := by omega
   generalize hi : P.orders.length - 1 - k = i at *
   generalize (elTo P.orders P.orders.length m k).1 = L at *
   generalize (elTo P.orders P.orders.length m k).2 = M at *
   have ho70 : 2 ≤ gt P.orders i := ho7.1
   have ho71 : gt P.orders i ≤ 7 := ho7.2
   have HI := Lib.hid hi; clear hi ho7
   go_wp2
   go_roundw
   case rel => exact ⟨k + 1, by congr 1; omega, by rw [HSC.out], by omega, hgx, by rw [HSC.out]; exact hO2⟩
   case measure => simp [intOf]; omega
  ·have hke : k = P.orders.length := by omega
   subst hke
   go_wp2
   go_ret
   exact ⟨_, rfl, hg, hO⟩
set_option maxHeartbeats 1000000 in
theorem l10At_ok (P : Pr) (hP : Valid P) (w : World) (pv : Value) (m : Int) (Sp : Nat → Prop) (hpv : PresV Sp w pv P) (hm : 0 ≤ m) (hm2 : m ≤ 1000000000) :
  Calls Tryz.prog 107 #[pv, .int .i64 m] w (Ret w fun w' v => Own w.heap.size w' v (elAt P m)) := by
 have hn6 := hP.n6
 obtain ⟨vo, vp, vc, rfl, h3⟩ := hpv
 have hp := PresP.box h3 28
 have hg0 : Ext w (w.alloc (.cells #[vo, vp, vc] 28)) := World.grownBy_alloc _ _ _
 obtain ⟨vo9, vp9, vc9, _, _, hc0, hc1, hc2, h39⟩ := hp.at
 obtain ⟨ao, capo, hco, hoi⟩ := hp.ordAt
 go_enter Tryz.func107, Tryz.ntmps107
 go_wp2_with fail
 have hs0 : (w.alloc (.cells #[vo, vp, vc] 28)).heap.size = w.heap.size + 1 := by simp
 have HS := Lib.hid hs0; clear hs0
 clear hc0 hc1 hc2
 have HCO := Lib.hid hco; clear hco
 generalize hw0 : w.alloc (.cells #[vo, vp, vc] 28) = w0 at *
 clear hw0
 refine Calls.mono (l10One_ok P hP w0 _ Any ⟨_, _, _, rfl, h39⟩) ?_
 rintro e1 w1 ⟨r, rfl, hg1, ho1⟩
 have hri := ho1.ints (by simp [zeros]; omega)
 obtain ⟨ar, capr, rfl, _, _⟩ := hri.shape
 have hzl : (zeros P.orders.length).length = P.orders.length := by simp [zeros]
 rw [hzl] at hri
 have ho1 : Own w0.heap.size w1 (.slice ar P.orders.length capr) (zeros P.orders.length) := by rw [hzl] at ho1; exact ho1
 simp only [hzl]
 clear hzl hri
 go_wp2
 go_loopw [1, 6] (fun mv i wr => ∃ k : Nat, i = .int .i64 ((P.orders.length : Int) - 1 - k) ∧ mv = .int .i64 (elTo P.orders P.orders.length m k).2 ∧ k ≤ P.orders.length ∧ Ext w0 wr ∧
   Own w0.heap.size wr (.slice ar P.orders.length capr) (elTo P.orders P.orders.length m k).1) (fun _ i _ => (intOf i + 1).toNat)
 case atStart => exact ⟨0, by simp, rfl, by omega, hg1, ho1⟩
 case round =>
  clear ho1
  obtain ⟨k, rfl, rfl, hk, hg, hO⟩ := hrel
  obtain ⟨hv, hm0, hm1⟩ := elTo_inv hP m hm k hk
  by_cases hlt : k < P.orders.length
  ·obtain ⟨g, capg, hfm, hgb, hgs⟩ := hO.form (by rw [hv.1]; omega)
   rw [hv.1] at hfm
   obtain ⟨rfl, _⟩ : ar = some ⟨g, 0, none⟩ ∧ capr = capg := by cases hfm; exact ⟨rfl, rfl⟩
   clear hfm
   obtain ⟨b2, off2, rfl, _, _, hc20⟩ := Ints.at hoi (P.orders.length - 1 - k) (by omega)
   have hco := hg.cell HCO.out (by simp)
   have hc2 := hg.cell hc20 (by simp)
   have ho7 := hP.ord7 (P.orders.length - 1 - k) (by omega)
   have hc := hO.cell (P.orders.length - 1 - k) (by rw [hv.1]; omega)
   have hf := hO.frozen (P.orders.length - 1 - k)
   have hsucc : elTo P.orders P.orders.length m (k + 1) = ((elTo P.orders P.orders.length m k).1.set (P.orders.length - 1 - k) ((elTo P.orders P.orders.length m k).2 % gt P.orders (P.orders.length - 1 - k)), (elTo P.orders P.orders.length m k).2 / gt P.orders (P.orders.length - 1 - k)) := rfl
   have HSC := Lib.hid hsucc; clear hsucc
   obtain ⟨hO2, hg2⟩ := hO.store (P.orders.length - 1 - k) ((elTo P.orders P.orders.length m k).2 % gt P.orders (P.orders.length - 1 - k))
   have hgx : Ext w0 (wr.setCell ⟨g, P.orders.length - 1 - k, none⟩ (.int .i64 ((elTo P.orders P.orders.length m k).2 % gt P.orders (P.orders.length - 1 - k)))) := grown_own hg hg2 (fun j hj hlt => by cases hj; omega)
   have hco3 := hgx.cell HCO.out (by simp)
   have hc23 := hgx.cell hc20 (by simp)
   clear hc20
   have hidx : ((P.orders.length : Int) - 1 - k).toNat = P.orders.length - 1 - k := by omega
   generalize hi : P.orders.length - 1 - k = i at *
   generalize (elTo P.orders P.orders.length m k).1 = L at *
   generalize (elTo P.orders P.orders.length m k).2 = M at *
   have ho70 : 2 ≤ gt P.orders i := ho7.1
   have ho71 : gt P.orders i ≤ 7 := ho7.2
   have HI := Lib.hid hi; clear hi ho7
   go_wp2
   go_roundw
   case rel => exact ⟨k + 1, by congr 1; omega, by rw [HSC.out], by omega, hgx, by rw [HSC.out]; exact hO2⟩
   case measure => simp [intOf]; omega
  ·have hke : k = P.orders.length := by omega
   subst hke
   go_wp2
   go_ret
   exact ⟨_, rfl, grown_trans hg0 hg, hO.weak (by have := HS.out; omega)⟩
end Go.Proofs.YtdcobapnlpeaaaaGreat
namespace Go.Proofs.YtdcobapnlpeaaaaGreat
open Go.RowKit
def allEl (P : Pr) : List (List Int) := (List.range (ordP P).toNat).map (fun k : Nat => elAt P (k : Int))
theorem range_map_succ {α : Type} (f : Nat → α) (k : Nat) : (List.range (k + 1)).map f = (List.range k).map f ++ [f k] := by
 rw [List.range_succ, List.map_append]; rfl
set_option maxHeartbeats 400000 in
theorem allElements_ok (P : Pr) (hP : Valid P) (w : World) (p : Value) (Sp : Nat → Prop) (hp : PresP Sp w p P) :
  Calls Tryz.prog 99 #[p] w (Ret w fun w' v => RowsO w.heap.size w' v (allEl P)) := by
 have h729 : ordP P ≤ 729 := hP.le729
 have hpos := hP.ordP_pos
 go_enter Tryz.func99, Tryz.ntmps99
 go_wp2_with (go_at_call 110; refine (orderOf_ok _ _ P Sp hP hp).mono ?_; rintro e1 w1 ⟨rfl, rfl⟩)
 go_loopw [3, 7] (fun v i wr => ∃ k : Nat, i = .int .i64 k ∧ k ≤ (ordP P).toNat ∧ Ext w wr ∧ RowsO w.heap.size wr v ((List.range k).map (fun k : Nat => elAt P (k : Int)))) (fun _ i _ => (ordP P).toNat - (intOf i).toNat)
 case atStart => exact ⟨0, rfl, by omega, Ext.refl _, SlO.nil _ _ _ _⟩
 case round =>
  obtain ⟨k, rfl, hk, hg, hO⟩ := hrel
  by_cases hlt : (k : Int) < ordP P
  ·go_wp2_with fail
   refine Calls.mono (elementAt_ok P hP wr p k Sp (hp.ext hg) (by omega) (by omega)) ?_
   rintro e2 w2 ⟨r, rfl, hg2, hR⟩
   have hv := elAt_vec hP (k : Int) (by omega)
   have hRi : OwnIn (From wr.heap.size) w2 r (elAt P k) := OwnIn.of hR (by rw [hv.1]; have := hP.n6; omega) (fun j hj _ => hj)
   clear hv
   obtain ⟨ar, capr, rfl, _, _⟩ := hRi.ints.shape
   go_wp2_with (at_builtin; go_must (refine wp_app_row rfl _ _ rfl w.heap.size wr w2 _ _ _ (elAt P k) rfl hO hg2 hRi rfl rfl (by simp; omega) hg.size ?_); intro v3 w3 hO3 hg3 hg4)
   have hgx := hO.extw hg (Nat.le_refl _) hg3
   rw [← range_map_succ (fun k : Nat => elAt P (k : Int))] at hO3
   go_roundw
   case rel => exact ⟨k + 1, by go_num, by omega, hgx, hO3⟩
   case measure => simp [intOf]; omega
  ·have hke : k = (ordP P).toNat := by omega
   subst hke
   go_wp2
   go_ret
   exact ⟨_, rfl, hg, hO⟩
end Go.Proofs.YtdcobapnlpeaaaaGreat
namespace Go.Proofs.YtdcobapnlpeaaaaGreat
open Go.RowKit
theorem rMul_vec {P : Pr} (hP : Valid P) (A B : List Int) (hA : Vec P.orders A) (hB : Vec P.orders B) : Vec P.orders (rMul P A B) := rAt_vec hP _ 0 A B (by omega) hA hB
set_option maxHeartbeats 2000000 in
theorem l10Conj_ok (P : Pr) (hP : Valid P) (w : World) (pv a b : Value) (A B : List Int) (Sp Sa Sb : Nat → Prop) (hp : PresV Sp w pv P) (ha : Ints Sa w a A) (hb : Ints Sb w b B) (hA : Vec P.orders A) (hB : Vec P.orders B) :
  Calls Tryz.prog 150 #[pv, a, b] w (Ret w fun w' v => Own w.heap.size w' v (rConj P A B)) := by
 obtain ⟨vo, vp, vc, rfl, h3⟩ := hp
 have hn6 := hP.n6
 have hl1 := (rInv_vec hP B hB).1
 have hl2 := (rMul_vec hP A B hA hB).1
 have HL1 := Lib.hid hl1; have HL2 := Lib.hid hl2; clear hl1 hl2
 have hg0 : Ext w (w.alloc (.cells #[vo, vp, vc] 28)) := World.grownBy_alloc _ _ _
 have hBx := PresP.box h3 28
 have ha0 := ha.ext hg0
 have hb0 := hb.ext hg0
 have hs0 : (w.alloc (.cells #[vo, vp, vc] 28)).heap.size = w.heap.size + 1 := by simp
 have HS := Lib.hid hs0; clear hs0 ha hb
 go_enter Tryz.func150, Tryz.ntmps150
 go_wp2
 generalize hw0 : w.alloc (.cells #[vo, vp, vc] 28) = w0 at *
 clear hw0
 obtain ⟨vo6, vp6, vc6, _, _, hc0, hc1, hc2, h36⟩ := hBx.at
 have e1 : ∀ w', Ext w0 w' → w'.cell? ⟨w.heap.size, 0, none⟩ = some vo6 := fun w' h => h.cell hc0 (by simp)
 have e2 : ∀ w', Ext w0 w' → w'.cell? ⟨w.heap.size, 1, none⟩ = some vp6 := fun w' h => h.cell (by simpa using hc1) (by simp)
 have e3 : ∀ w', Ext w0 w' → w'.cell? ⟨w.heap.size, 2, none⟩ = some vc6 := fun w' h => h.cell (by simpa using hc2) (by simp)
 clear hc0 hc1 hc2
 go_region_held3 (fun w' => Ext w0 w') (first | exact grown_drew _ _ | assumption)
  (first
   | (go_at_call 211; refine Calls.mono (Calls.rel (w0 := w0) (by assumption) (l10Inv_ok P hP _ _ _ _ Any Any ⟨_, _, _, rfl, Pres3.ext h36 (by assumption)⟩ (Ints.sub (Ints.ext hb0 (by assumption)) (fun _ _ _ => trivial)) hB)) ?_; rintro eA wA ⟨vA, rfl, hgA, hsA, hOA⟩)
   | (go_at_call_of 240 (a); refine Calls.mono (Calls.rel2 (w0 := w0) (by assumption) (l08Mul_ok P hP _ _ _ _ _ _ Any Sa Sb ⟨_, _, _, rfl, Pres3.ext h36 (by assumption)⟩ (Ints.ext ha0 (by assumption)) (Ints.ext hb0 (by assumption)) hA hB)) ?_; rintro eF wF ⟨vF, rfl, hgF, hgF2, hsF, hOF⟩; have hOA2 := (hOA.ext0 hgF2).ints (by rw [HL1.out]; omega); have hOF2 := hOF.ints (by rw [HL2.out]; omega))
   | (go_at_call 240; refine Calls.mono (Calls.rel (w0 := w0) (by assumption) (l08Mul_ok P hP _ _ _ _ _ _ Any Any Any ⟨_, _, _, rfl, Pres3.ext h36 (by assumption)⟩ hOA2 hOF2 (rInv_vec hP B hB) (rMul_vec hP A B hA hB))) ?_; rintro eB wB ⟨vB, rfl, hgB, hsB, hOB⟩))
 clear e1 e2 e3
 go_wp2
 go_ret
 exact ⟨_, rfl, grown_trans hg0 hgB, hOB.weak (by have := HS.out; omega)⟩
end Go.Proofs.YtdcobapnlpeaaaaGreat
namespace Go.Proofs.YtdcobapnlpeaaaaGreat
section
variable {P : Pr} (G : Grp P)
include G
def Rep (P : Pr) (H : List Int → Prop) (r : Nat → List Int) (x y : List Int) : Prop := Vec P.orders y ∧ H (rMul P (rInv P x) y) ∧ ∀ e, e < P.orders.length → r e ≠ [] → gt y e = 0
theorem Grp.coset_one {H : List Int → Prop} {b : Nat → List Int} (I : Ind P H b) {x y : List Int} (hx : Vec P.orders x) (hy : Vec P.orders y) (h : H (rMul P (rInv P x) y))
  (hx0 : ∀ e, e < P.orders.length → b e ≠ [] → gt x e = 0) (hy0 : ∀ e, e < P.orders.length → b e ≠ [] → gt y e = 0) : x = y := by
 have hxi := G.invV hx
 have e1 : rMul P x (rMul P (rInv P x) y) = y := by rw [← G.ass hx hxi hy, G.mul_inv hx, G.grp.el _ hy]
 by_cases hz : rMul P (rInv P x) y = zeros P.orders.length
 ·rw [hz, G.grp.er _ hx] at e1; exact e1
 ·exfalso
  have hzv := I.sub.vec _ h
  obtain ⟨e, he, hT, h0⟩ := depth_ex hzv hz
  have hp := I.piv _ h e he hT h0
  have h2 := (G.right (Nat.le_of_lt he) hx hT).2 he
  rw [e1, hx0 e he hp, hy0 e he hp, Int.zero_add] at h2
  have hb := hzv.2 e he
  rw [Int.emod_eq_of_lt hb.1 hb.2] at h2
  exact h0 h2.symm
theorem Grp.rep_one {H : List Int → Prop} {b : Nat → List Int} (I : Ind P H b) {x y y' : List Int} (hx : Vec P.orders x) (h : Rep P H b x y) (h' : Rep P H b x y') : y = y' := by
 refine G.coset_one I h.1 h'.1 ?_ h.2.2 h'.2.2
 have hi := G.invV hx
 have hyi := G.invV h.1
 have e : rMul P (rInv P y) y' = rMul P (rInv P (rMul P (rInv P x) y)) (rMul P (rInv P x) y') := by
  rw [G.inv_mulR hi h.1, G.inv_inv hx, G.ass hyi hx (G.mulV hi h'.1), ← G.ass hx hi h'.1, G.mul_inv hx, G.grp.el _ h'.1]
 rw [e]; exact I.sub.mul _ _ (I.sub.inv _ h.2.1) h'.2.1
end
end Go.Proofs.YtdcobapnlpeaaaaGreat
namespace Go.Proofs.YtdcobapnlpeaaaaGreat
theorem tabTo_len (U : List (List Int)) (n k : Nat) : (tabTo U n k).length = n := by
 induction k with
 | zero => simp [tabTo]
 | succ k ih => simp only [tabTo, List.length_set]; exact ih
theorem tabTo_at (P : Pr) (U : List (List Int)) : ∀ k, k ≤ U.length → ∀ d, d < P.orders.length →
  (gt (tabTo U P.orders.length k) d = [] ∧ ∀ j, j < k → dep (gt U j) ≠ d) ∨ ∃ j, j < k ∧ dep (gt U j) = d ∧ gt (tabTo U P.orders.length k) d = gt U j := by
 intro k
 induction k with
 | zero => intro _ d hd; exact .inl ⟨by simp [tabTo, gt, hd], fun j hj => by omega⟩
 | succ k ih =>
  intro hk d hd
  have hl := tabTo_len U P.orders.length k
  simp only [tabTo]
  by_cases h : dep (gt U k) = d
  ·right
   exact ⟨k, by omega, h, by rw [h, gt_set_eq _ _ _ (by omega)]⟩
  ·rw [gt_set_ne _ _ _ _ h]
   rcases ih (by omega) d hd with ⟨h1, h2⟩ | ⟨j, h1, h2, h3⟩
   ·left
    refine ⟨h1, fun j hj => ?_⟩
    rcases Nat.lt_succ_iff_lt_or_eq.1 hj with hj | hj
    ·exact h2 j hj
    ·rw [hj]; exact h
   ·right
    exact ⟨j, by omega, h2, h3⟩
theorem tabTo_vec {P : Pr} {U : List (List Int)} (hU : SeqOk P U) (d : Nat) (hd : d < P.orders.length) (hne : gt (tabTo U P.orders.length U.length) d ≠ []) :
  T P d (gt (tabTo U P.orders.length U.length) d) ∧ gt (gt (tabTo U P.orders.length U.length) d) d = 1 := by
 rcases tabTo_at P U U.length (Nat.le_refl _) d hd with ⟨h, _⟩ | ⟨j, hj, hjd, he⟩
 ·exact absurd h hne
 ·obtain ⟨a, _, c⟩ := hU.1 _ (gtMem hj)
  rw [he, ← hjd]
  exact ⟨dep_T a, c⟩
structure RedTo (P : Pr) (H : List Int → Prop) (b : List (List Int)) (X : List Int) (d : Nat) (Y : List Int) : Prop where
 vec : Vec P.orders Y
 cos : H (rMul P (rInv P X) Y)
 zer : ∀ e, e < d → gt b e ≠ [] → gt Y e = 0
section
variable {P : Pr} (G : Grp P)
include G
theorem Grp.ind_tab {H : List Int → Prop} (S : Sub P H) : Ind P H (gt (tabTo (cseq P H) P.orders.length (cseq P H).length)) := by
 obtain ⟨h1, h2, h3⟩ := G.seq_facts S
 refine ⟨S, fun d hd hne => ?_, fun x hx d hd hT h0 => ?_⟩
 ·refine ⟨?_, tabTo_vec h1 d hd hne⟩
  rcases tabTo_at P _ _ (Nat.le_refl _) d hd with ⟨h, _⟩ | ⟨j, hj, _, he⟩
  ·exact absurd h hne
  ·rw [he]; exact h2 _ (gtMem hj)
 ·obtain ⟨j, hj, hjd⟩ := h3 x hx d hd hT h0
  rcases tabTo_at P _ _ (Nat.le_refl _) d hd with ⟨_, h⟩ | ⟨i, hi, _, he⟩
  ·exact absurd hjd (h j hj)
  ·rw [he]
   intro hn
   have := (h1.1 _ (gtMem hi)).1.1
   rw [hn] at this; simp at this; omega
theorem Grp.redTo_zero {H : List Int → Prop} {b : List (List Int)} (S : Sub P H) {X : List Int} (hX : Vec P.orders X) : RedTo P H b X 0 X :=
 ⟨hX, by rw [G.inv_mul hX]; exact S.one, fun e he => by omega⟩
omit G in
theorem RedTo.skip {H : List Int → Prop} {b : List (List Int)} {X Y : List Int} {d : Nat} (h : RedTo P H b X d Y) (h0 : gt b d = [] ∨ gt Y d = 0) : RedTo P H b X (d + 1) Y :=
 ⟨h.vec, h.cos, fun e he hb => by
  rcases Nat.lt_succ_iff_lt_or_eq.1 he with h1 | h1
  ·exact h.zer e h1 hb
  ·subst h1; exact h0.elim (fun h => absurd h hb) id⟩
theorem Grp.redTo_step {H : List Int → Prop} {b : List (List Int)} (I : Ind P H (gt b)) {X Y : List Int} {d : Nat} (hX : Vec P.orders X) (hd : d < P.orders.length) (hb : gt b d ≠ []) (h : RedTo P H b X d Y) :
  RedTo P H b X (d + 1) (rMul P Y (pwZ P (gt b d) (-(gt Y d)))) := by
 obtain ⟨m1, m2, m3⟩ := I.mem d hd hb
 have hc := G.right_clear hd h.vec m2 m3
 refine ⟨hc.2.2, ?_, fun e he hbe => ?_⟩
 ·rw [← G.ass (G.invV hX) h.vec (G.pwZ_vec m2.1 _)]
  exact I.sub.mul _ _ h.cos (I.sub.pwZ m1 _)
 ·rcases Nat.lt_succ_iff_lt_or_eq.1 he with h1 | h1
  ·rw [hc.2.1 e h1]; exact h.zer e h1 hbe
  ·subst h1; exact hc.1
omit G in
theorem RedTo.rep {H : List Int → Prop} {b : List (List Int)} {X Y : List Int} (h : RedTo P H b X P.orders.length Y) : Rep P H (gt b) X Y := ⟨h.vec, h.cos, h.zer⟩
theorem Grp.rep_mem {H : List Int → Prop} {b : Nat → List Int} (I : Ind P H b) {X Y : List Int} (hX : Vec P.orders X) (h : Rep P H b X Y) : Y = zeros P.orders.length ↔ H X := by
 have hi := G.invV hX
 constructor
 ·intro h0
  have h1 := h.2.1
  rw [h0, G.grp.er _ hi] at h1
  have := I.sub.inv _ h1
  rwa [G.inv_inv hX] at this
 ·intro hx
  refine G.rep_one I hX h ⟨G.oneV, ?_, fun e _ _ => gt_replicate _ _⟩
  rw [G.grp.er _ hi]; exact I.sub.inv _ hx
end
end Go.Proofs.YtdcobapnlpeaaaaGreat
namespace Go.Proofs.YtdcobapnlpeaaaaGreat
open Go.RowKit
set_option maxHeartbeats 400000 in
theorem l02Lead_ok (v : Value) (X : List Int) (w : World) (S : Nat → Prop) (h : Ints S w v X) :
  Calls Tryz.prog 317 #[v] w fun e w' => e = .returned (.int .i64 (dep X)) ∧ w = w' := by
 obtain ⟨a, cap, rfl, _, _⟩ := h.shape
 go_enter Tryz.func317, Tryz.ntmps317
 go_wp2
 go_loop [3] (fun i => ∃ k : Nat, i = .int .i64 k ∧ k ≤ X.length ∧ ∀ j, j < k → gt X j = 0) (fun i => X.length - (intOf i).toNat)
 case atStart => exact ⟨0, rfl, by omega, fun j hj => by omega⟩
 case round =>
  obtain ⟨k, rfl, hk, hz⟩ := hrel
  have HZ := Lib.hid hz; clear hz
  by_cases hlt : k < X.length
  ·obtain ⟨b, off, rfl, _, _, hc⟩ := Ints.at h k hlt
   by_cases hx : gt X k = 0
   ·have hb : (gt X k != 0) = false := by simp [hx]
    have HX := Lib.hid hx; clear hx
    go_wp2
    go_round
    case rel => exact ⟨k + 1, by go_num, by omega, fun j hj => by
     rcases Nat.lt_succ_iff_lt_or_eq.1 hj with h1 | h1
     ·exact HZ.out j h1
     ·rw [h1]; exact HX.out⟩
    case measure => simp [intOf]; omega
   ·have hb : (gt X k != 0) = true := by simp [hx]
    have he : dep X = k := dep_eq hlt HZ.out hx
    have HE := Lib.hid he; clear he hx
    go_wp2
    go_ret
    exact ⟨by rw [HE.out]; rfl, rfl⟩
  ·have hke : k = X.length := by omega
   have he : dep X = X.length := dep_all (fun j hj => HZ.out j (by omega))
   have HE := Lib.hid he; clear he
   go_wp2
   go_ret
   exact ⟨by rw [HE.out]; rfl, rfl⟩
theorem l12Depth_ok (v : Value) (X : List Int) (w : World) (S : Nat → Prop) (h : Ints S w v X) :
  Calls Tryz.prog 289 #[v] w (Ret w fun _ r => r = .int .i64 (dep X)) := by
 have hcon := l02Lead_ok v X w S h
 obtain ⟨a, cap, rfl, _, _⟩ := h.shape
 go_enter Tryz.func289, Tryz.ntmps289
 go_wp2_with fail
 refine Calls.mono hcon ?_
 rintro e1 w1 ⟨rfl, rfl⟩
 clear hcon
 go_wp2
 go_ret
 exact ⟨_, rfl, Ext.refl _, rfl⟩
set_option maxRecDepth 100000 in
set_option maxHeartbeats 1000000 in
theorem l12Table_ok (P : Pr) (hP : Valid P) (w : World) (pv uv : Value) (U : List (List Int)) (Sp Su : Nat → Prop) (hpv : PresV Sp w pv P) (hu : Rows2 Su w uv U) (hU : SeqOk P U) (hl : U.length ≤ 6) :
  Calls Tryz.prog 226 #[pv, uv] w (Ret w fun w' v => Rows2 Any w' v (tabTo U P.orders.length U.length)) := by
 have hn6 := hP.n6
 obtain ⟨vo, vp, vc, rfl, h3⟩ := hpv
 have hp0 := PresP.box h3 28
 have hg0 : Ext w (w.alloc (.cells #[vo, vp, vc] 28)) := World.grownBy_alloc _ _ _
 obtain ⟨ao, capo, hco, hoi⟩ := hp0.ordAt
 obtain ⟨au, capu, rfl, _, _⟩ := Sl.shape hu
 have HU := Lib.hid hU; clear hU
 go_enter Tryz.func226, Tryz.ntmps226
 go_wp2_with (first | (at_make; refine wp_make_tab rfl _ _ rfl w.heap.size P.orders.length (w.heap.size + 1) (by simp) _ rfl rfl rfl (by omega) (by omega) ?_; intro w1 hT1 hg1 hlt1) | fail)
 have hgw := grown_trans hg0 hg1
 have hT := hT1 (fun _ => False)
 clear hT1 hco hoi hp0
 go_loopw [6] (fun iv wr => ∃ i : Nat, iv = .int .i64 i ∧ i ≤ U.length ∧ Ext w wr ∧ TabAt w.heap.size (fun _ => False) wr (w.heap.size + 1) P.orders.length (tabTo U P.orders.length i)) (fun iv _ => U.length - (intOf iv).toNat)
 case atStart => exact ⟨0, rfl, by omega, hgw, hT⟩
 case round =>
  clear hT hgw
  obtain ⟨i, rfl, hi, hg, hT⟩ := hrel
  by_cases hlt : i < U.length
  ·have hlt' : (i : Int) < U.length := by omega
   obtain ⟨b, off, a2, cap2, rfl, _, hbl0, hc0, hr⟩ := Rows2.at hu i hlt
   have hc := hg.cell hc0 (by simp)
   clear hc0
   obtain ⟨hzV, hzd, hz1⟩ := HU.out.1 _ (gtMem hlt)
   have hst : tabTo U P.orders.length (i + 1) = (tabTo U P.orders.length i).set (dep (gt U i)) (gt U i) := rfl
   obtain ⟨z, hz⟩ : ∃ z, z = gt U i := ⟨_, rfl⟩
   rw [← hz] at hc hr hzV hzd hz1 hst
   clear hz
   obtain ⟨d, hd⟩ : ∃ d, d = dep z := ⟨_, rfl⟩
   rw [← hd] at hzd hst hz1
   have HD := Lib.hid hd; clear hd
   have hbl : b < w.heap.size := hbl0
   have hr3 := Ints.ext hr hg
   have hzne : z ≠ [] := fun e => by have := hzV.1; rw [e] at this; simp at this; omega
   have hrS : Ints (fun k => k ≠ w.heap.size + 1 ∧ ¬ False) wr (.slice a2 z.length cap2) z := by
    have h1 : Ints (fun k => k < w.heap.size) w (.slice a2 z.length cap2) z := Ints.sub hr (fun _ _ h => h)
    exact h1.mono (fun k hk hlt => ⟨⟨by omega, id⟩, Nat.lt_of_lt_of_le hlt hg.size, hg.block k hlt (by simp)⟩)
   obtain ⟨hfr, hcc⟩ := hT.at d hzd
   have HS := Lib.hid (And.intro hst (And.intro hzne (And.intro hzV hz1))); clear hst hzne hzV hz1
   have hdn : (d : Int) < P.orders.length := by omega
   obtain ⟨u0, hu0⟩ : ∃ u0, wr.cell? ⟨w.heap.size + 1, d, none⟩ = some u0 := by rcases hcc with ⟨_, h⟩ | ⟨_, _, _, h, _⟩ <;> exact ⟨_, h⟩
   clear hcc hbl0
   have e1 : ∀ w', Near wr (w.heap.size + 1) w' → w'.cell? ⟨b, off + i, none⟩ = some (.slice a2 z.length cap2) := fun w' h => h.cell hc (by simp; omega)
   go_wp2
   go_region_held3 (fun w' => Near wr (w.heap.size + 1) w') (first | exact Near.of (grown_drew _ _) | exact Near.of (by assumption) | exact Near.store (by assumption) | assumption)
    (first
     | (go_at_call 289; refine Calls.mono (Calls.rel (w0 := wr) (by first | exact grown_drew _ _ | assumption) (l12Depth_ok _ z _ Any (Ints.sub (Ints.ext hr3 (by first | exact grown_drew _ _ | assumption)) (fun _ _ _ => trivial)))) ?_; rintro eE wE ⟨vE, rfl, hgE, hsE, hvE⟩; rw [← HD.out] at hvE; subst hvE; have hcel2 := hgE.cell hu0 (by simp); have hfr2 := ((hT.ext hgE).at d hzd).1))
   clear e1
   obtain ⟨hT5, hg5⟩ := (hT.ext hgE).put d (u := .slice a2 z.length cap2) (y := z) (Ints.ext hrS hgE) HS.out.2.1
   have hgn : Ext w (wE.setCell ⟨w.heap.size + 1, d, none⟩ (.slice a2 z.length cap2)) := grown_own (grown_trans hg hgE) hg5 (fun j hj hlt => by cases hj; omega)
   clear hcel2 hfr2 hg5
   go_wp2
   go_roundw
   case rel => exact ⟨i + 1, by go_num, by omega, hgn, by rw [HS.out.1]; exact hT5⟩
   case measure => simp [intOf]; omega
  ·have hie : i = U.length := by omega
   subst hie
   go_wp2
   go_ret
   exact ⟨_, rfl, hg, Rows2.sub (hT.rows (by omega)) (fun _ _ _ => trivial)⟩
end Go.Proofs.YtdcobapnlpeaaaaGreat
namespace Go.Proofs.YtdcobapnlpeaaaaGreat
theorem genP_or (P : Pr) (Q L : List Int → Prop) : genP P (fun x => genP P Q x ∨ L x) = genP P (fun x => Q x ∨ L x) :=
 funext fun _ => propext ⟨fun h K S hQ => h K S (fun y hy => hy.elim (fun h => h K S (fun z hz => hQ z (.inl hz))) (fun h => hQ y (.inr h))),
  fun h K S hQ => h K S (fun y hy => hy.elim (fun h => hQ y (.inl (genP_mem h))) (fun h => hQ y (.inr h)))⟩
theorem Grp.genP_none {P : Pr} (G : Grp P) : genP P (fun _ => False) = fun x => x = zeros P.orders.length :=
 funext fun _ => propext ⟨fun h => h _ G.sub_one (fun _ h => h.elim), fun h K S _ => by rw [h]; exact S.one⟩
end Go.Proofs.YtdcobapnlpeaaaaGreat
namespace Go.Proofs.YtdcobapnlpeaaaaGreat
open Go.RowKit
set_option maxRecDepth 100000 in
set_option maxHeartbeats 2000000 in
theorem l12Reduce_ok (P : Pr) (G : Grp P) (w : World) (pv tv xv : Value) (b : List (List Int)) (X : List Int) (H : List Int → Prop) (Sp Sb Sx : Nat → Prop) (hpv : PresV Sp w pv P) (ht : Rows2 Sb w tv b) (hx : Ints Sx w xv X) (hX : Vec P.orders X)
  (hlb : b.length = P.orders.length) (hI : Ind P H (gt b)) :
  Calls Tryz.prog 225 #[pv, tv, xv] w (Ret w fun w' v => ∃ Y, Own w.heap.size w' v Y ∧ RedTo P H b X P.orders.length Y) := by
 have hP := G.v
 have hn6 := hP.n6
 obtain ⟨vo, vp, vc, rfl, h3⟩ := hpv
 have hp0 := PresP.box h3 28
 have hg0 : Ext w (w.alloc (.cells #[vo, vp, vc] 28)) := World.grownBy_alloc _ _ _
 have hx0 := hx.ext hg0
 have ht0 := Rows2.ext ht hg0
 have hXl : X.length ≤ 6 := by rw [hX.1]; omega
 have hs0 : (w.alloc (.cells #[vo, vp, vc] 28)).heap.size = w.heap.size + 1 := by simp
 obtain ⟨at_, capt, hvt, _, _⟩ := Sl.shape ht
 rw [hlb] at hvt
 subst hvt
 have HI := Lib.hid (And.intro hI (And.intro hX hlb)); clear hI hX hlb
 obtain ⟨vo6, vp6, vc6, _, _, hc0, hc1, hc2, h36⟩ := hp0.at
 simp only [Nat.zero_add] at hc1 hc2
 clear hp0
 go_enter Tryz.func225, Tryz.ntmps225
 go_wp2_with fail
 have HS := Lib.hid hs0; clear hs0
 generalize hw0 : w.alloc (.cells #[vo, vp, vc] 28) = w0 at *
 clear hw0
 refine Calls.mono (l01Own_ok w0 xv X Sx hx0 (by omega)) ?_
 rintro e1 w1 ⟨ov, rfl, hg1, hO1⟩
 go_wp2
 go_loopw [7, 8] (fun ov iv wr => ∃ (d : Nat) (Y : List Int), iv = .int .i64 d ∧ d ≤ P.orders.length ∧ Ext w0 wr ∧ Own w.heap.size wr ov Y ∧ Hid (RedTo P H b X d Y)) (fun _ iv _ => P.orders.length - (intOf iv).toNat)
 case atStart => exact ⟨0, X, rfl, by omega, hg1, hO1.weak (by have := HS.out; omega), Lib.hid (G.redTo_zero HI.out.1.sub HI.out.2.1)⟩
 case round =>
  clear hO1
  obtain ⟨d, Y, rfl, hd, hg, hO, hR⟩ := hrel
  have hYV := hR.out.vec
  have hYl : Y.length = P.orders.length := hYV.1
  have hYi := hO.ints (by omega)
  obtain ⟨ay, capy, hvy, _, _⟩ := hYi.shape
  rw [hYl] at hvy
  subst hvy
  by_cases hlt : d < P.orders.length
  ·have hlt' : (d : Int) < P.orders.length := by omega
   obtain ⟨bb, off, a2, cap2, rfl, _, _, hc, hr⟩ := Rows2.at (Rows2.ext ht0 hg) d (by rw [HI.out.2.2]; exact hlt)
   obtain ⟨by_, oy, rfl, _, _, hcy⟩ := Ints.at hYi d (by omega)
   by_cases hb : gt b d = []
   ·have hbl : ¬ (0 : Int) < (gt b d).length := by rw [hb]; simp
    have hR2 := Lib.hid (hR.out.skip (.inl hb)); clear hb hYV
    go_wp2
    go_roundw
    case rel => exact ⟨d + 1, Y, by go_num, by omega, hg, hO, hR2⟩
    case measure => simp [intOf]; omega
   ·have hbl : (0 : Int) < (gt b d).length := by
     have : 0 < (gt b d).length := List.length_pos_iff.2 hb
     omega
    by_cases hy : gt Y d = 0
    ·have hyb : (gt Y d != 0) = false := by simp [hy]
     have hR2 := Lib.hid (hR.out.skip (.inr hy)); clear hb hYV hy
     go_wp2
     go_roundw
     case rel => exact ⟨d + 1, Y, by go_num, by omega, hg, hO, hR2⟩
     case measure => simp [intOf]; omega
    ·have hyb : (gt Y d != 0) = true := by simp [hy]
     have hyd := hYV.2 d hlt
     have ho := hP.ord7 d hlt
     have hwn : IntKind.i64.wrap (-(gt Y d)) = -(gt Y d) := IntWalk.i64_in _ (by omega)
     obtain ⟨m1, m2, m3⟩ := HI.out.1.mem d hlt hb
     have hR2 := Lib.hid (G.redTo_step HI.out.1 HI.out.2.1 hlt hb hR.out)
     have hpV := G.pwZ_vec m2.1 (-(gt Y d))
     have hpl : (pwZ P (gt b d) (-(gt Y d))).length ≤ 6 := by rw [hpV.1]; omega
     have HB := Lib.hid (And.intro m2.1 (And.intro hpV (And.intro hpl (And.intro hYV (And.intro hyd ho))))); clear m1 m2 m3 hpV hpl hYV hyd ho hb hy
     have e1 : ∀ w', Ext wr w' → w'.cell? ⟨w.heap.size, 0, none⟩ = some vo6 := fun w' h => (grown_trans hg h).cell hc0 (by simp)
     have e2 : ∀ w', Ext wr w' → w'.cell? ⟨w.heap.size, 1, none⟩ = some vp6 := fun w' h => (grown_trans hg h).cell hc1 (by simp)
     have e3 : ∀ w', Ext wr w' → w'.cell? ⟨w.heap.size, 2, none⟩ = some vc6 := fun w' h => (grown_trans hg h).cell hc2 (by simp)
     have e4 : ∀ w', Ext wr w' → w'.cell? ⟨bb, off + d, none⟩ = some (.slice a2 (gt b d).length cap2) := fun w' h => h.cell hc (by simp)
     have e5 : ∀ w', Ext wr w' → w'.cell? ⟨by_, oy + d, none⟩ = some (.int .i64 (gt Y d)) := fun w' h => h.cell hcy (by simp)
     go_wp2
     clear hc hcy
     go_region_held3 (fun w' => Ext wr w') (first | exact grown_drew _ _ | assumption)
      (first
       | (go_at_call 106; refine Calls.mono (Calls.rel (w0 := wr) (by assumption) (l10Pow_ok P G _ _ _ (gt b d) _ Any Any ⟨_, _, _, rfl, Pres3.ext (Pres3.ext h36 hg) (by assumption)⟩ (Ints.sub (Ints.ext hr (by assumption)) (fun _ _ _ => trivial)) HB.out.1 (by have := HB.out.2.2.2.2.1; have := HB.out.2.2.2.2.2; omega))) ?_; rintro eA wA ⟨vA, rfl, hgA, hsA, hOA⟩; have hOA2 := hOA.ints (by have := HB.out.2.2.1; omega))
       | (go_at_call 240; refine Calls.mono (Calls.rel (w0 := wr) (by assumption) (l08Mul_ok P hP _ _ _ _ Y _ Any Any Any ⟨_, _, _, rfl, Pres3.ext (Pres3.ext h36 hg) (by assumption)⟩ (Ints.sub (Ints.ext hYi (by assumption)) (fun _ _ _ => trivial)) hOA2 HB.out.2.2.2.1 HB.out.2.1)) ?_; rintro eB wB ⟨vB, rfl, hgB, hsB, hOB⟩))
     clear e1 e2 e3 e4 e5
     go_wp2
     go_roundw
     case rel => exact ⟨d + 1, _, by go_num, by omega, grown_trans hg hgB, hOB.weak (by have := hg.size; have := HS.out; omega), hR2⟩
     case measure => simp [intOf]; omega
  ·have hde : d = P.orders.length := by omega
   subst hde
   go_wp2
   go_ret
   exact ⟨_, rfl, grown_trans hg0 hg, Y, hO, hR.out⟩
end Go.Proofs.YtdcobapnlpeaaaaGreat
namespace Go.Proofs.YtdcobapnlpeaaaaGreat
open Go.RowKit
set_option maxRecDepth 100000 in
set_option maxHeartbeats 2000000 in
theorem l12Sift_ok (P : Pr) (G : Grp P) (w : World) (pv uv xv : Value) (H : List Int → Prop) (X : List Int) (Sp Su Sx : Nat → Prop) (S : Sub P H) (hpv : PresV Sp w pv P) (hu : Rows2 Su w uv (cseq P H)) (hx : Ints Sx w xv X) (hX : Vec P.orders X) :
  Calls Tryz.prog 120 #[pv, uv, xv] w (Ret w fun w' v => ∃ Y, Own w.heap.size w' v Y ∧ Rep P H (gt (tabTo (cseq P H) P.orders.length (cseq P H).length)) X Y) := by
 have hP := G.v
 have hn6 := hP.n6
 have hl := G.cseq_len S
 have hsq := (G.seq_facts S).1
 have hI := G.ind_tab S
 obtain ⟨vo, vp, vc, rfl, h3⟩ := hpv
 have hp0 := PresP.box h3 28
 have hg0 : Ext w (w.alloc (.cells #[vo, vp, vc] 28)) := World.grownBy_alloc _ _ _
 have hu0 := Rows2.ext hu hg0
 have hx0 := hx.ext hg0
 have hs0 : (w.alloc (.cells #[vo, vp, vc] 28)).heap.size = w.heap.size + 1 := by simp
 obtain ⟨au, capu, hvu, _, _⟩ := Sl.shape hu
 obtain ⟨ax, capx, hvx, _, _⟩ := hx.shape
 subst hvu hvx
 obtain ⟨vo6, vp6, vc6, _, _, hc0, hc1, hc2, h36⟩ := hp0.at
 simp only [Nat.zero_add] at hc1 hc2
 have HI := Lib.hid (And.intro hsq (And.intro hI (And.intro hX hl))); clear hsq hI hX hl hp0 hu hx
 go_enter Tryz.func120, Tryz.ntmps120
 go_wp2
 have HS := Lib.hid hs0; clear hs0
 generalize hw0 : w.alloc (.cells #[vo, vp, vc] 28) = w0 at *
 clear hw0
 have e1 : ∀ w', Ext w0 w' → w'.cell? ⟨w.heap.size, 0, none⟩ = some vo6 := fun w' h => h.cell hc0 (by simp)
 have e2 : ∀ w', Ext w0 w' → w'.cell? ⟨w.heap.size, 1, none⟩ = some vp6 := fun w' h => h.cell hc1 (by simp)
 have e3 : ∀ w', Ext w0 w' → w'.cell? ⟨w.heap.size, 2, none⟩ = some vc6 := fun w' h => h.cell hc2 (by simp)
 clear hc0 hc1 hc2
 go_region_held3 (fun w' => Ext w0 w') (first | exact grown_drew _ _ | assumption)
  (first
   | (go_at_call 226; refine Calls.mono (Calls.rel (w0 := w0) (by assumption) (l12Table_ok P hP _ _ _ (cseq P H) Any Any ⟨_, _, _, rfl, Pres3.ext h36 (by assumption)⟩ (Rows2.sub (Rows2.ext hu0 (by assumption)) (fun _ _ _ => trivial)) HI.out.1 (by have := HI.out.2.2.2; omega))) ?_; rintro eA wA ⟨tA, rfl, hgA, hsA, hTA⟩; obtain ⟨aA, capA, hvA, _, _⟩ := Sl.shape hTA; subst hvA)
   | (go_at_call 225; refine Calls.mono (Calls.rel (w0 := w0) (by assumption) (l12Reduce_ok P G _ _ _ _ _ X H Any Any Any ⟨_, _, _, rfl, Pres3.ext h36 (by assumption)⟩ hTA (Ints.sub (Ints.ext hx0 (by assumption)) (fun _ _ _ => trivial)) HI.out.2.2.1 (tabTo_len _ _ _) HI.out.2.1)) ?_; rintro eB wB ⟨vB, rfl, hgB, hsB, Y, hOB, hRB⟩))
 clear e1 e2 e3
 have HR := Lib.hid hRB; clear hRB
 go_wp2
 go_ret
 exact ⟨_, rfl, grown_trans hg0 hgB, Y, hOB.weak (by have := HS.out; omega), HR.out.rep⟩
set_option maxHeartbeats 1000000 in
theorem l12Has_ok (P : Pr) (G : Grp P) (w : World) (pv uv xv : Value) (H : List Int → Prop) (X : List Int) (Sp Su Sx : Nat → Prop) (S : Sub P H) (hpv : PresV Sp w pv P) (hu : Rows2 Su w uv (cseq P H)) (hx : Ints Sx w xv X) (hX : Vec P.orders X) :
  Calls Tryz.prog 278 #[pv, uv, xv] w (Ret w fun _ v => ∃ r : Bool, v = .bool r ∧ (r = true ↔ H X)) := by
 have hn6 := G.v.n6
 have hI := G.ind_tab S
 obtain ⟨vo, vp, vc, rfl, h3⟩ := hpv
 have hp0 := PresP.box h3 28
 have hg0 : Ext w (w.alloc (.cells #[vo, vp, vc] 28)) := World.grownBy_alloc _ _ _
 have hu0 := Rows2.ext hu hg0
 have hx0 := hx.ext hg0
 obtain ⟨au, capu, hvu, _, _⟩ := Sl.shape hu
 obtain ⟨ax, capx, hvx, _, _⟩ := hx.shape
 subst hvu hvx
 obtain ⟨vo6, vp6, vc6, _, _, hc0, hc1, hc2, h36⟩ := hp0.at
 simp only [Nat.zero_add] at hc1 hc2
 have hcon := l12Sift_ok P G (w.alloc (.cells #[vo, vp, vc] 28)) _ _ _ H X Any Su Sx S ⟨_, _, _, rfl, h36⟩ hu0 hx0 hX
 have HI := Lib.hid (And.intro hI hX); clear hI hX hp0 hu hx
 go_enter Tryz.func278, Tryz.ntmps278
 go_wp2_with fail
 clear hc0 hc1 hc2
 refine Calls.mono hcon ?_
 rintro e1 w1 ⟨v1, rfl, hg1, Y, hO, hR⟩
 clear hcon
 have hYi := hO.ints (by rw [hR.1.1]; omega)
 obtain ⟨ay, capy, rfl, _, _⟩ := hYi.shape
 have hiff := (isZeroB_zeros hR.1).trans (G.rep_mem HI.out.1 HI.out.2 hR)
 have hz := l01Zero_ok _ _ w1 Any hYi
 cases hb : isZeroB Y with
 | true =>
  rw [hb] at hiff hz
  have HF := Lib.hid hiff
  clear hiff hb hR
  go_wp2_with fail
  refine Calls.mono hz ?_
  rintro e2 w2 ⟨rfl, rfl⟩
  clear hz
  go_wp2
  go_ret
  exact ⟨_, rfl, grown_trans hg0 hg1, true, rfl, by simpa using HF.out⟩
 | false =>
  rw [hb] at hiff hz
  have HF := Lib.hid hiff
  clear hiff hb hR
  go_wp2_with fail
  refine Calls.mono hz ?_
  rintro e2 w2 ⟨rfl, rfl⟩
  clear hz
  go_wp2
  go_ret
  exact ⟨_, rfl, grown_trans hg0 hg1, false, rfl, by simpa using HF.out⟩
set_option maxRecDepth 100000 in
set_option maxHeartbeats 2000000 in
theorem l12Order_ok (P : Pr) (hP : Valid P) (w : World) (pv uv : Value) (U : List (List Int)) (Sp Su : Nat → Prop) (hpv : PresV Sp w pv P) (hu : Rows2 Su w uv U) (hU : SeqOk P U) (hl : U.length ≤ 100) :
  Calls Tryz.prog 232 #[pv, uv] w (Ret w fun _ v => v = .int .i64 (prodU P U U.length)) := by
 have hn6 := hP.n6
 obtain ⟨vo, vp, vc, rfl, h3⟩ := hpv
 have hp0 := PresP.box h3 28
 have hg0 : Ext w (w.alloc (.cells #[vo, vp, vc] 28)) := World.grownBy_alloc _ _ _
 have hu0 := Rows2.ext hu hg0
 obtain ⟨ao, capo, hco, hoi⟩ := hp0.ordAt
 obtain ⟨au, capu, rfl, _, _⟩ := Sl.shape hu
 have HU := Lib.hid hU; clear hU hp0 hu
 go_enter Tryz.func232, Tryz.ntmps232
 go_wp2
 generalize hw0 : w.alloc (.cells #[vo, vp, vc] 28) = w0 at *
 clear hw0
 go_loopw [5, 6] (fun mv iv wr => ∃ i : Nat, mv = .int .i64 (prodU P U i) ∧ iv = .int .i64 i ∧ i ≤ U.length ∧ Ext w0 wr) (fun _ iv _ => U.length - (intOf iv).toNat)
 case atStart => exact ⟨0, rfl, rfl, by omega, Ext.refl _⟩
 case round =>
  obtain ⟨i, rfl, rfl, hi, hg⟩ := hrel
  by_cases hlt : i < U.length
  ·have hlt' : (i : Int) < U.length := by omega
   obtain ⟨b, off, a2, cap2, rfl, _, _, hc, hr⟩ := Rows2.at (Rows2.ext hu0 hg) i hlt
   have hst : prodU P U (i + 1) = prodU P U i * gt P.orders (dep (gt U i)) := rfl
   have hb := prodU_729 hP HU.out (i + 1) hlt
   rw [hst] at hb
   obtain ⟨z, hz⟩ : ∃ z, z = gt U i := ⟨_, rfl⟩
   rw [← hz] at hc hr hst hb
   obtain ⟨d, hd⟩ : ∃ d, d = dep z := ⟨_, rfl⟩
   rw [← hd] at hst hb
   have hdn : d < P.orders.length := by rw [hd, hz]; exact (HU.out.1 _ (gtMem hlt)).2.1
   have HD := Lib.hid (And.intro hd hz); clear hd hz
   have hdn' : (d : Int) < P.orders.length := by omega
   obtain ⟨bo, oo, rfl, _, _, hcd⟩ := Ints.at (hoi.ext hg) d hdn
   have hw : IntKind.i64.wrap (prodU P U i * gt P.orders d) = prodU P U i * gt P.orders d := IntWalk.i64_in _ (by omega)
   have HS := Lib.hid hst; clear hst hb
   have e1 : ∀ w', Ext wr w' → w'.cell? ⟨w.heap.size, 0, none⟩ = some (.slice (some ⟨bo, oo, none⟩) P.orders.length capo) := fun w' h => (grown_trans hg h).cell hco (by simp)
   have e2 : ∀ w', Ext wr w' → w'.cell? ⟨b, off + i, none⟩ = some (.slice a2 z.length cap2) := fun w' h => h.cell hc (by simp)
   have e3 : ∀ w', Ext wr w' → w'.cell? ⟨bo, oo + d, none⟩ = some (.int .i64 (gt P.orders d)) := fun w' h => h.cell hcd (by simp)
   clear hc hcd
   go_wp2
   go_region_held3 (fun w' => Ext wr w') (first | exact grown_drew _ _ | assumption)
    (first
     | (go_at_call 289; refine Calls.mono (Calls.rel (w0 := wr) (by first | exact grown_drew _ _ | assumption) (l12Depth_ok _ z _ Any (Ints.sub (Ints.ext hr (by first | exact grown_drew _ _ | assumption)) (fun _ _ _ => trivial)))) ?_; rintro eE wE ⟨vE, rfl, hgE, hsE, hvE⟩; rw [← HD.out.1] at hvE; subst hvE))
   clear e1 e2 e3
   go_wp2
   go_roundw
   case rel => exact ⟨i + 1, by rw [HS.out], by go_num, by omega, grown_trans hg hgE⟩
   case measure => simp [intOf]; omega
  ·have hie : i = U.length := by omega
   subst hie
   go_wp2
   go_ret
   exact ⟨_, rfl, grown_trans hg0 hg, rfl⟩
end Go.Proofs.YtdcobapnlpeaaaaGreat
namespace Go.Proofs.YtdcobapnlpeaaaaGreat
open Go.RowKit
set_option maxHeartbeats 1000000 in
theorem l01Own2N_ok (w : World) (v : Value) (L : List (List Int)) (S : Nat → Prop) (hv : Rows2 S w v L) (hL : ∀ x ∈ L, x.length ≤ 1000000) (hlen : L.length ≤ 1000000) :
  Calls Tryz.prog 213 #[v] w (Ret w fun w' r => RowsO w.heap.size w' r L ∧ ∃ g cap, r = .slice (some ⟨g, 0, none⟩) L.length cap) := by
 obtain ⟨a, cap, rfl, _, _⟩ := Sl.shape hv
 have HL := Lib.hid hL; clear hL
 go_enter Tryz.func213, Tryz.ntmps213
 go_wp2
 go_loopw [3, 4] (fun ov iv wr => ∃ (i : Nat) (v4 : Value), v4 = ov ∧ iv = .int .i64 i ∧ i ≤ L.length ∧ Ext w wr ∧ RowsO w.heap.size wr v4 (L.take i) ∧ Hid (∃ g cap, v4 = .slice (some ⟨g, 0, none⟩) i cap)) (fun _ iv _ => L.length - (intOf iv).toNat)
 case atStart => exact ⟨0, _, rfl, rfl, by omega, World.grownBy_alloc _ _ _, ⟨[], fun _ _ => False, rfl, World.ownsRow_lit w #[] 0 (Nat.le_refl _) (by decide) rfl, by simp, by simp, by simp⟩, Lib.hid ⟨_, _, rfl⟩⟩
 case round =>
  obtain ⟨i, v4, rfl, rfl, hi, hg, hO, hN⟩ := hrel
  by_cases hlt : i < L.length
  ·have hlt' : (i : Int) < L.length := by omega
   obtain ⟨b, off, a2, cap2, rfl, _, _, hc, hr⟩ := Rows2.at (Rows2.ext hv hg) i hlt
   have hstep := take_succ_gt L i hlt
   have hll := HL.out _ (gtMem hlt)
   have htl : (L.take i).length ≤ 1000000 := by rw [List.length_take]; omega
   have HST := Lib.hid (And.intro hstep hll); clear hstep hll
   go_wp2_with fail
   refine Calls.mono (l01Own_ok wr _ (gt L i) _ hr (by have := HST.out.2; omega)) ?_
   rintro eC wC ⟨vC, rfl, hgC, hOC⟩
   have hYO : OwnIn (From wr.heap.size) wC vC (gt L i) := OwnIn.of hOC (by have := HST.out.2; omega) (fun j h1 _ => h1)
   obtain ⟨ay, capy, hvy, _, _⟩ := hYO.ints.shape
   subst hvy
   clear hc
   go_wp2_with (first | (at_builtin; refine wp_app_row rfl _ _ rfl w.heap.size wr wC v4 _ (L.take i) (gt L i) rfl hO hgC hYO rfl rfl htl hg.size ?_; intro v5 w5 hO5 hg5 hg6; have hgw5 := hO.extw hg (Nat.le_refl _) hg5) | fail)
   have hN5 : Hid (∃ g cap, v5 = .slice (some ⟨g, 0, none⟩) (i + 1) cap) := by
    obtain ⟨vs, G, hvl, hOv, _⟩ := hO5
    have hvl2 : vs.length = i + 1 := by rw [hvl, List.length_append, List.length_take]; simp; omega
    rcases hOv.form with ⟨_, h2⟩ | ⟨g, cp, h1, _⟩
    ·rw [h2] at hvl2; simp at hvl2
    ·exact Lib.hid ⟨g, cp, by rw [h1, hvl2]⟩
   go_roundw
   case rel => exact ⟨i + 1, v5, rfl, by go_num, by omega, hgw5, by rw [HST.out.1]; exact hO5, hN5⟩
   case measure => simp [intOf]; omega
  ·have hie : i = L.length := by omega
   subst hie
   rw [List.take_length] at hO
   obtain ⟨g, cp, hvg⟩ := hN.out
   subst hvg
   clear hN
   go_wp2
   go_ret
   exact ⟨_, rfl, hg, hO, _, _, rfl⟩
end Go.Proofs.YtdcobapnlpeaaaaGreat
namespace Go.Proofs.YtdcobapnlpeaaaaGreat
open Go.RowKit
attribute [local go_sem ↓] Go.wp_at_zero Go.wp_at_succ
def ElD (Q : Pr) (B : Nat) (w' : World) (v : Value) : Prop := ∃ (a : Option Addr) (c : Nat) (l : List Int), v = .slice a l.length c ∧ Vec Q.orders l ∧ Own B w' (.slice a l.length c) l
set_option maxRecDepth 100000 in
set_option maxHeartbeats 8000000 in
theorem l10Some_ok (B0 : Nat) (w : World) (sb : Nat) (pv : Value) (Q : Pr) (F : Nat → Prop) (hB0 : B0 ≤ w.heap.size) (hs : Src B0 w sb) (hp : PresV F w pv Q) (hF : ∀ k, F k → k ≠ sb) (hV : Valid Q) :
  Calls Tryz.prog 137 #[.pointer (some ⟨sb, 0, none⟩), pv] w (Mut w (some sb) (DrawR B0 sb (ElD Q w.heap.size))) := by
 have hsb := hs.lt
 have hQ := hV.n6
 obtain ⟨vo, vp, vc, rfl, h3⟩ := hp
 obtain ⟨ao, co, hvo, _, _⟩ := h3.o.shape
 obtain ⟨ap, cp, hvp, _, _⟩ := Sl.shape h3.p
 obtain ⟨ac, cc, hvc, _, _⟩ := Sl.shape h3.c
 subst hvo hvp hvc
 have hbA := Box3.made w 28 (.slice ao Q.orders.length co) (.slice ap Q.powers.length cp) (.slice ac Q.conj.length cc)
 have hgA : Ext w (w.alloc (.cells #[.slice ao Q.orders.length co, .slice ap Q.powers.length cp, .slice ac Q.conj.length cc] 28)) := World.grownBy_alloc _ _ _
 have hoA := h3.o.ext hgA
 have hsA := hs.ext hgA
 have hzA : (w.alloc (.cells #[.slice ao Q.orders.length co, .slice ap Q.powers.length cp, .slice ac Q.conj.length cc] 28)).heap.size = w.heap.size + 1 := by simp
 have HZ := Lib.hid (And.intro hzA hsA); clear hzA hsA hs h3
 go_enter Tryz.func137, Tryz.ntmps137
 go_wp2_with fail
 generalize w.alloc (.cells #[.slice ao Q.orders.length co, .slice ap Q.powers.length cp, .slice ac Q.conj.length cc] 28) = w0 at *
 have hzA : w0.heap.size = w.heap.size + 1 := HZ.out.1
 have hgE := World.grownBy_alloc w0 (.cells #[] 2) none
 have hOE : Own w0.heap.size (w0.alloc (.cells #[] 2)) (.slice (some ⟨w0.heap.size, 0, none⟩) 0 0) [] := World.ownsRow_lit w0 #[] 0 (Nat.le_refl _) (by decide) rfl
 have HS := Lib.hid (HZ.out.2.ext hgE)
 have hg0 := grown_of_ext (some sb) hgE
 clear hgE
 have HW := Lib.hid hzA
 rw [hzA] at hOE
 have hz1 : w.heap.size + 1 ≤ w0.heap.size := by omega
 clear hzA HZ
 generalize w0.alloc (.cells #[] 2) = w1 at *
 rw [← HW.out] at hOE
 rw [← HW.out]
 go_loopw [5, 6] (fun ov iv wr => ∃ (i : Nat) (l : List Int) (v4 : Value), v4 = ov ∧ iv = .int .i64 i ∧ i ≤ Q.orders.length ∧ Hid (l.length = i ∧ ∀ k, k < l.length → 0 ≤ gt l k ∧ gt l k < gt Q.orders k) ∧ w0.grownBy wr (some sb) ∧ Own w0.heap.size wr v4 l ∧ Hid (Src B0 wr sb)) (fun _ iv _ => Q.orders.length - (intOf iv).toNat)
 case atStart => exact ⟨0, [], _, rfl, rfl, by omega, Lib.hid ⟨rfl, fun k hk => by simp at hk⟩, hg0, hOE, HS⟩
 case round =>
  clear hg0 hOE HS
  obtain ⟨i, l, v4, rfl, rfl, hi, hli, hg, hO, hsr⟩ := hrel
  have hbr := hbA.moved hg (by omega)
  obtain ⟨b0, b1, b2, b3, b4⟩ := id hbr
  have hob : ∀ j, v4.ownBlock = some j → w0.heap.size ≤ j := fun j hj => (hO.lt j hj).1
  have HO := Lib.hid hob; clear hob
  by_cases hlt : i < Q.orders.length
  ·have hlt' : (i : Int) < Q.orders.length := by omega
   obtain ⟨bo, oo, rfl, hboF, _, hco⟩ := Ints.at hoA i hlt
   have hc := hg.cell hco (by simp; exact hF _ hboF)
   have h7 := hV.ord7 i hlt
   obtain ⟨x, hx⟩ : ∃ x, x = gt Q.orders i := ⟨_, rfl⟩
   rw [← hx] at hc hco h7
   have HX := Lib.hid hx; clear hx hco
   go_wp2_with fail
   refine Calls.mono (l01Next_ok B0 wr sb x hsr.out) ?_
   rintro e3 w3 ⟨v3, rfl, hg3, y, rfl, _, hy1, hs3⟩
   have hy := hy1 (by omega)
   have hg03 := grown_trans hg hg3
   have hO3 : Own w0.heap.size w3 _ l := hO.kept hg3 (.inr (fun e => by have := HO.out sb e; omega))
   clear hc hO hy1
   go_wp2_with fail
   refine Calls.mono (l01Next_ok B0 w3 sb 3 hs3) ?_
   rintro e4 w4 ⟨v4', rfl, hg4, z, rfl, _, _, hs4⟩
   have hg04 := grown_trans hg03 hg4
   have hO4 : Own w0.heap.size w4 _ l := hO3.kept hg4 (.inr (fun e => by have := HO.out sb e; omega))
   have hll : l.length ≤ 1000000 := by have := hli.out.1; omega
   have HS4 := Lib.hid (And.intro hs4 hll); clear hs4 hll hO3 hs3
   have hrel : ∀ u : Int, 0 ≤ u ∧ u < x → ∀ k, k < (l ++ [u]).length → 0 ≤ gt (l ++ [u]) k ∧ gt (l ++ [u]) k < gt Q.orders k := fun u hu k hk => by
    by_cases h : k < l.length
    ·rw [gt_append_left _ _ _ h]; exact hli.out.2 k h
    ·have hk2 : k = l.length := by simp at hk; omega
     subst hk2
     rw [gt_concat, hli.out.1, ← HX.out]; exact hu
   have HR := Lib.hid hrel; clear hrel
   by_cases hz : z = 0
   ·have hzb : (z == 0) = true := by simp [hz]
    clear hz
    go_wp2_with (first | (at_builtin; refine wp_app_int rfl _ _ rfl w0.heap.size v4 l 0 rfl w4 hO4 rfl rfl HS4.out.2 hg04.size ?_; intro v5 w5 hO5 hg5) | fail)
    have hs5 := HS4.out.1.own hg5 (fun j hj => by have := HO.out j hj; omega)
    have hg05 : w0.grownBy w5 (some sb) := grown_own hg04 hg5 (fun j hj hlt => by have := HO.out j hj; omega)
    have hll : (l ++ [(0 : Int)]).length = l.length + 1 := by simp
    go_roundw
    case rel => exact ⟨i + 1, l ++ [0], v5, rfl, by go_num, by omega, Lib.hid ⟨by have := hli.out.1; omega, HR.out 0 (by omega)⟩, hg05, hO5, Lib.hid hs5⟩
    case measure => simp [intOf]; omega
   ·have hzb : (z == 0) = false := by simp [hz]
    clear hz
    go_wp2_with (first | (at_builtin; refine wp_app_int rfl _ _ rfl w0.heap.size v4 l y rfl w4 hO4 rfl rfl HS4.out.2 hg04.size ?_; intro v5 w5 hO5 hg5) | fail)
    have hs5 := HS4.out.1.own hg5 (fun j hj => by have := HO.out j hj; omega)
    have hg05 : w0.grownBy w5 (some sb) := grown_own hg04 hg5 (fun j hj hlt => by have := HO.out j hj; omega)
    have hll : (l ++ [y]).length = l.length + 1 := by simp
    go_roundw
    case rel => exact ⟨i + 1, l ++ [y], v5, rfl, by go_num, by omega, Lib.hid ⟨by have := hli.out.1; omega, HR.out y hy⟩, hg05, hO5, Lib.hid hs5⟩
    case measure => simp [intOf]; omega
  ·have hlt' : ¬ ((i : Int) < Q.orders.length) := by omega
   have hlv : Vec Q.orders l := ⟨by have := hli.out.1; omega, fun k hk => hli.out.2 k (by have := hli.out.1; omega)⟩
   have HV := Lib.hid hlv; clear hlv
   obtain ⟨al, cl, rfl, _⟩ := (hO.ints (by have := HV.out.1; omega)).shape
   have hgw : w.grownBy wr (some sb) := grown_trans (grown_of_ext (some sb) hgA) hg
   go_wp2_with fail
   go_ret
   exact ⟨_, rfl, hgw, ⟨al, cl, l, rfl, HV.out, Own.weak hO (by omega)⟩, hsr.out⟩
end Go.Proofs.YtdcobapnlpeaaaaGreat
namespace Go.Proofs.YtdcobapnlpeaaaaGreat
open Go.RowKit
attribute [local go_sem ↓] Go.wp_at_zero Go.wp_at_succ
set_option maxRecDepth 100000 in
set_option maxHeartbeats 8000000 in
theorem l12Some_ok (B0 : Nat) (w : World) (sb : Nat) (pv : Value) (P : Pr) (F : Nat → Prop) (G : Grp P) (hB0 : B0 ≤ w.heap.size) (hs : Src B0 w sb) (hp : PresV F w pv P) (hF : ∀ k, F k → k ≠ sb) :
  Calls Tryz.prog 231 #[.pointer (some ⟨sb, 0, none⟩), pv] w (Mut w (some sb) (DrawR B0 sb fun w' v => ∃ U, U.length ≤ 6 ∧ (∀ x ∈ U, x.length ≤ 6) ∧ ShQ (fun k => k < w.heap.size) w.heap.size w' v U)) := by
 have hsb := hs.lt
 have hn6 := G.v.n6
 obtain ⟨vo, vp, vc, rfl, h3⟩ := hp
 obtain ⟨ao, co, hvo, _, _⟩ := h3.o.shape
 obtain ⟨ap, cp, hvp, _, _⟩ := Sl.shape h3.p
 obtain ⟨ac, cc, hvc, _, _⟩ := Sl.shape h3.c
 subst hvo hvp hvc
 have hbA := Box3.made w 28 (.slice ao P.orders.length co) (.slice ap P.powers.length cp) (.slice ac P.conj.length cc)
 have hgA : Ext w (w.alloc (.cells #[.slice ao P.orders.length co, .slice ap P.powers.length cp, .slice ac P.conj.length cc] 28)) := World.grownBy_alloc _ _ _
 have h3A := h3.ext hgA
 have hsA := hs.ext hgA
 have hzA : (w.alloc (.cells #[.slice ao P.orders.length co, .slice ap P.powers.length cp, .slice ac P.conj.length cc] 28)).heap.size = w.heap.size + 1 := by simp
 have HZ := Lib.hid (And.intro hzA hsA); clear hsA hs h3
 go_enter Tryz.func231, Tryz.ntmps231
 go_wp2_with fail
 generalize w.alloc (.cells #[.slice ao P.orders.length co, .slice ap P.powers.length cp, .slice ac P.conj.length cc] 28) = w0 at *
 have hgE := World.grownBy_alloc w0 (.cells #[] 24) none
 have hQE : ShQ (fun k => k < w.heap.size + 1) w0.heap.size (w0.alloc (.cells #[] 24)) (.slice (some ⟨w0.heap.size, 0, none⟩) 0 0) [] := ShQ.lit _ _ _ (Nat.le_refl _)
 have HS := Lib.hid (HZ.out.2.ext hgE)
 have hg0 := grown_of_ext (some sb) hgE
 clear hgE
 have HW := Lib.hid hzA
 rw [hzA] at hQE
 have hz1 : w.heap.size + 1 ≤ w0.heap.size := by omega
 clear hzA HZ
 generalize w0.alloc (.cells #[] 24) = w1 at *
 refine Calls.mono (l01Next_ok B0 w1 sb 4 HS.out) ?_
 rintro e2 w2 ⟨v2, rfl, hg2, k0, rfl, _, hk1, hs2⟩
 have hk := hk1 (by omega)
 have hQ2 := hQE.kept hg2.size (fun j hj hc => hg2.block j hj (fun e => by
  have := Option.some.inj e
  rcases hc with hc | hc
  ·have := own_blk hc; omega
  ·omega)) (fun _ _ h => h)
 have hg02 := grown_trans hg0 hg2
 have HS2 := Lib.hid hs2; clear hs2 hQE hg0 hg2 HS hk1
 rw [← HW.out] at hQ2
 rw [← HW.out]
 go_wp2_with fail
 go_loopw [5, 6] (fun ov kv wr => ∃ (k : Int) (L : List (List Int)) (v4 : Value), v4 = ov ∧ kv = .int .i64 k ∧ 0 ≤ k ∧ k ≤ 3 ∧ Hid (L.length + k ≤ 3 ∧ ∀ x ∈ L, Vec P.orders x) ∧ w0.grownBy wr (some sb) ∧ ShQ (fun k => k < w0.heap.size) w0.heap.size wr v4 L ∧ Hid (Src B0 wr sb)) (fun _ kv _ => (intOf kv).toNat)
 case atStart => exact ⟨k0, [], _, rfl, rfl, hk.1, by omega, Lib.hid ⟨by simp; omega, fun x hx => by cases hx⟩, hg02, hQ2, HS2⟩
 case round =>
  clear hQ2 hg02 HS2 hk
  obtain ⟨k, L, v4, rfl, rfl, hk0, hk3, hLk, hg, hQ, hsr⟩ := hrel
  have hbr := hbA.moved hg (by omega)
  obtain ⟨b0, b1, b2, b3, b4⟩ := id hbr
  have hPr : Pres3 F wr _ _ _ P := h3A.mono (frame_of hg (fun k hk _ => ⟨hk, fun e => hF k hk (Option.some.inj e).symm⟩))
  have hob : ∀ j, v4.ownBlock = some j → w0.heap.size ≤ j := fun j hj => (hQ.lt j hj).1
  have HO := Lib.hid hob; clear hob
  have hzr := hg.size
  by_cases hkp : 0 < k
  ·go_wp2_with fail
   refine Calls.mono (l10Some_ok B0 wr sb _ P F (by omega) hsr.out ⟨_, _, _, rfl, hPr⟩ hF G.v) ?_
   rintro e3 w3 ⟨v3, rfl, hg3, ⟨a3, c3, x, rfl, hxV, hOx⟩, hs3⟩
   have hg03 := grown_trans hg hg3
   have hQ3 : ShQ (fun k => k < w0.heap.size) w0.heap.size w3 v4 L := hQ.kept hg3.size (fun j hj hc => hg3.block j hj (fun e => by
    have := Option.some.inj e
    rcases hc with hc | hc
    ·have := HO.out j hc; omega
    ·omega)) (fun _ _ h => h)
   have hxI : Ints (fun k => ¬ k < w0.heap.size ∧ v4.ownBlock ≠ some k) w3 (.slice a3 x.length c3) x := ints_of_own hOx (by rw [hxV.1]; omega) (fun k hk => by
    have h1 := (hOx.lt k hk).1
    exact ⟨by omega, fun e => by have := (hQ.lt k e).2; omega⟩)
   have hLl : L.length ≤ 1000000 := by have := hLk.out.1; omega
   have HS3 := Lib.hid (And.intro hs3 (And.intro hxV hLl)); clear hs3 hxV hLl hOx hQ hbr b0 b1 b2 b3 b4
   go_wp2_with (first | (at_builtin; refine wp_shq_app rfl _ _ rfl (fun k => k < w0.heap.size) w0.heap.size v4 _ L x rfl w3 hQ3 rfl hxI rfl HS3.out.2.2 hg03.size ?_; intro v5 w5 hQ5 hg5 hb5) | fail)
   have hs5 := HS3.out.1.own hg5 (fun j hj => by have := HO.out j hj; omega)
   have hg05 : w0.grownBy w5 (some sb) := grown_own hg03 hg5 (fun j hj hlt => by have := HO.out j hj; omega)
   have hll : (L ++ [x]).length = L.length + 1 := by simp
   go_roundw
   case rel => exact ⟨k - 1, L ++ [x], v5, rfl, rfl, by omega, by omega, Lib.hid ⟨by have := hLk.out.1; omega, fun y hy => by
    rcases List.mem_append.1 hy with h | h
    ·exact hLk.out.2 y h
    ·rw [List.mem_singleton.1 h]; exact HS3.out.2.1⟩, hg05, hQ5, Lib.hid hs5⟩
   case measure => simp [intOf]; omega
  ·have hgw : w.grownBy wr (some sb) := grown_trans (grown_of_ext (some sb) hgA) hg
   have hLr := hQ.rows
   have hLl : L.length ≤ 10000 := by have := hLk.out.1; omega
   have HC := Lib.hid (And.intro hLr hLl); clear hLr hLl
   go_wp2_with fail
   refine Calls.mono (l12CloseF_ok P G wr _ _ L F Any ⟨_, _, _, rfl, hPr⟩ HC.out.1 hLk.out.2 HC.out.2) ?_
   rintro e3 w3 ⟨v3, rfl, hg3, hQ3⟩
   have hS := G.genP_sub hLk.out.2
   have hUl := G.cseq_len hS
   have hUv : ∀ x ∈ cseq P (genP P (fun x => x ∈ L)), x.length ≤ 6 := fun x hx => by rw [((G.seq_facts hS).1.1 x hx).1.1]; omega
   obtain ⟨a5, c5, rfl, _⟩ := hQ3.shape
   have HU := Lib.hid (And.intro hUl (And.intro hUv (And.intro hQ3 (hsr.out.ext hg3)))); clear hUl hUv hQ3 hS
   go_wp2_with fail
   go_ret
   refine ⟨_, rfl, grown_trans hgw (grown_of_ext _ hg3), ⟨_, Nat.le_trans HU.out.1 hn6, HU.out.2.1, ?_⟩, HU.out.2.2.2⟩
   exact (HU.out.2.2.1.kept (Nat.le_refl _) (fun _ _ _ => rfl) (fun k _ hk => by have hk : k < w.heap.size := hk; show k < wr.heap.size; omega)).weak (by omega)
end Go.Proofs.YtdcobapnlpeaaaaGreat
namespace Go.Proofs.YtdcobapnlpeaaaaGreat
theorem nodup_sub_len {α : Type} : ∀ (l m : List α), l.Nodup → (∀ x ∈ l, x ∈ m) → l.length ≤ m.length
 | [], m, _, _ => by simp
 | a :: l, m, hn, hs => by
  obtain ⟨m1, m2, rfl⟩ := List.append_of_mem (hs a (List.mem_cons_self ..))
  have hn' := List.nodup_cons.1 hn
  have := nodup_sub_len l (m1 ++ m2) hn'.2 (fun x hx => by
   have h1 := hs x (List.mem_cons_of_mem _ hx)
   rw [List.mem_append, List.mem_cons] at h1
   rw [List.mem_append]
   rcases h1 with h1 | h1 | h1
   ·exact .inl h1
   ·subst h1; exact absurd hx hn'.1
   ·exact .inr h1)
  simp only [List.length_append, List.length_cons] at *
  omega
end Go.Proofs.YtdcobapnlpeaaaaGreat
namespace Go.Proofs.YtdcobapnlpeaaaaGreat
open Go.RowKit
attribute [local go_sem ↓] Go.wp_at_zero Go.wp_at_succ
def RowsDr (B : Nat) (w' : World) (v : Value) : Prop := ∃ U : List (List Int), U.length ≤ 8 ∧ (∀ x ∈ U, x.length ≤ 21) ∧ Rows2 (From B) w' v U
theorem drow_one {w : World} {B n : Nat} {a : Option Addr} {c : Nat} {l : List Int} (hl : l.length ≤ 21) (hO : Own B w (.slice a n c) l) (hB : B ≤ w.heap.size) :
  RowsDr B (w.alloc (.cells #[.slice a n c] 24)) (.slice (some ⟨w.heap.size, 0, none⟩) 1 1) := by
 refine ⟨[l], by simp, by simpa using hl, ⟨_, _, rfl, ⟨Nat.le_refl _, by simp, fun h => by cases h⟩, fun i hi => ⟨w.heap.size, 0, .slice a n c, rfl, hB, by simp, ?_, ?_⟩⟩⟩
 ·have : i = 0 := by simpa using hi
  subst this
  rw [World.cell?_alloc_at _ _ _ _ rfl]; rfl
 ·have : i = 0 := by simpa using hi
  subst this
  exact Ints.ext (xs := l) (ints_of_own hO (by omega) (fun k hk => (hO.lt k hk).1)) (World.grownBy_alloc _ _ _)
theorem shq_dr {w : World} {B : Nat} {v : Value} {U : List (List Int)} (h1 : U.length ≤ 8) (h2 : ∀ x ∈ U, x.length ≤ 21) (h : ShQ (fun k => k < B) B w v U) : RowsDr B w v :=
 ⟨U, h1, h2, Rows2.sub (ShQ.rowsB h (fun _ hk => hk)) (fun _ hk _ => Nat.le_of_not_lt hk)⟩
theorem rowsO_put {w w' : World} {g n cap : Nat} {a : Option Addr} {m c : Nat} {U : List (List Int)} {l : List Int} {B C : Nat} (hO : RowsO B w (.slice (some ⟨g, 0, none⟩) n cap) U) (hn : n = U.length) (hU : U.length ≤ 8) (h2 : ∀ x ∈ U, x.length ≤ 21) (hs : w.heap.size ≤ C)
  (hb : ∀ k, B ≤ k → k < w.heap.size → w'.heap[k]? = w.heap[k]?) (hsz : w.heap.size ≤ w'.heap.size) (hl : l.length ≤ 21) (hu : Own C w' (.slice a m c) l) (hi : 0 < U.length) (hBC : B ≤ C) :
  (∃ z, w'.cell? ⟨g, 0, none⟩ = some z) ∧ w'.frozen? ⟨g, 0, none⟩ = false ∧ B ≤ g ∧ g < w.heap.size ∧ RowsDr B (w'.setCell ⟨g, 0, none⟩ (.slice a m c)) (.slice (some ⟨g, 0, none⟩) n cap) := by
 have h1 : RowsI (fun k => B ≤ k ∧ k < w.heap.size) w (.slice (some ⟨g, 0, none⟩) n cap) U := SlI.of hO (by omega) (fun k h h' => ⟨h, h'⟩)
 have h3 : RowsI (fun k => B ≤ k ∧ k < w.heap.size) w' (.slice (some ⟨g, 0, none⟩) n cap) U := rdRowsI.mono h1 (fun k hk hlt => ⟨hk, Nat.lt_of_lt_of_le hlt hsz, hb k hk.1 hlt⟩)
 obtain ⟨hz, hf⟩ := SlI.place h3 0 hi
 have hg : B ≤ g ∧ g < w.heap.size := by
  rcases SlI.form h3 with ⟨e, _⟩ | ⟨g', c', e, hF, _⟩
  ·cases e
  ·cases e; exact hF
 have h3' : SlI (fun F w u (x : List Int) => Ints F w u x) 24 (fun k => B ≤ k ∧ k < w.heap.size) w' (.slice (some ⟨g, 0, none⟩) n cap) U := SlI.map (fun _ _ _ _ h => h.ints) h3
 have hrd : RdOk (fun F w u (x : List Int) => Ints F w u x) := ⟨fun h hb => Ints.mono h hb, fun h => by obtain ⟨_, _, rfl, _⟩ := h.shape; rfl⟩
 have hui : Ints (From C) w' (.slice a m c) l := ints_of_own hu (by omega) (fun k hk => (hu.lt k hk).1)
 have hp := SlI.putR hrd h3' hui (fun k hk h => by have hk : C ≤ k := hk; omega) 0
 refine ⟨hz, hf, hg.1, hg.2, U.set 0 l, by simpa using hU, fun x hx => ?_, Rows2.sub (S := fun k => (B ≤ k ∧ k < w.heap.size) ∨ From C k) hp (fun k hk _ => ?_)⟩
 ·rcases List.mem_or_eq_of_mem_set hx with h | h
  ·exact h2 x h
  ·rw [h]; exact hl
 ·rcases hk with h | h
  ·exact h.1
  ·exact Nat.le_trans hBC h
set_option maxRecDepth 100000 in
set_option maxHeartbeats 16000000 in
theorem l12Draw_ok (B0 : Nat) (w : World) (sb : Nat) (pv : Value) (P : Pr) (F : Nat → Prop) (hB0 : B0 ≤ w.heap.size) (hs : Src B0 w sb) (hp : PresV F w pv P) (hF : ∀ k, F k → k ≠ sb) (hn : P.orders.length ≤ 20) :
  Calls Tryz.prog 138 #[.pointer (some ⟨sb, 0, none⟩), pv] w (Mut w (some sb) (DrawR B0 sb (RowsDr w.heap.size))) := by
 have hsb := hs.lt
 obtain ⟨vo, vp, vc, rfl, h3⟩ := hp
 obtain ⟨ao, co, hvo, _, _⟩ := h3.o.shape
 obtain ⟨ap, cp, hvp, _, _⟩ := Sl.shape h3.p
 obtain ⟨ac, cc, hvc, _, _⟩ := Sl.shape h3.c
 subst hvo hvp hvc
 have hbA := Box3.made w 28 (.slice ao P.orders.length co) (.slice ap P.powers.length cp) (.slice ac P.conj.length cc)
 have hgA : Ext w (w.alloc (.cells #[.slice ao P.orders.length co, .slice ap P.powers.length cp, .slice ac P.conj.length cc] 28)) := World.grownBy_alloc _ _ _
 have h3A := h3.ext hgA
 have hsA := hs.ext hgA
 have hzA : (w.alloc (.cells #[.slice ao P.orders.length co, .slice ap P.powers.length cp, .slice ac P.conj.length cc] 28)).heap.size = w.heap.size + 1 := by simp
 have HZ := Lib.hid (And.intro hsA h3A); clear hsA hs h3 h3A
 go_enter Tryz.func138, Tryz.ntmps138
 go_wp2_with fail
 generalize w.alloc (.cells #[.slice ao P.orders.length co, .slice ap P.powers.length cp, .slice ac P.conj.length cc] 28) = w0 at *
 refine Calls.mono (l08Group_ok P w0 _ F ⟨_, _, _, rfl, HZ.out.2⟩) ?_
 rintro e1 w1 ⟨v1, rfl, hg1, rfl⟩
 have hb1 := hbA.ext hg1
 have hs1 := HZ.out.1.ext hg1
 have hP1 : PresV F w1 (.agg #[.slice ao P.orders.length co, .slice ap P.powers.length cp, .slice ac P.conj.length cc]) P := ⟨_, _, _, rfl, HZ.out.2.ext hg1⟩
 have hgw1 := grown_trans (grown_of_ext (some sb) hgA) (grown_of_ext (some sb) hg1)
 have hz1 : w.heap.size + 1 ≤ w1.heap.size := by have := hg1.size; omega
 have H1 := Lib.hid (And.intro hs1 (And.intro hP1 hgw1)); clear hs1 hP1 hgw1 hgA hg1 hbA HZ hzA
 obtain ⟨b0, b1, b2, b3, b4⟩ := id hb1
 cases hr : rconsB P with
 | false =>
  go_wp2_with fail
  refine Calls.mono (l07Vectors_ok B0 w1 sb _ P F (by omega) H1.out.1 H1.out.2.1 hF hn) ?_
  rintro e2 w2 ⟨v2, rfl, hg2, ⟨a2, c2, l2, rfl, hl2, hO2⟩, hs2⟩
  have hz2 := hg2.size
  have H2 := Lib.hid (And.intro hl2 (And.intro hO2 (And.intro hs2 hg2))); clear hl2 hO2 hs2 hg2
  go_wp2_with fail
  go_ret
  have hgE := World.grownBy_alloc w2 (.cells #[.slice a2 l2.length c2] 24) none
  refine ⟨_, rfl, grown_trans H1.out.2.2 (grown_trans H2.out.2.2.2 (grown_of_ext _ hgE)), ?_, H2.out.2.2.1.ext hgE⟩
  exact drow_one H2.out.1 (Own.weak H2.out.2.1 (by omega)) (by omega)
 | true =>
  have G := grp_of_r hr
  have hn6 := G.v.n6
  go_wp2_with fail
  refine Calls.mono (l12Some_ok B0 w1 sb _ P F G (by omega) H1.out.1 H1.out.2.1 hF) ?_
  rintro e2 w2 ⟨v2, rfl, hg2, ⟨U, hUl, hUv, hQ⟩, hs2⟩
  have hb2 := hb1.moved hg2 (by omega)
  have hz2 := hg2.size
  obtain ⟨aU, cU, rfl, hUm⟩ := hQ.shape
  have HU := Lib.hid (And.intro hUl (And.intro hUv (And.intro hQ hs2))); clear hUv hQ hs2
  have HG := Lib.hid hg2; clear hg2 b0 b1 b2 b3 b4
  go_wp2_with fail
  refine Calls.mono (l01Next_ok B0 w2 sb 30 HU.out.2.2.2) ?_
  rintro e3 w3 ⟨v3, rfl, hg3, x, rfl, _, hx1, hs3⟩
  have hb3 := hb2.moved hg3 (by omega)
  have hz3 := hg3.size
  have hQ3 : ShQ (fun k => k < w1.heap.size) w1.heap.size w3 (.slice aU U.length cU) U := HU.out.2.2.1.kept hg3.size (fun j hj hc => hg3.block j hj (fun e => by
   have := Option.some.inj e
   rcases hc with hc | hc
   ·have := (HU.out.2.2.1.lt j hc).1; omega
   ·omega)) (fun _ _ h => h)
  have hP3 : PresV F w3 (.agg #[.slice ao P.orders.length co, .slice ap P.powers.length cp, .slice ac P.conj.length cc]) P := by
   obtain ⟨_, _, _, e, h⟩ := H1.out.2.1
   exact ⟨_, _, _, e, h.mono (frame_of (grown_trans HG.out hg3) (fun k hk _ => ⟨hk, fun e => hF k hk (Option.some.inj e).symm⟩))⟩
  have hgw3 := grown_trans H1.out.2.2 (grown_trans HG.out hg3)
  have HU2 := Lib.hid (And.intro HU.out.2.1 (And.intro hQ3 (And.intro hs3 (And.intro hP3 hgw3)))); clear hQ3 hs3 hP3 hgw3 HU HG H1 hg3 hb2 hb1 hx1
  obtain ⟨b0, b1, b2, b3, b4⟩ := id hb3
  have hdone : RowsDr w.heap.size w3 (.slice aU U.length cU) := by
   obtain ⟨U', h1, h2, h3⟩ := shq_dr (by omega) (fun x hx => by have := HU2.out.1 x hx; omega) HU2.out.2.1
   exact ⟨U', h1, h2, Rows2.sub h3 (fun k hk _ => by have hk : w1.heap.size ≤ k := hk; show w.heap.size ≤ k; omega)⟩
  have HD := Lib.hid hdone; clear hdone
  by_cases hx0 : x = 0
  ·subst hx0
   go_wp2_with fail
   refine Calls.mono (l07Vectors_ok B0 w3 sb _ P F (by omega) HU2.out.2.2.1 HU2.out.2.2.2.1 hF hn) ?_
   rintro e4 w4 ⟨v4, rfl, hg4, ⟨a4, c4, l4, rfl, hl4, hO4⟩, hs4⟩
   have hz4 := hg4.size
   have hQ4 : ShQ (fun k => k < w1.heap.size) w1.heap.size w4 (.slice aU U.length cU) U := HU2.out.2.1.kept hg4.size (fun j hj hc => hg4.block j hj (fun e => by
    have := Option.some.inj e
    rcases hc with hc | hc
    ·have := (HU2.out.2.1.lt j hc).1; omega
    ·omega)) (fun _ _ h => h)
   have hxI : Ints (fun k => ¬ k < w1.heap.size ∧ (Value.slice aU U.length cU).ownBlock ≠ some k) w4 (.slice a4 l4.length c4) l4 := ints_of_own hO4 (by omega) (fun k hk => by
    have h1 := (hO4.lt k hk).1
    exact ⟨by omega, fun e => by have := (HU2.out.2.1.lt k e).2; omega⟩)
   have hob : ∀ j, (Value.slice aU U.length cU).ownBlock = some j → w1.heap.size ≤ j := fun j hj => (hQ4.lt j hj).1
   have hUU : U.length ≤ 1000000 := by omega
   have hbase : w1.heap.size ≤ w4.heap.size := by omega
   have H4 := Lib.hid (And.intro hl4 (And.intro hs4 (And.intro hg4 (And.intro hob (And.intro hUU hbase))))); clear hl4 hs4 hg4 hO4 hob
   go_wp2_with (first | (at_builtin; refine wp_shq_app rfl _ _ rfl (fun k => k < w1.heap.size) w1.heap.size _ _ U l4 rfl w4 hQ4 rfl hxI rfl H4.out.2.2.2.2.1 H4.out.2.2.2.2.2 ?_; intro v5 w5 hQ5 hg5 hb5) | fail)
   go_ret
   have hg15 := grown_own (grown_trans HU2.out.2.2.2.2 H4.out.2.2.1) hg5 (fun j hj hlt => by have := H4.out.2.2.2.1 j hj; omega)
   refine ⟨_, rfl, hg15, ?_, H4.out.2.1.own hg5 (fun j hj => by have := H4.out.2.2.2.1 j hj; omega)⟩
   obtain ⟨U', h1, h2, h3⟩ := shq_dr (by simp; omega) (fun x hx => by
    rcases List.mem_append.1 hx with h | h
    ·have := HU2.out.1 x h; omega
    ·rw [List.mem_singleton.1 h]; exact H4.out.1) hQ5
   exact ⟨U', h1, h2, Rows2.sub h3 (fun k hk _ => by have hk : w1.heap.size ≤ k := hk; show w.heap.size ≤ k; omega)⟩
  by_cases hx1 : x = 1
  ·subst hx1
   clear hx0
   by_cases hU1 : 1 < U.length
   ·obtain ⟨u0, U1, rfl⟩ : ∃ u U1, U = u :: U1 := by
     cases U with
     | nil => simp at hU1
     | cons u U1 => exact ⟨_, _, rfl⟩
    have hT := HU2.out.2.1.tail
    have hrt := run_tail_rows w3 aU (u0 :: U1).length cU 1 (by omega) (by omega)
    rw [show (1 : Int).toNat = 1 from rfl] at hrt
    generalize subSl (.slice aU (u0 :: U1).length cU) 1 (u0 :: U1).length = vT at hT hrt
    obtain ⟨aT, cT, rfl, _⟩ := hT.shape
    have hi1 : (1 : Int) < ((u0 :: U1).length : Nat) := by omega
    have HT := Lib.hid hT; clear hT
    obtain ⟨m, hm⟩ : ∃ m, m = (u0 :: U1).length := ⟨_, rfl⟩
    rw [← hm] at hrt hi1 hU1 hUl hUm
    rw [← hm]
    have HM := Lib.hid hm; clear hm
    go_wp2_with fail
    go_ret
    refine ⟨_, rfl, HU2.out.2.2.2.2, ?_, HU2.out.2.2.1⟩
    obtain ⟨U', h1, h2, h3⟩ := shq_dr (by have := HM.out; simp at this; omega) (fun x hx => by have := HU2.out.1 x (List.mem_cons_of_mem _ hx); omega) HT.out
    exact ⟨U', h1, h2, Rows2.sub h3 (fun k hk _ => by have hk : w1.heap.size ≤ k := hk; show w.heap.size ≤ k; omega)⟩
   ·go_wp2_with fail
    go_ret
    exact ⟨_, rfl, HU2.out.2.2.2.2, HD.out, HU2.out.2.2.1⟩
  by_cases hx2 : x = 2
  ·subst hx2
   clear hx0 hx1
   by_cases hU0 : 0 < U.length
   ·have hRU := HU2.out.2.1.rows
    have hUv : ∀ x ∈ U, x.length ≤ 1000000 := fun x hx => by have := HU2.out.1 x hx; omega
    have hUU : U.length ≤ 1000000 := by omega
    have HC := Lib.hid (And.intro hRU (And.intro hUv hUU)); clear hRU hUv hUU
    go_wp2_with fail
    refine Calls.mono (l01Own2N_ok w3 _ U Any HC.out.1 HC.out.2.1 HC.out.2.2) ?_
    rintro e4 w4 ⟨v4, rfl, hg4, hO4, g4, c4, rfl⟩
    have hb4 := hb3.ext hg4
    have hz4 := hg4.size
    have hs4 := HU2.out.2.2.1.ext hg4
    have hP4 : PresV F w4 (.agg #[.slice ao P.orders.length co, .slice ap P.powers.length cp, .slice ac P.conj.length cc]) P := by
     obtain ⟨_, _, _, e, h⟩ := HU2.out.2.2.2.1
     exact ⟨_, _, _, e, h.ext hg4⟩
    have H4 := Lib.hid (And.intro hs4 (And.intro hP4 (And.intro hO4 (grown_trans HU2.out.2.2.2.2 (grown_of_ext _ hg4))))); clear hs4 hP4 hO4 hg4 b0 b1 b2 b3 b4 hb3
    obtain ⟨b0, b1, b2, b3, b4⟩ := id hb4
    go_wp2_with fail
    refine Calls.mono (l07Vectors_ok B0 w4 sb _ P F (by omega) H4.out.1 H4.out.2.1 hF hn) ?_
    rintro e5 w5 ⟨v5, rfl, hg5, ⟨a5, c5, l5, rfl, hl5, hO5⟩, hs5⟩
    have hz5 := hg5.size
    obtain ⟨⟨z, hz⟩, hfz, hgB, hgl, hR⟩ := rowsO_put (w' := w5) H4.out.2.2.1 rfl (by omega) (fun x hx => by have := HU2.out.1 x hx; omega) (Nat.le_refl _) (fun k hk hlt => hg5.block k hlt (fun e => by have := Option.some.inj e; omega)) hz5 hl5 hO5 hU0 hz4
    have H5 := Lib.hid (And.intro hg5 (And.intro hs5 hR)); clear hg5 hs5 hR hl5 hO5 hb4 b0 b1 b2 b3 b4
    have hi0 : (0 : Int) < (U.length : Nat) := by omega
    go_wp2_with fail
    go_ret
    have hgs := grown_set1 w5 g4 0 (.slice a5 l5.length c5)
    refine ⟨_, rfl, grown_own (grown_trans H4.out.2.2.2 H5.out.1) hgs (fun j hj hlt => by have := Option.some.inj hj; omega), ?_, H5.out.2.1.own hgs (fun j hj => by have := Option.some.inj hj; omega)⟩
    obtain ⟨U', h1, h2, h3⟩ := H5.out.2.2
    exact ⟨U', h1, h2, Rows2.sub h3 (fun k hk _ => by have hk : w3.heap.size ≤ k := hk; show w.heap.size ≤ k; omega)⟩
   ·go_wp2_with fail
    go_ret
    exact ⟨_, rfl, HU2.out.2.2.2.2, HD.out, HU2.out.2.2.1⟩
  ·have e0 : (x == 0) = false := by simp [hx0]
   have e1 : (x == 1) = false := by simp [hx1]
   have e2 : (x == 2) = false := by simp [hx2]
   clear hx0 hx1 hx2
   go_wp2_with fail
   go_ret
   exact ⟨_, rfl, HU2.out.2.2.2.2, HD.out, HU2.out.2.2.1⟩
end Go.Proofs.YtdcobapnlpeaaaaGreat
namespace Go.Proofs.YtdcobapnlpeaaaaGreat
open Go.RowKit
attribute [local go_sem ↓] Go.wp_at_zero Go.wp_at_succ
theorem RowsDr.shape {B : Nat} {w : World} {v : Value} (h : RowsDr B w v) : ∃ a n c, v = .slice a n c := by
 obtain ⟨U, _, _, h⟩ := h
 obtain ⟨a, c, rfl, _⟩ := Sl.shape h
 exact ⟨_, _, _, rfl⟩
theorem RowsDr.low {B B' : Nat} {w : World} {v : Value} (h : RowsDr B w v) (hB : B' ≤ B) : RowsDr B' w v := by
 obtain ⟨U, h1, h2, h3⟩ := h
 exact ⟨U, h1, h2, Rows2.sub h3 (fun k hk _ => Nat.le_trans hB hk)⟩
theorem RowsDr.kept {B : Nat} {r : Option Nat} {w w' : World} {v : Value} (h : RowsDr B w v) (hg : w.grownBy w' r) (hr : ∀ k, r = some k → k < B) : RowsDr B w' v := by
 obtain ⟨U, h1, h2, h3⟩ := h
 exact ⟨U, h1, h2, Rows2.mono h3 (frame_of hg (fun k hk _ => ⟨hk, fun e => by have := hr k e; have hk : B ≤ k := hk; omega⟩))⟩
def PairA (M B : Nat) (w' : World) (v : Value) : Prop := ∃ vo vp vc rv P, v = .tuple #[.agg #[vo, vp, vc], rv] ∧ P.orders.length ≤ M ∧ Pres3 (From B) w' vo vp vc P ∧ RowsDr B w' rv
def TripA (M B : Nat) (w' : World) (v : Value) : Prop := ∃ vo vp vc rv sv P, v = .tuple #[.agg #[vo, vp, vc], rv, sv] ∧ P.orders.length ≤ M ∧ Pres3 (From B) w' vo vp vc P ∧ RowsDr B w' rv ∧ RowsDr B w' sv
theorem pair_ret {w wX : World} {sb B0 M B : Nat} {x y z rv : Value} {Q : Pr} (hgw : w.grownBy wX (some sb)) (hB : w.heap.size < B) (hsrc : Src B0 wX sb) (hB0 : B0 ≤ w.heap.size) (hM : Q.orders.length ≤ M) (hP : Pres3 (From B) wX x y z Q) (hr : RowsDr B wX rv) :
  Mut w (some sb) (DrawR B0 sb (PairA M w.heap.size)) (.returned (.tuple #[.agg #[x, y, z], rv])) (((wX.setCell ⟨w.heap.size, 0, none⟩ x).setCell ⟨w.heap.size, 1, none⟩ y).setCell ⟨w.heap.size, 2, none⟩ z) := by
 have hT := grown_set3 wX w.heap.size x y z
 exact ⟨_, rfl, grown_own hgw hT (fun j hj hlt => by cases hj; omega), ⟨x, y, z, rv, Q, rfl, hM, (hP.keptB hT (fun k hk => by cases hk; omega)).low (by omega), (hr.kept hT (fun k hk => by cases hk; omega)).low (by omega)⟩, hsrc.own hT (fun k hk => by cases hk; exact hB0)⟩
set_option maxRecDepth 100000 in
set_option maxHeartbeats 8000000 in
theorem l12Pair_ok (B0 : Nat) (w : World) (sb : Nat) (limit : Int) (hB0 : B0 ≤ w.heap.size) (hs : Src B0 w sb) :
  Calls Tryz.prog 114 #[.pointer (some ⟨sb, 0, none⟩), .int .i64 limit] w (Mut w (some sb) (DrawR B0 sb (PairA 7 w.heap.size))) := by
 have hsb := hs.lt
 have hbB := Box3.made w 28 (.slice none 0 0) (.slice none 0 0) (.slice none 0 0)
 have hg0 : Ext w (w.alloc (.cells #[.slice none 0 0, .slice none 0 0, .slice none 0 0] 28)) := World.grownBy_alloc _ _ _
 have hs0 : (w.alloc (.cells #[.slice none 0 0, .slice none 0 0, .slice none 0 0] 28)).heap.size = w.heap.size + 1 := by simp
 have hsW := Lib.hid (hs.ext hg0); clear hs
 go_enter Tryz.func114, Tryz.ntmps114
 go_wp2_with fail
 generalize w.alloc (.cells #[.slice none 0 0, .slice none 0 0, .slice none 0 0] 28) = w0 at *
 have hs00 : w.heap.size + 1 ≤ w0.heap.size := by omega
 clear hs0
 refine Calls.mono (l07Draw_ok B0 w0 sb limit (by omega) hsW.out) ?_
 rintro e1 w1 ⟨v1, rfl, hg1, ⟨vo, vp, vc, Q, rfl, hQl, hQ⟩, hs1⟩
 obtain ⟨a1, n1, c1, hy1⟩ : ∃ a n c, vo = .slice a n c := by obtain ⟨a, c, e, _⟩ := hQ.o.shape; exact ⟨_, _, _, e⟩
 obtain ⟨a2, n2, c2, hy2⟩ : ∃ a n c, vp = .slice a n c := by obtain ⟨a, c, e, _⟩ := Sl.shape hQ.p; exact ⟨_, _, _, e⟩
 obtain ⟨a3, n3, c3, hy3⟩ : ∃ a n c, vc = .slice a n c := by obtain ⟨a, c, e, _⟩ := Sl.shape hQ.c; exact ⟨_, _, _, e⟩
 subst hy1 hy2 hy3
 have hgq : Ext w1 (w1.alloc (.cells #[.slice a1 n1 c1, .slice a2 n2 c2, .slice a3 n3 c3] 28)) := World.grownBy_alloc _ _ _
 have hbQ := Box3.made w1 28 (.slice a1 n1 c1) (.slice a2 n2 c2) (.slice a3 n3 c3)
 obtain ⟨pb, hpb⟩ : ∃ pb, pb = w1.heap.size := ⟨_, rfl⟩
 rw [← hpb] at hbQ
 have hs1' := hg1.size
 have hQ2 := hQ.ext hgq
 have hb1 := hbB.moved hg1 (by omega)
 have hb2 := hb1.ext hgq
 have hs2 := hs1.ext hgq
 have hgw2 := grown_trans (grown_of_ext (some sb) hg0) (grown_trans hg1 (grown_of_ext (some sb) hgq))
 have hzq : w1.heap.size ≤ (w1.alloc (.cells #[.slice a1 n1 c1, .slice a2 n2 c2, .slice a3 n3 c3] 28)).heap.size := hgq.size
 have HP := Lib.hid hpb
 have HQ := Lib.hid (And.intro hQ2 (And.intro hs2 (And.intro hgw2 hQl))); clear hQ hQ2 hs2 hs1 hg1 hbB hg0 hsW hb1 hgq hgw2 hQl
 go_wp2_with fail
 rw [← HP.out]
 generalize w1.alloc (.cells #[.slice a1 n1 c1, .slice a2 n2 c2, .slice a3 n3 c3] 28) = w2 at *
 have hpw : w0.heap.size ≤ pb := by omega
 clear hpb HP
 obtain ⟨q0, q1, q2, q3, q4⟩ := id hbQ
 have e0 : ∀ w', NearS w2 sb w.heap.size w' → w'.cell? ⟨pb, 0, none⟩ = some (.slice a1 n1 c1) := fun w' h => h.cell q1 (by simp; omega) (by simp; omega)
 have e1 : ∀ w', NearS w2 sb w.heap.size w' → w'.cell? ⟨pb, 1, none⟩ = some (.slice a2 n2 c2) := fun w' h => h.cell q2 (by simp; omega) (by simp; omega)
 have e2 : ∀ w', NearS w2 sb w.heap.size w' → w'.cell? ⟨pb, 2, none⟩ = some (.slice a3 n3 c3) := fun w' h => h.cell q3 (by simp; omega) (by simp; omega)
 clear q0 q1 q2 q3 q4 hbQ
 go_region_held3 (fun w' => NearS w2 sb w.heap.size w') (first | exact NearS.ext (grown_drew _ _) | exact NearS.of (by assumption) | exact NearS.two hg3 (grown_set3 _ _ _ _ _) | assumption)
  (first
   | (go_at_call 138; refine Calls.mono (l12Draw_ok B0 w2.drew sb _ Q _ (by have := (grown_drew w2 none).size; omega) (HQ.out.2.1.ext (grown_drew _ _)) ⟨_, _, _, rfl, HQ.out.1.ext (grown_drew _ _)⟩ (fun k hk e => by have hk : w0.heap.size ≤ k := hk; omega) (by have := HQ.out.2.2.2; omega)) ?_; rintro e3 w3 ⟨rv, rfl, hg3a, hR, hs3⟩; have hg3 : w2.grownBy w3 (some sb) := grown_trans (grown_of_ext (some sb) (grown_drew _ _)) hg3a; obtain ⟨sa, sn, sc, rfl⟩ := hR.shape; have hb3 := hb2.moved hg3 (by omega); obtain ⟨b0, b1, b2, b3, b4⟩ := id hb3))
 have hdz := (grown_drew w2 none).size
 have hZ := hb3.all (.slice a1 n1 c1) (.slice a2 n2 c2) (.slice a3 n3 c3)
 obtain ⟨-, z0, z1, z2, -⟩ := id hZ
 have hP3 := HQ.out.1.keptB hg3 (fun k hk => by have := Option.some.inj hk; omega)
 have HF := Lib.hid (And.intro (grown_trans HQ.out.2.2.1 hg3) (And.intro hR (And.intro hs3 (And.intro hP3 HQ.out.2.2.2)))); clear hR hs3 hP3 HQ hg3 hg3a hb2 hb3 hZ e0 e1 e2
 go_wp2_with fail
 refine bodyPost_ret (v := .tuple #[.agg #[.slice a1 n1 c1, .slice a2 n2 c2, .slice a3 n3 c3], .slice sa sn sc]) (by simp [results, Tryz.results114, go_sem, z0, z1, z2]) rfl ?_
 exact pair_ret HF.out.1 (B := w0.heap.size) (by omega) HF.out.2.2.1 hB0 HF.out.2.2.2.2 HF.out.2.2.2.1 (HF.out.2.1.low (by omega))
end Go.Proofs.YtdcobapnlpeaaaaGreat
namespace Go.Proofs.YtdcobapnlpeaaaaGreat
open Go.Proofs Go.Shelf Go.RowKit Go.Lib Go.Sort
def Tryz.sortRows_ren : Go.Shelf.Ren := ⟨fun | 6 => 247 | 15 => 297 | 14 => 296 | 28 => 332 | 29 => 333 | 20 => 324 | 21 => 325 | 22 => 326 | 23 => 327 | 24 => 328 | 25 => 329 | 26 => 330 | 27 => 331 | 46 => 351 | 47 => 352 | 48 => 353 | 49 => 354 | 50 => 355 | 57 => 367 | n => n, fun | 22 => 25 | 24 => 24 | 25 => 195 | 3 => 3 | 39 => 139 | 0 => 0 | 53 => 266 | 55 => 62 | 4 => 4 | 46 => 260 | 45 => 259 | 50 => 193 | 5 => 5 | 9 => 9 | 66 => 281 | 70 => 285 | 76 => 296 | 77 => 297 | n => n, fun | n => n⟩
theorem Tryz.sortRows : Go.Proofs.SlLaysF.n6 Tryz.prog Tryz.sortRows_ren := {
  mixed := by kernel_rfl
  f6 := ⟨Tryz.f247.name, by decide, Tryz.func247.trans (congrArg some (by kernel_rfl))⟩
  f14 := ⟨Tryz.f296.name, by decide, Tryz.func296.trans (congrArg some (by kernel_rfl))⟩
  f15 := Tryz.func297.trans (congrArg some (by kernel_rfl))
  f20 := ⟨Tryz.f324.name, by decide, Tryz.func324.trans (congrArg some (by kernel_rfl))⟩
  f21 := ⟨Tryz.f325.name, by decide, Tryz.func325.trans (congrArg some (by kernel_rfl))⟩
  f22 := ⟨Tryz.f326.name, by decide, Tryz.func326.trans (congrArg some (by kernel_rfl))⟩
  f23 := ⟨Tryz.f327.name, by decide, Tryz.func327.trans (congrArg some (by kernel_rfl))⟩
  f24 := ⟨Tryz.f328.name, by decide, Tryz.func328.trans (congrArg some (by kernel_rfl))⟩
  f25 := ⟨Tryz.f329.name, by decide, Tryz.func329.trans (congrArg some (by kernel_rfl))⟩
  f26 := ⟨Tryz.f330.name, by decide, Tryz.func330.trans (congrArg some (by kernel_rfl))⟩
  f27 := ⟨Tryz.f331.name, by decide, Tryz.func331.trans (congrArg some (by kernel_rfl))⟩
  f28 := Tryz.func332.trans (congrArg some (by kernel_rfl))
  f29 := Tryz.func333.trans (congrArg some (by kernel_rfl))
  f46 := ⟨Tryz.f351.name, by decide, Tryz.func351.trans (congrArg some (by kernel_rfl))⟩
  f47 := Tryz.func352.trans (congrArg some (by kernel_rfl))
  f48 := Tryz.func353.trans (congrArg some (by kernel_rfl))
  f49 := ⟨Tryz.f354.name, by decide, Tryz.func354.trans (congrArg some (by kernel_rfl))⟩
  f50 := ⟨Tryz.f355.name, by decide, Tryz.func355.trans (congrArg some (by kernel_rfl))⟩
  f57 := ⟨Tryz.f367.name, by decide, Tryz.func367.trans (congrArg some (by kernel_rfl))⟩
  t0 := Tryz.underlying0
  a0 := Tryz.isAgg0
  z0 := Tryz.sizeOf0
  v0 := Tryz.zeroValue0
  t3 := Tryz.underlying3
  a3 := Tryz.isAgg3
  z3 := Tryz.sizeOf3
  v3 := Tryz.zeroValue3
  t4 := Tryz.underlying4
  a4 := Tryz.isAgg4
  z4 := Tryz.sizeOf4
  v4 := Tryz.zeroValue4
  t5 := Tryz.underlying5
  a5 := Tryz.isAgg5
  z5 := Tryz.sizeOf5
  v5 := Tryz.zeroValue5
  t9 := Tryz.underlying9
  a9 := Tryz.isAgg9
  z9 := Tryz.sizeOf9
  v9 := Tryz.zeroValue9
  t22 := Tryz.underlying25
  a22 := Tryz.isAgg25
  z22 := Tryz.sizeOf25
  v22 := Tryz.zeroValue25
  a24 := Tryz.isAgg24
  z24 := Tryz.sizeOf24
  t25 := Tryz.underlying195
  a25 := Tryz.isAgg195
  z25 := Tryz.sizeOf195
  v25 := Tryz.zeroValue195
  t39 := Tryz.underlying139
  a39 := Tryz.isAgg139
  z39 := Tryz.sizeOf139
  v39 := Tryz.zeroValue139
  t45 := Tryz.underlying259
  a45 := Tryz.isAgg259
  z45 := Tryz.sizeOf259
  v45 := Tryz.zeroValue259
  t46 := Tryz.underlying260
  a46 := Tryz.isAgg260
  z46 := Tryz.sizeOf260
  v46 := Tryz.zeroValue260
  t50 := Tryz.underlying193
  a50 := Tryz.isAgg193
  z50 := Tryz.sizeOf193
  v50 := Tryz.zeroValue193
  t53 := Tryz.underlying266
  a53 := Tryz.isAgg266
  z53 := Tryz.sizeOf266
  v53 := Tryz.zeroValue266
  t55 := Tryz.underlying62
  a55 := Tryz.isAgg62
  z55 := Tryz.sizeOf62
  v55 := Tryz.zeroValue62
  t66 := Tryz.underlying281
  a66 := Tryz.isAgg281
  z66 := Tryz.sizeOf281
  v66 := Tryz.zeroValue281
  t70 := Tryz.underlying285
  a70 := Tryz.isAgg285
  z70 := Tryz.sizeOf285
  v70 := Tryz.zeroValue285
  t76 := Tryz.underlying296
  a76 := Tryz.isAgg296
  z76 := Tryz.sizeOf296
  v76 := Tryz.zeroValue296
  t77 := Tryz.underlying297
  a77 := Tryz.isAgg297
  z77 := Tryz.sizeOf297
  v77 := Tryz.zeroValue297 }
end Go.Proofs.YtdcobapnlpeaaaaGreat
namespace Go.Proofs.YtdcobapnlpeaaaaGreat
open Go.RowKit
set_option maxRecDepth 100000 in
set_option maxHeartbeats 2000000 in
theorem l01Same2_ok (v1 v2 : Value) (l1 l2 : List (List Int)) (w : World) (S1 S2 : Nat → Prop) (h1 : Rows2 S1 w v1 l1) (h2 : Rows2 S2 w v2 l2) :
  Calls Tryz.prog 288 #[v1, v2] w (Ret w fun _ v => v = .bool (eqB l1 l2)) := by
 obtain ⟨a, cap, rfl, _, _⟩ := Sl.shape h1
 obtain ⟨a2, cap2, rfl, _, _⟩ := Sl.shape h2
 by_cases hl : l1.length = l2.length
 ·have hd : ((l1.length : Int) != (l2.length : Int)) = false := by simp [hl]
  have hl1 : l1.length ≤ l2.length ∧ l2.length ≤ l1.length := by omega
  have HL := Lib.hid hl; clear hl
  go_enter Tryz.func288, Tryz.ntmps288
  go_wp2
  go_loopw [5] (fun i wr => ∃ k : Nat, i = .int .i64 k ∧ k ≤ l1.length ∧ Ext w wr ∧ ∀ i, i < k → gt l1 i = gt l2 i) (fun i _ => l1.length - (intOf i).toNat)
  case atStart => exact ⟨0, rfl, by omega, Ext.refl _, fun i hi => by omega⟩
  case round =>
   obtain ⟨k, rfl, hk, hg, hz⟩ := hrel
   have HZ := Lib.hid hz; clear hz
   by_cases hlt : k < l1.length
   ·obtain ⟨b, off, x1, c1, rfl, _, _, hc, hi1⟩ := Rows2.at (Rows2.ext h1 hg) k hlt
    obtain ⟨b2, off2, x2, c2, rfl, _, _, hc2, hi2⟩ := Rows2.at (Rows2.ext h2 hg) k (by omega)
    have e1 : ∀ w', Ext wr w' → w'.cell? ⟨b, off + k, none⟩ = some (.slice x1 (gt l1 k).length c1) := fun w' h => h.cell hc (by simp)
    have e2 : ∀ w', Ext wr w' → w'.cell? ⟨b2, off2 + k, none⟩ = some (.slice x2 (gt l2 k).length c2) := fun w' h => h.cell hc2 (by simp)
    clear hc hc2
    have hlt2 : k < l2.length := by omega
    go_wp2
    cases hx : eqB (gt l1 k) (gt l2 k) with
    | true =>
     have hx2 := Lib.hid hx
     go_region_held3 (fun w' => Ext wr w') (first | exact grown_drew _ _ | assumption)
      (first
       | (go_at_call 153; refine Calls.mono (Calls.rel (w0 := wr) (by assumption) (l01Same_ok _ _ _ _ _ Any Any (Ints.sub (Ints.ext hi1 (by assumption)) (fun _ _ _ => trivial)) (Ints.sub (Ints.ext hi2 (by assumption)) (fun _ _ _ => trivial)))) ?_; rintro eA wA ⟨vA, rfl, hgA, hsA, rfl⟩))
     clear e1 e2
     go_wp2
     go_roundw
     case rel => exact ⟨k + 1, by go_num, by omega, grown_trans hg hgA, fun i hi => by
      rcases Nat.lt_or_ge i k with h1 | h1
      ·exact HZ.out i h1
      ·have : i = k := by omega
       rw [this]; exact eqB_true.1 hx2.out⟩
     case measure => simp [intOf]; omega
    | false =>
     have hx2 := Lib.hid hx
     go_region_held3 (fun w' => Ext wr w') (first | exact grown_drew _ _ | assumption)
      (first
       | (go_at_call 153; refine Calls.mono (Calls.rel (w0 := wr) (by assumption) (l01Same_ok _ _ _ _ _ Any Any (Ints.sub (Ints.ext hi1 (by assumption)) (fun _ _ _ => trivial)) (Ints.sub (Ints.ext hi2 (by assumption)) (fun _ _ _ => trivial)))) ?_; rintro eA wA ⟨vA, rfl, hgA, hsA, rfl⟩))
     clear e1 e2
     go_wp2
     go_ret
     exact ⟨_, rfl, grown_trans hg hgA, by rw [eqB_false_at (hx := eqB_false.1 hx2.out)]; rfl⟩
   ·go_wp2
    go_ret
    exact ⟨_, rfl, hg, by rw [eqB_true.2 (ext_gt HL.out (fun i hi => HZ.out i (by omega)))]; rfl⟩
 ·have hd : ((l1.length : Int) != (l2.length : Int)) = true := by simp; omega
  have HL := Lib.hid hl; clear hl
  go_enter Tryz.func288, Tryz.ntmps288
  go_wp2
  go_ret
  exact ⟨_, rfl, Ext.refl _, by rw [eqB_false.2 (fun e => HL.out (by rw [e]))]; rfl⟩
theorem subB_iff {P : Pr} (G : Grp P) (u : List (List Int)) : SubB P u ↔ u.length ≤ P.orders.length ∧ (∀ x ∈ u, Vec P.orders x) ∧ cseq P (genP P (fun x => x ∈ u)) = u :=
 ⟨fun h => ⟨G.sub_len h, h.1, h.2.symm⟩, fun h => ⟨h.2.1, h.2.2.symm⟩⟩
set_option maxRecDepth 100000 in
set_option maxHeartbeats 4000000 in
theorem l12Is_ok (P : Pr) (G : Grp P) (w : World) (pv uv : Value) (U : List (List Int)) (Sp Su : Nat → Prop) (hpv : PresV Sp w pv P) (hu : Rows2 Su w uv U) :
  Calls Tryz.prog 223 #[pv, uv] w (Ret w fun _ v => ∃ r : Bool, v = .bool r ∧ (r = true ↔ SubB P U)) := by
 have hP := G.v
 have hn6 := hP.n6
 obtain ⟨vo, vp, vc, rfl, h3⟩ := hpv
 have hp0 := PresP.box h3 28
 have hg0 : Ext w (w.alloc (.cells #[vo, vp, vc] 28)) := World.grownBy_alloc _ _ _
 obtain ⟨vo6, vp6, vc6, _, _, hc0, hc1, hc2, h36⟩ := hp0.at
 simp only [Nat.zero_add] at hc1 hc2
 obtain ⟨ao, capo, rfl, _, _⟩ := h36.o.shape
 have hu0 := Rows2.ext hu hg0
 obtain ⟨au, capu, rfl, _, _⟩ := Sl.shape hu
 clear hp0 hu
 have hiff := subB_iff G U
 go_enter Tryz.func223, Tryz.ntmps223
 by_cases hl : U.length ≤ P.orders.length
 ·have hle : (U.length : Int) ≤ P.orders.length := by omega
  have hE := l10Elements_ok P hP (w.alloc (.cells #[vo, vp, vc] 28)) _ _ U Any Su ⟨_, _, _, rfl, h36⟩ hu0
  go_wp2_with fail
  generalize hw0 : w.alloc (.cells #[vo, vp, vc] 28) = w0 at *
  clear hw0
  refine Calls.mono hE ?_
  rintro e1 w1 ⟨v1, rfl, hg1, r1, rfl, hr1⟩
  clear hE
  have hb0 := hg1.cell hc0 (by simp)
  have hb1 := hg1.cell hc1 (by simp)
  have hb2 := hg1.cell hc2 (by simp)
  cases r1 with
  | false =>
   have hno : ¬ SubB P U := fun h => by have := hr1.2 (hiff.1 h).2.1; cases this
   have HN := Lib.hid hno; clear hno hiff hr1 hc0 hc1 hc2
   go_wp2
   go_ret
   exact ⟨_, rfl, grown_trans hg0 hg1, false, rfl, by simp only [Bool.false_eq_true, false_iff]; exact HN.out⟩
  | true =>
   have hV := hr1.1 rfl
   have HI := Lib.hid (And.intro hiff hV); clear hiff hV hr1 hc0 hc1 hc2
   go_wp2_with fail
   clear hb0 hb1 hb2
   refine Calls.mono (l12Close_ok P G w1 _ _ U Any Su ⟨_, _, _, rfl, Pres3.ext h36 hg1⟩ (Rows2.ext hu0 hg1) HI.out.2 (by omega)) ?_
   rintro e2 w2 ⟨v2, rfl, hg2, hR2⟩
   obtain ⟨a2, cap2, rfl, _, _⟩ := Sl.shape hR2
   go_wp2_with fail
   refine Calls.mono (l01Same2_ok _ _ _ U w2 _ _ hR2 (Rows2.ext (Rows2.ext hu0 hg1) hg2)) ?_
   rintro e3 w3 ⟨v3, rfl, hg3, rfl⟩
   go_wp2
   go_ret
   exact ⟨_, rfl, grown_trans hg0 (grown_trans hg1 (grown_trans hg2 hg3)), _, rfl, by
    rw [eqB_true, HI.out.1]
    exact ⟨fun h => ⟨hl, HI.out.2, h⟩, fun h => h.2.2⟩⟩
 ·have hle : ¬ (U.length : Int) ≤ P.orders.length := by omega
  have hno : ¬ SubB P U := fun h => hl (hiff.1 h).1
  have HN := Lib.hid hno; clear hno hiff hl
  go_wp2
  go_ret
  exact ⟨_, rfl, hg0, .inl ⟨rfl, HN.out⟩⟩
set_option maxRecDepth 100000 in
set_option maxHeartbeats 2000000 in
theorem sIsSubgroup_ok (P : Pr) (w : World) (pv uv : Value) (U : List (List Int)) (Sp Su : Nat → Prop) (hpv : PresV Sp w pv P) (hu : Rows2 Su w uv U) :
  Calls Tryz.prog 118 #[pv, uv] w (Ret w fun _ v => ∃ r : Bool, v = .bool r ∧ (r = true ↔ rconsB P = true ∧ SubB P U)) := by
 obtain ⟨vo, vp, vc, rfl, h3⟩ := hpv
 have hp0 := PresP.box h3 28
 have hg0 : Ext w (w.alloc (.cells #[vo, vp, vc] 28)) := World.grownBy_alloc _ _ _
 obtain ⟨vo6, vp6, vc6, _, _, hc0, hc1, hc2, h36⟩ := hp0.at
 simp only [Nat.zero_add] at hc1 hc2
 have hu0 := Rows2.ext hu hg0
 obtain ⟨au, capu, rfl, _, _⟩ := Sl.shape hu
 clear hp0 hu
 have hE := l08Group_ok P (w.alloc (.cells #[vo, vp, vc] 28)) _ Any ⟨_, _, _, rfl, h36⟩
 go_enter Tryz.func118, Tryz.ntmps118
 go_wp2_with fail
 generalize hw0 : w.alloc (.cells #[vo, vp, vc] 28) = w0 at *
 clear hw0
 refine Calls.mono hE ?_
 rintro e1 w1 ⟨v1, rfl, hg1, rfl⟩
 clear hE
 have hb0 := hg1.cell hc0 (by simp)
 have hb1 := hg1.cell hc1 (by simp)
 have hb2 := hg1.cell hc2 (by simp)
 clear hc0 hc1 hc2
 cases hr : rconsB P with
 | false =>
  have HR := Lib.hid hr; clear hr
  go_wp2
  go_ret
  exact ⟨_, rfl, grown_trans hg0 hg1, false, rfl, by simp only [Bool.false_eq_true, false_iff]; rintro ⟨h, _⟩; rw [HR.out] at h; exact Bool.noConfusion h⟩
 | true =>
  have G := grp_of_r hr
  have HR := Lib.hid hr; clear hr
  go_wp2_with fail
  clear hb0 hb1 hb2
  refine Calls.mono (l12Is_ok P G w1 _ _ U Any Su ⟨_, _, _, rfl, Pres3.ext h36 hg1⟩ (Rows2.ext hu0 hg1)) ?_
  rintro e2 w2 ⟨v2, rfl, hg2, r2, rfl, hr2⟩
  have HR2 := Lib.hid hr2; clear hr2
  go_wp2
  go_ret
  exact ⟨_, rfl, grown_trans hg0 (grown_trans hg1 hg2), r2, rfl, ⟨fun h => ⟨HR.out, HR2.out.1 h⟩, fun h => HR2.out.2 h.2⟩⟩
set_option maxRecDepth 100000 in
set_option maxHeartbeats 2000000 in
theorem l13Two_ok (P : Pr) (w : World) (pv uv vv : Value) (U V : List (List Int)) (Sp Su Sv : Nat → Prop) (hpv : PresV Sp w pv P) (hu : Rows2 Su w uv U) (hv : Rows2 Sv w vv V) :
  Calls Tryz.prog 130 #[pv, uv, vv] w (Ret w fun _ v => ∃ r : Bool, v = .bool r ∧ (r = true ↔ rconsB P = true ∧ SubB P U ∧ SubB P V)) := by
 obtain ⟨vo, vp, vc, rfl, h3⟩ := hpv
 have hp0 := PresP.box h3 28
 have hg0 : Ext w (w.alloc (.cells #[vo, vp, vc] 28)) := World.grownBy_alloc _ _ _
 obtain ⟨vo6, vp6, vc6, _, _, hc0, hc1, hc2, h36⟩ := hp0.at
 simp only [Nat.zero_add] at hc1 hc2
 have hu0 := Rows2.ext hu hg0
 have hv0 := Rows2.ext hv hg0
 obtain ⟨au, capu, rfl, _, _⟩ := Sl.shape hu
 obtain ⟨av, capv, rfl, _, _⟩ := Sl.shape hv
 clear hp0 hu hv
 have hE := sIsSubgroup_ok P (w.alloc (.cells #[vo, vp, vc] 28)) _ _ U Any Su ⟨_, _, _, rfl, h36⟩ hu0
 go_enter Tryz.func130, Tryz.ntmps130
 go_wp2_with fail
 generalize hw0 : w.alloc (.cells #[vo, vp, vc] 28) = w0 at *
 clear hw0
 refine Calls.mono hE ?_
 rintro e1 w1 ⟨v1, rfl, hg1, r1, rfl, hr1⟩
 clear hE
 have hb0 := hg1.cell hc0 (by simp)
 have hb1 := hg1.cell hc1 (by simp)
 have hb2 := hg1.cell hc2 (by simp)
 clear hc0 hc1 hc2
 cases r1 with
 | false =>
  have HR := Lib.hid hr1; clear hr1
  go_wp2
  go_ret
  exact ⟨_, rfl, grown_trans hg0 hg1, false, rfl, by
   simp only [Bool.false_eq_true, false_iff]
   rintro ⟨h, h2, _⟩
   have := HR.out.2 ⟨h, h2⟩; cases this⟩
 | true =>
  obtain ⟨hr, hS⟩ := hr1.1 rfl
  have G := grp_of_r hr
  have HR := Lib.hid (And.intro hr hS); clear hr hS hr1
  go_wp2_with fail
  clear hb0 hb1 hb2
  refine Calls.mono (l12Is_ok P G w1 _ _ V Any Sv ⟨_, _, _, rfl, Pres3.ext h36 hg1⟩ (Rows2.ext hv0 hg1)) ?_
  rintro e2 w2 ⟨v2, rfl, hg2, r2, rfl, hr2⟩
  have HR2 := Lib.hid hr2; clear hr2
  go_wp2
  go_ret
  exact ⟨_, rfl, grown_trans hg0 (grown_trans hg1 hg2), r2, rfl, by rw [HR2.out]; exact ⟨fun h => ⟨HR.out.1, HR.out.2, h⟩, fun h => h.2.2⟩⟩
end Go.Proofs.YtdcobapnlpeaaaaGreat
namespace Go.Proofs.YtdcobapnlpeaaaaGreat
open Go.RowKit
theorem rows3Two {S S' : Nat → Prop} {w : World} {u v : Value} {U V : List (List Int)} (h : Rows2 S w u U) (k : Rows2 S' w v V) : Rows3 Any (w.alloc (.cells #[u, v] 25)) (.slice (some ⟨w.heap.size, 0, none⟩) 2 2) [U, V] := by
 refine ⟨_, 2, rfl, ⟨by simp, by simp, fun h => by cases h⟩, fun i hi => ?_⟩
 rcases (show i = 0 ∨ i = 1 by simp at hi; omega) with rfl | rfl
 ·refine ⟨w.heap.size, 0, u, rfl, trivial, by simp, by rw [World.cell?_alloc_at _ _ _ _ rfl]; rfl, ?_⟩
  exact Rows2.sub (Rows2.ext h (World.grownBy_alloc _ _ _)) (fun _ _ _ => trivial)
 ·refine ⟨w.heap.size, 0, v, rfl, trivial, by simp, by rw [World.cell?_alloc_at _ _ _ _ rfl]; rfl, ?_⟩
  exact Rows2.sub (Rows2.ext k (World.grownBy_alloc _ _ _)) (fun _ _ _ => trivial)
end Go.Proofs.YtdcobapnlpeaaaaGreat
namespace Go.Proofs.YtdcobapnlpeaaaaGreat
open Go.RowKit
end Go.Proofs.YtdcobapnlpeaaaaGreat
namespace Go.Proofs.YtdcobapnlpeaaaaGreat
open Go.RowKit
set_option maxRecDepth 100000 in
set_option maxHeartbeats 4000000 in
theorem l13ConjF_ok (P : Pr) (G : Grp P) (w : World) (pv uv xv : Value) (L : List (List Int)) (X : List Int) (Sp Su Sx : Nat → Prop) (hpv : PresV Sp w pv P) (hu : Rows2 Su w uv L) (hL : ∀ y ∈ L, Vec P.orders y) (hlen : L.length ≤ 10000) (hx : Ints Sx w xv X) (hX : Vec P.orders X) :
  Calls Tryz.prog 136 #[pv, uv, xv] w (Ret w fun w' v => Rows2 (From w.heap.size) w' v (cseq P (genP P (fun z => z ∈ conjL P L X)))) := by
 have hP := G.v
 have hn6 := hP.n6
 obtain ⟨vo, vp, vc, rfl, h3⟩ := hpv
 have hp0 := PresP.box h3 28
 have hg0 : Ext w (w.alloc (.cells #[vo, vp, vc] 28)) := World.grownBy_alloc _ _ _
 have hs0 : (w.alloc (.cells #[vo, vp, vc] 28)).heap.size = w.heap.size + 1 := by simp
 have hu0 := Rows2.ext hu hg0
 have hx0 := hx.ext hg0
 obtain ⟨au, capu, rfl, _, _⟩ := Sl.shape hu
 obtain ⟨ax, capx, rfl, _, _⟩ := hx.shape
 obtain ⟨vo6, vp6, vc6, _, _, hc0, hc1, hc2, h36⟩ := hp0.at
 simp only [Nat.zero_add] at hc1 hc2
 have hcl : (conjL P L X).length = L.length := by unfold conjL; rw [List.length_map]
 have hCV : ∀ z ∈ conjL P L X, Vec P.orders z := fun z hz => by
  unfold conjL at hz
  obtain ⟨y, hy, rfl⟩ := List.mem_map.1 hz
  exact G.conjV (hL y hy) hX
 have HL := Lib.hid (And.intro hL (And.intro hX (And.intro hcl hCV))); clear hL hX hcl hCV hp0 hu hx
 go_enter Tryz.func136, Tryz.ntmps136
 go_wp2
 have HS := Lib.hid hs0; clear hs0
 generalize hw0 : w.alloc (.cells #[vo, vp, vc] 28) = w0 at *
 clear hw0
 have f1 : ∀ w', Ext w0 w' → w'.cell? ⟨w.heap.size, 0, none⟩ = some vo6 := fun w' h => h.cell hc0 (by simp)
 have f2 : ∀ w', Ext w0 w' → w'.cell? ⟨w.heap.size, 1, none⟩ = some vp6 := fun w' h => h.cell hc1 (by simp)
 have f3 : ∀ w', Ext w0 w' → w'.cell? ⟨w.heap.size, 2, none⟩ = some vc6 := fun w' h => h.cell hc2 (by simp)
 have HF := Lib.hid (And.intro f1 (And.intro f2 f3)); clear f1 f2 f3 hc0 hc1 hc2
 go_loopw [7, 8] (fun ov iv wr => ∃ (k : Nat) (v4 : Value), v4 = ov ∧ iv = .int .i64 k ∧ k ≤ L.length ∧ Ext w0 wr ∧ ShQ (fun _ => False) w0.heap.size wr v4 ((conjL P L X).take k)) (fun _ iv _ => L.length - (intOf iv).toNat)
 case atStart => exact ⟨0, _, rfl, rfl, by omega, World.grownBy_alloc _ _ _, by rw [← HS.out]; exact ShQ.lit _ _ _ (Nat.le_refl _)⟩
 case round =>
  obtain ⟨k, v4, rfl, rfl, hk, hg, hQ⟩ := hrel
  by_cases hlt : k < L.length
  ·have hlt' : (k : Int) < L.length := by omega
   obtain ⟨b, off, a2, cap2, rfl, _, _, hc, hr⟩ := Rows2.at hu0 k hlt
   have hyV := HL.out.1 _ (gtMem hlt)
   have hstep : (conjL P L X).take (k + 1) = (conjL P L X).take k ++ [rConj P (gt L k) X] := by
    rw [take_succ_gt _ k (by rw [HL.out.2.2.1]; exact hlt)]
    unfold conjL
    rw [gt_map _ _ _ hlt]
   have htl : ((conjL P L X).take k).length ≤ 1000000 := by rw [List.length_take]; have := HL.out.2.2.1; omega
   have hcV := G.conjV hyV HL.out.2.1
   have hqlt : ∀ j, v4.ownBlock = some j → w0.heap.size ≤ j := fun j hj => (hQ.lt j hj).1
   have HST := Lib.hid (And.intro hstep (And.intro hyV (And.intro htl hcV))); clear hstep hyV htl hcV
   obtain ⟨f1, f2, f3⟩ := HF.out
   have f4 : ∀ w', Ext w0 w' → w'.cell? ⟨b, off + k, none⟩ = some (.slice a2 (gt L k).length cap2) := fun w' h => h.cell hc (by simp)
   clear hc
   go_wp2
   go_region_held3 (fun w' => Ext w0 w') (first | exact grown_trans hg (grown_drew _ _) | assumption | exact grown_trans hgC (World.grownBy_alloc _ _ _))
    (first
     | (go_at_call 150; refine Calls.mono (Calls.rel2 (w0 := w0) (by assumption) (l10Conj_ok P hP _ _ _ _ (gt L k) X Any Any Any ⟨_, _, _, rfl, Pres3.ext h36 (by assumption)⟩ (Ints.sub (Ints.ext hr (by assumption)) (fun _ _ _ => trivial)) (Ints.sub (Ints.ext hx0 (by assumption)) (fun _ _ _ => trivial)) HST.out.2.1 HL.out.2.1)) ?_; rintro eC wC ⟨vC, rfl, hgC, hgC2, hsC, hOC⟩; have hgrC : Ext wr wC := grown_trans (grown_drew _ _) hgC2; have hCI : Ints (fun j => ¬ False ∧ v4.ownBlock ≠ some j) wC vC (rConj P (gt L k) X) := ints_of_own hOC (by rw [HST.out.2.2.2.1]; omega) (fun j hj => ⟨id, fun e => by have h1 := (hOC.lt j hj).1; have h2 := (hQ.lt j e).2; have h3 : wr.heap.size ≤ wr.drew.heap.size := (grown_drew wr none).size; omega⟩); obtain ⟨aC, capC, hvC, _, _⟩ := hCI.shape; subst hvC)
     | (refine step_shq_app rfl _ _ rfl (fun _ => False) w0.heap.size v4 _ ((conjL P L X).take k) _ rfl wC (hQ.ext hgrC) rfl hCI rfl HST.out.2.2.1 hgC.size ?_; intro v5 w5 hQ5 hg5 hb5; have hgw5 : Ext w0 w5 := grown_own hgC hg5 (fun j hj hlt => by have := hqlt j hj; omega)))
   clear f1 f2 f3 f4
   rw [← HST.out.1] at hQ5
   go_wp2
   go_roundw
   case rel => exact ⟨k + 1, v5, rfl, by go_num, by omega, hgw5, hQ5⟩
   case measure => simp [intOf]; omega
  ·have hke : k = L.length := by omega
   subst hke
   rw [List.take_of_length_le (by rw [HL.out.2.2.1]; exact Nat.le_refl _)] at hQ
   obtain ⟨f1, f2, f3⟩ := HF.out
   have hb0 := f1 wr hg
   have hb1 := f2 wr hg
   have hb2 := f3 wr hg
   clear f1 f2 f3
   have hQR := hQ.rows
   obtain ⟨aq, capq, hvq, _, _⟩ := Sl.shape hQR
   subst hvq
   go_wp2_with fail
   clear hb0 hb1 hb2
   refine Calls.mono (l12CloseF_ok P G wr _ _ (conjL P L X) Any Any ⟨_, _, _, rfl, Pres3.ext h36 hg⟩ hQR HL.out.2.2.2 (by have := HL.out.2.2.1; omega)) ?_
   rintro eF wF ⟨vF, rfl, hgF, hRF⟩
   go_wp2
   go_ret
   exact ⟨_, rfl, grown_trans hg0 (grown_trans hg hgF), Rows2.sub (ShQ.rowsB hRF (fun _ hk => hk)) (fun k hk _ => by have h1 := Nat.le_of_not_lt hk; have h2 := hg.size; have h3 := hg0.size; show w.heap.size ≤ k; omega)⟩
end Go.Proofs.YtdcobapnlpeaaaaGreat
namespace Go.Proofs.YtdcobapnlpeaaaaGreat
section
variable {P : Pr} (G : Grp P)
include G
theorem Grp.pull_sub {H : List Int → Prop} (S : Sub P H) {g : List Int} (hg : Vec P.orders g) : Sub P (fun y => Vec P.orders y ∧ H (rConj P y g)) :=
 ⟨fun _ h => h.1, ⟨G.oneV, by rw [G.conj_zeros hg]; exact S.one⟩, fun x y hx hy => ⟨G.mulV hx.1 hy.1, by rw [G.conj_hom hx.1 hy.1 hg]; exact S.mul _ _ hx.2 hy.2⟩,
  fun x hx => ⟨G.invV hx.1, by rw [G.conj_inv hx.1 hg]; exact S.inv _ hx.2⟩⟩
theorem Grp.genP_conjL {K : List Int → Prop} (S : Sub P K) {g : List Int} (hg : Vec P.orders g) : genP P (fun z => z ∈ conjL P (cseq P K) g) = cjS P K g := by
 have hf := (G.seq_facts S).2.1
 have hV : ∀ z, z ∈ conjL P (cseq P K) g → Vec P.orders z := fun z hz => by
  unfold conjL at hz
  obtain ⟨y, hy, rfl⟩ := List.mem_map.1 hz
  exact G.conjV (S.vec y (hf y hy)) hg
 have S2 := G.genP_sub (Q := fun z => z ∈ conjL P (cseq P K) g) hV
 refine funext fun x => propext ⟨fun h => h _ (G.cj_sub S hg) (fun z hz => ?_), ?_⟩
 ·unfold conjL at hz
  obtain ⟨y, hy, rfl⟩ := List.mem_map.1 hz
  exact ⟨y, hf y hy, rfl⟩
 ·rintro ⟨y, hy, rfl⟩
  have h1 : genP P (fun z => z ∈ cseq P K) y := by rw [G.genP_cseq S]; exact hy
  exact (h1 _ (G.pull_sub S2 hg) (fun z hz => ⟨S.vec z (hf z hz), genP_mem (List.mem_map.2 ⟨z, hz, rfl⟩)⟩)).2
end
end Go.Proofs.YtdcobapnlpeaaaaGreat
namespace Go.Proofs.YtdcobapnlpeaaaaGreat
def twoOk (P : Pr) (U V : List (List Int)) : Prop := rconsB P = true ∧ SubB P U ∧ SubB P V
end Go.Proofs.YtdcobapnlpeaaaaGreat
namespace Go.Proofs.YtdcobapnlpeaaaaGreat
open Go.RowKit
def oneOk (P : Pr) (U : List (List Int)) : Prop := rconsB P = true ∧ SubB P U
end Go.Proofs.YtdcobapnlpeaaaaGreat
namespace Go.Proofs.YtdcobapnlpeaaaaGreat
open Go.RowKit
theorem Grp.conjL_v {P : Pr} (G : Grp P) {L : List (List Int)} (hL : ∀ y ∈ L, Vec P.orders y) {g : List Int} (hg : Vec P.orders g) : ∀ z ∈ conjL P L g, Vec P.orders z := fun z hz => by
 unfold conjL at hz
 obtain ⟨y, hy, rfl⟩ := List.mem_map.1 hz
 exact G.conjV (hL y hy) hg
end Go.Proofs.YtdcobapnlpeaaaaGreat
