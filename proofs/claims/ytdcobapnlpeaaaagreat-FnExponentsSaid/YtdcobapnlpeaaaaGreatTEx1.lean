/-
  spec.IsPresentation; orders of groups.
  Numbers of elements: impl.numberOf, spec.l10Number, impl.elementAt, spec.l10At, spec.l10One.
  impl.allElements, impl.generators.
  Plain: the steps of sifting on both sides.
  Plain: generated subgroups of sets; intersections.
  Words: impl.abs, normalWord, invertWord, slices.Reverse; spec.l07Word, l06Invert.
  Drawing: spec.l17Draw, DrawPowerSubgroup (printed by gen_drawex.py).
  The library's sort at [][]int64, laid from the shelf.
  Plain: the classes of powers: both sides answer the same.
  impl.isNormal.
  Plain: the elements of a group with a property, as far as they were looked at.
  Orders of elements and residues: impl.orderOfElement, impl.residue; the reference's power: spec.l10Pow.
  Plain: the class number of an element; conjugate elements have conjugate powers.
  Plain: the subgroup of the powers, the subgroup of the elements of an order, the exponent.
  impl.orderOfElement: the least exponent (printed by gen_ordel3.py).
  impl.powersCode, impl.PowerSubgroup, spec.l17Code, spec.PowerSubgroup.
  impl.gcd, impl.GroupExponent, impl.OrderSubgroup (printed by gen_expw.py).
  slices.Grow at rows, laid from the shelf.
  What the program's public subgroup functions answer on subgroups (printed by gen_auxw.py).
  The whole group's sequence; the intersection of a list of subgroups.
  laws.FnExponents answers true (printed by gen_lex.py).
-/
import Derived.Test.YtdcobapnlpeaaaaGreatK9
import Derived.Test.YtdcobapnlpeaaaaGreatK1
import Derived.Test.YtdcobapnlpeaaaaGreatK2
import Derived.Test.YtdcobapnlpeaaaaGreatK3
import Derived.Test.YtdcobapnlpeaaaaGreatK4
import Derived.Test.YtdcobapnlpeaaaaGreatK5
import Derived.Test.YtdcobapnlpeaaaaGreatK6
import Derived.Test.YtdcobapnlpeaaaaGreatK7
import Derived.Test.YtdcobapnlpeaaaaGreatK8
import Derived.Laws.BitsAllLaws
import Derived.Sort.OwnSortedInts
import Derived.Maps.OwnSet
import Derived.Deep.RegionHeld3
import Derived.Maps.StringElems
import Derived.StringKeys
import Derived.Shelf.SlSortCmp.NoneTotal
import Derived.Shelf.Spec.SlicesGrow
namespace Go.Proofs.YtdcobapnlpeaaaaGreat
open Go.RowKit
set_option maxHeartbeats 400000 in
theorem orderOf_ok (w : World) (p : Value) (P : Pr) (S : Nat → Prop) (hP : Valid P) (hp : PresP S w p P) :
  Calls Tryz.prog 110 #[p] w fun e w' => e = .returned (.int .i64 (ordP P)) ∧ w = w' := by
 obtain ⟨pb, po, rfl⟩ := hp.shape
 obtain ⟨ao, capo, hco, hoi⟩ := hp.ordAt
 have hn6 := hP.n6
 go_enter Tryz.func110, Tryz.ntmps110
 go_wp2
 go_loop [3, 11] (fun pr i => ∃ k : Nat, i = .int .i64 k ∧ pr = .int .i64 (prodTo P.orders k) ∧ k ≤ P.orders.length) (fun _ i => P.orders.length - (intOf i).toNat)
 case atStart => exact ⟨0, rfl, rfl, by omega⟩
 case round =>
  obtain ⟨k, rfl, rfl, hk⟩ := hrel
  by_cases hlt : k < P.orders.length
  ·obtain ⟨b, off, rfl, _, _, hc⟩ := Ints.at hoi k hlt
   have h1 := hP.pre (k + 1) hlt
   have h0 := prodTo_pos (l := P.orders) (k + 1) (fun i hi => hP.pos i (by omega))
   have hm0 : 0 ≤ prodTo P.orders k * gt P.orders k := by simp only [prodTo] at h0; omega
   have hm1 : prodTo P.orders k * gt P.orders k ≤ 729 := h1
   clear h0 h1
   go_wp2
   go_round
   case rel => exact ⟨k + 1, by go_num, rfl, by omega⟩
   case measure => simp [intOf]; omega
  ·have hke : k = P.orders.length := by omega
   subst hke
   go_wp2
   go_ret
   exact ⟨rfl, rfl⟩
set_option maxHeartbeats 400000 in
theorem l10Order_ok (w : World) (pv : Value) (P : Pr) (S : Nat → Prop) (hP : Valid P) (hp : PresV S w pv P) :
  Calls Tryz.prog 105 #[pv] w (Ret w fun _ v => v = .int .i64 (ordP P)) := by
 obtain ⟨vo, vp, vc, rfl, h3⟩ := hp
 have hB := PresP.box h3 28
 obtain ⟨ao, capo, hco, hoi⟩ := hB.ordAt
 have hn6 := hP.n6
 go_enter Tryz.func105, Tryz.ntmps105
 go_wp2
 go_loop [3, 4] (fun pr i => ∃ k : Nat, i = .int .i64 k ∧ pr = .int .i64 (prodTo P.orders k) ∧ k ≤ P.orders.length) (fun _ i => P.orders.length - (intOf i).toNat)
 case atStart => exact ⟨0, rfl, rfl, by omega⟩
 case round =>
  obtain ⟨k, rfl, rfl, hk⟩ := hrel
  by_cases hlt : k < P.orders.length
  ·obtain ⟨b, off, rfl, _, _, hc⟩ := Ints.at hoi k hlt
   have h1 := hP.pre (k + 1) hlt
   have h0 := prodTo_pos (l := P.orders) (k + 1) (fun i hi => hP.pos i (by omega))
   have hm0 : 0 ≤ prodTo P.orders k * gt P.orders k := by simp only [prodTo] at h0; omega
   have hm1 : prodTo P.orders k * gt P.orders k ≤ 729 := h1
   clear h0 h1
   go_wp2
   go_round
   case rel => exact ⟨k + 1, by go_num, rfl, by omega⟩
   case measure => simp [intOf]; omega
  ·have hke : k = P.orders.length := by omega
   subst hke
   go_wp2
   go_ret
   exact ⟨_, rfl, World.grownBy_alloc _ _ _, rfl⟩
end Go.Proofs.YtdcobapnlpeaaaaGreat
namespace Go.Proofs.YtdcobapnlpeaaaaGreat
open Go.RowKit
set_option maxHeartbeats 400000 in
theorem numberOf_ok (P : Pr) (hP : Valid P) (w : World) (p x : Value) (X : List Int) (Sp Sx : Nat → Prop) (hp : PresP Sp w p P) (hx : Ints Sx w x X) (hX : Vec P.orders X) :
  Calls Tryz.prog 177 #[p, x] w fun e w' => e = .returned (.int .i64 (num P X)) ∧ w = w' := by
 have hn6 := hP.n6
 have hlX : X.length ≤ P.orders.length ∧ P.orders.length ≤ X.length := by rw [hX.1]; omega
 obtain ⟨pb, po, rfl⟩ := hp.shape
 obtain ⟨ax, capx, rfl, _, _⟩ := hx.shape
 obtain ⟨ao, capo, hco, hoi⟩ := hp.ordAt
 go_enter Tryz.func177, Tryz.ntmps177
 go_wp2
 go_loop [5, 10] (fun nv i => ∃ k : Nat, i = .int .i64 k ∧ nv = .int .i64 (numTo P.orders X k) ∧ k ≤ X.length) (fun _ i => X.length - (intOf i).toNat)
 case atStart => exact ⟨0, rfl, rfl, by omega⟩
 case round =>
  obtain ⟨k, rfl, rfl, hk⟩ := hrel
  by_cases hlt : k < X.length
  ·obtain ⟨b, off, rfl, _, _, hc⟩ := Ints.at hx k hlt
   obtain ⟨b2, off2, rfl, _, _, hc2⟩ := Ints.at hoi k (by omega)
   have h1 := numTo_bd hP hX (k + 1) (by omega)
   have h2 := hP.pre (k + 1) (by omega)
   have h3 := hX.2 k (by omega)
   have h4 := numTo_bd hP hX k (by omega)
   have h7 := hP.ord7 k (by omega)
   have h5 : 0 ≤ numTo P.orders X k * gt P.orders k := Int.mul_nonneg h4.1 (by omega)
   have h6 : numTo P.orders X k * gt P.orders k ≤ 729 := by simp only [numTo] at h1; omega
   have h8 : 0 ≤ gt X k := h3.1
   have h9 : gt X k ≤ 7 := by omega
   clear h1 h2 h3 h4 h7
   go_wp2
   go_round
   case rel => exact ⟨k + 1, by go_num, rfl, by omega⟩
   case measure => simp [intOf]; omega
  ·have hke : k = P.orders.length := by omega
   subst hke
   go_wp2
   go_ret
   exact ⟨rfl, rfl⟩
set_option maxHeartbeats 400000 in
theorem l10One_ok (P : Pr) (hP : Valid P) (w : World) (pv : Value) (Sp : Nat → Prop) (hp : PresV Sp w pv P) :
  Calls Tryz.prog 212 #[pv] w (Ret w fun w' v => Own w.heap.size w' v (zeros P.orders.length)) := by
 obtain ⟨vo, vp, vc, rfl, h3⟩ := hp
 have hn6 := hP.n6
 have hB := PresP.box h3 28
 obtain ⟨ao, capo, hco, hoi⟩ := hB.ordAt
 go_enter Tryz.func212, Tryz.ntmps212
 go_wp2_with (at_make; refine wp_make_ints rfl _ _ rfl (w.heap.size + 1) P.orders.length (w.heap.size + 1) (by simp) _ rfl rfl rfl (by omega) (by simp) ?_; intro w1 ho1 hg1 _)
 go_ret
 exact ⟨_, rfl, grown_trans (World.grownBy_alloc _ _ _) hg1, ho1.weak (by omega)⟩
set_option maxHeartbeats 1000000 in
theorem elementAt_ok (P : Pr) (hP : Valid P) (w : World) (p : Value) (m : Int) (Sp : Nat → Prop) (hp : PresP Sp w p P) (hm : 0 ≤ m) (hm2 : m ≤ 1000000000) :
  Calls Tryz.prog 147 #[p, .int .i64 m] w (Ret w fun w' v => Own w.heap.size w' v (elAt P m)) := by
 have hn6 := hP.n6
 obtain ⟨pb, po, rfl⟩ := hp.shape
 obtain ⟨ao, capo, hco0, hoi⟩ := hp.ordAt
 have hco := hco0
 go_enter Tryz.func147, Tryz.ntmps147
 go_wp2_with (at_make; refine wp_make_ints rfl _ _ rfl w.heap.size P.orders.length w.heap.size rfl _ rfl rfl rfl (by omega) (by simp) ?_; intro w1 ho1 hg1 _)
 clear hco
 have HCO := Lib.hid hco0; clear hco0
 go_loopw [1, 6] (fun mv i wr => ∃ k : Nat, i = .int .i64 ((P.orders.length : Int) - 1 - k) ∧ mv = .int .i64 (elTo P.orders P.orders.length m k).2 ∧ k ≤ P.orders.length ∧ Ext w wr ∧
   Own w.heap.size wr (.slice (some ⟨w.heap.size, 0, none⟩) P.orders.length P.orders.length) (elTo P.orders P.orders.length m k).1) (fun _ i _ => (intOf i + 1).toNat)
 case atStart => exact ⟨0, by simp, rfl, by omega, hg1, ho1⟩
 case round =>
  obtain ⟨k, rfl, rfl, hk, hg, hO⟩ := hrel
  obtain ⟨hv, hm0, hm1⟩ := elTo_inv hP m hm k hk
  by_cases hlt : k < P.orders.length
  ·obtain ⟨b2, off2, rfl, _, _, hc20⟩ := Ints.at hoi (P.orders.length - 1 - k) (by omega)
   have hco := hg.cell HCO.out (by simp)
   have hc2 := hg.cell hc20 (by simp)
   have ho7 := hP.ord7 (P.orders.length - 1 - k) (by omega)
   have hc := hO.cell (P.orders.length - 1 - k) (by rw [hv.1]; omega)
   have hf := hO.frozen (P.orders.length - 1 - k)
   have hsucc : elTo P.orders P.orders.length m (k + 1) = ((elTo P.orders P.orders.length m k).1.set (P.orders.length - 1 - k) ((elTo P.orders P.orders.length m k).2 % gt P.orders (P.orders.length - 1 - k)), (elTo P.orders P.orders.length m k).2 / gt P.orders (P.orders.length - 1 - k)) := rfl
   have HSC := Lib.hid hsucc; clear hsucc
   obtain ⟨hO2, hg2⟩ := hO.store (P.orders.length - 1 - k) ((elTo P.orders P.orders.length m k).2 % gt P.orders (P.orders.length - 1 - k))
   have hgx : Ext w (wr.setCell ⟨w.heap.size, P.orders.length - 1 - k, none⟩ (.int .i64 ((elTo P.orders P.orders.length m k).2 % gt P.orders (P.orders.length - 1 - k)))) := grown_own hg hg2 (fun j hj hlt => by cases hj; omega)
   have hco3 := hgx.cell HCO.out (by simp)
   have hc23 := hgx.cell hc20 (by simp)
   clear hc20
   have hidx : ((P.orders.length : Int) - 1 - k).toNat = P.orders.length - 1 - k := by omega
   generalize hi : P.orders.length - 1 - k = i at *
   generalize (elTo P.orders P.orders.length m k).1 = L at *
   generalize (elTo P.orders P.orders.length m k).2 = M at *
   have ho70 : 2 ≤ gt P.orders i := ho7.1
   have ho71 : gt P.orders i ≤ 7 := ho7.2
   have HI := Lib.hid hi; clear hi ho7
   go_wp2
   go_roundw
   case rel => exact ⟨k + 1, by congr 1; omega, by rw [HSC.out], by omega, hgx, by rw [HSC.out]; exact hO2⟩
   case measure => simp [intOf]; omega
  ·have hke : k = P.orders.length := by omega
   subst hke
   go_wp2
   go_ret
   exact ⟨_, rfl, hg, hO⟩
set_option maxHeartbeats 1000000 in
theorem l10At_ok (P : Pr) (hP : Valid P) (w : World) (pv : Value) (m : Int) (Sp : Nat → Prop) (hpv : PresV Sp w pv P) (hm : 0 ≤ m) (hm2 : m ≤ 1000000000) :
  Calls Tryz.prog 107 #[pv, .int .i64 m] w (Ret w fun w' v => Own w.heap.size w' v (elAt P m)) := by
 have hn6 := hP.n6
 obtain ⟨vo, vp, vc, rfl, h3⟩ := hpv
 have hp := PresP.box h3 28
 have hg0 : Ext w (w.alloc (.cells #[vo, vp, vc] 28)) := World.grownBy_alloc _ _ _
 obtain ⟨vo9, vp9, vc9, _, _, hc0, hc1, hc2, h39⟩ := hp.at
 obtain ⟨ao, capo, hco, hoi⟩ := hp.ordAt
 go_enter Tryz.func107, Tryz.ntmps107
 go_wp2_with fail
 have hs0 : (w.alloc (.cells #[vo, vp, vc] 28)).heap.size = w.heap.size + 1 := by simp
 have HS := Lib.hid hs0; clear hs0
 clear hc0 hc1 hc2
 have HCO := Lib.hid hco; clear hco
 generalize hw0 : w.alloc (.cells #[vo, vp, vc] 28) = w0 at *
 clear hw0
 refine Calls.mono (l10One_ok P hP w0 _ Any ⟨_, _, _, rfl, h39⟩) ?_
 rintro e1 w1 ⟨r, rfl, hg1, ho1⟩
 have hri := ho1.ints (by simp [zeros]; omega)
 obtain ⟨ar, capr, rfl, _, _⟩ := hri.shape
 have hzl : (zeros P.orders.length).length = P.orders.length := by simp [zeros]
 rw [hzl] at hri
 have ho1 : Own w0.heap.size w1 (.slice ar P.orders.length capr) (zeros P.orders.length) := by rw [hzl] at ho1; exact ho1
 simp only [hzl]
 clear hzl hri
 go_wp2
 go_loopw [1, 6] (fun mv i wr => ∃ k : Nat, i = .int .i64 ((P.orders.length : Int) - 1 - k) ∧ mv = .int .i64 (elTo P.orders P.orders.length m k).2 ∧ k ≤ P.orders.length ∧ Ext w0 wr ∧
   Own w0.heap.size wr (.slice ar P.orders.length capr) (elTo P.orders P.orders.length m k).1) (fun _ i _ => (intOf i + 1).toNat)
 case atStart => exact ⟨0, by simp, rfl, by omega, hg1, ho1⟩
 case round =>
  clear ho1
  obtain ⟨k, rfl, rfl, hk, hg, hO⟩ := hrel
  obtain ⟨hv, hm0, hm1⟩ := elTo_inv hP m hm k hk
  by_cases hlt : k < P.orders.length
  ·obtain ⟨g, capg, hfm, hgb, hgs⟩ := hO.form (by rw [hv.1]; omega)
   rw [hv.1] at hfm
   obtain ⟨rfl, _⟩ : ar = some ⟨g, 0, none⟩ ∧ capr = capg := by cases hfm; exact ⟨rfl, rfl⟩
   clear hfm
   obtain ⟨b2, off2, rfl, _, _, hc20⟩ := Ints.at hoi (P.orders.length - 1 - k) (by omega)
   have hco := hg.cell HCO.out (by simp)
   have hc2 := hg.cell hc20 (by simp)
   have ho7 := hP.ord7 (P.orders.length - 1 - k) (by omega)
   have hc := hO.cell (P.orders.length - 1 - k) (by rw [hv.1]; omega)
   have hf := hO.frozen (P.orders.length - 1 - k)
   have hsucc : elTo P.orders P.orders.length m (k + 1) = ((elTo P.orders P.orders.length m k).1.set (P.orders.length - 1 - k) ((elTo P.orders P.orders.length m k).2 % gt P.orders (P.orders.length - 1 - k)), (elTo P.orders P.orders.length m k).2 / gt P.orders (P.orders.length - 1 - k)) := rfl
   have HSC := Lib.hid hsucc; clear hsucc
   obtain ⟨hO2, hg2⟩ := hO.store (P.orders.length - 1 - k) ((elTo P.orders P.orders.length m k).2 % gt P.orders (P.orders.length - 1 - k))
   have hgx : Ext w0 (wr.setCell ⟨g, P.orders.length - 1 - k, none⟩ (.int .i64 ((elTo P.orders P.orders.length m k).2 % gt P.orders (P.orders.length - 1 - k)))) := grown_own hg hg2 (fun j hj hlt => by cases hj; omega)
   have hco3 := hgx.cell HCO.out (by simp)
   have hc23 := hgx.cell hc20 (by simp)
   clear hc20
   have hidx : ((P.orders.length : Int) - 1 - k).toNat = P.orders.length - 1 - k := by omega
   generalize hi : P.orders.length - 1 - k = i at *
   generalize (elTo P.orders P.orders.length m k).1 = L at *
   generalize (elTo P.orders P.orders.length m k).2 = M at *
   have ho70 : 2 ≤ gt P.orders i := ho7.1
   have ho71 : gt P.orders i ≤ 7 := ho7.2
   have HI := Lib.hid hi; clear hi ho7
   go_wp2
   go_roundw
   case rel => exact ⟨k + 1, by congr 1; omega, by rw [HSC.out], by omega, hgx, by rw [HSC.out]; exact hO2⟩
   case measure => simp [intOf]; omega
  ·have hke : k = P.orders.length := by omega
   subst hke
   go_wp2
   go_ret
   exact ⟨_, rfl, grown_trans hg0 hg, hO.weak (by have := HS.out; omega)⟩
end Go.Proofs.YtdcobapnlpeaaaaGreat
namespace Go.Proofs.YtdcobapnlpeaaaaGreat
open Go.RowKit
def allEl (P : Pr) : List (List Int) := (List.range (ordP P).toNat).map (fun k : Nat => elAt P (k : Int))
theorem range_map_succ {α : Type} (f : Nat → α) (k : Nat) : (List.range (k + 1)).map f = (List.range k).map f ++ [f k] := by
 rw [List.range_succ, List.map_append]; rfl
set_option maxHeartbeats 400000 in
theorem allElements_ok (P : Pr) (hP : Valid P) (w : World) (p : Value) (Sp : Nat → Prop) (hp : PresP Sp w p P) :
  Calls Tryz.prog 99 #[p] w (Ret w fun w' v => RowsO w.heap.size w' v (allEl P)) := by
 have h729 : ordP P ≤ 729 := hP.le729
 have hpos := hP.ordP_pos
 go_enter Tryz.func99, Tryz.ntmps99
 go_wp2_with (go_at_call 110; refine (orderOf_ok _ _ P Sp hP hp).mono ?_; rintro e1 w1 ⟨rfl, rfl⟩)
 go_loopw [3, 7] (fun v i wr => ∃ k : Nat, i = .int .i64 k ∧ k ≤ (ordP P).toNat ∧ Ext w wr ∧ RowsO w.heap.size wr v ((List.range k).map (fun k : Nat => elAt P (k : Int)))) (fun _ i _ => (ordP P).toNat - (intOf i).toNat)
 case atStart => exact ⟨0, rfl, by omega, Ext.refl _, SlO.nil _ _ _ _⟩
 case round =>
  obtain ⟨k, rfl, hk, hg, hO⟩ := hrel
  by_cases hlt : (k : Int) < ordP P
  ·go_wp2_with fail
   refine Calls.mono (elementAt_ok P hP wr p k Sp (hp.ext hg) (by omega) (by omega)) ?_
   rintro e2 w2 ⟨r, rfl, hg2, hR⟩
   have hv := elAt_vec hP (k : Int) (by omega)
   have hRi : OwnIn (From wr.heap.size) w2 r (elAt P k) := OwnIn.of hR (by rw [hv.1]; have := hP.n6; omega) (fun j hj _ => hj)
   clear hv
   obtain ⟨ar, capr, rfl, _, _⟩ := hRi.ints.shape
   go_wp2_with (at_builtin; go_must (refine wp_app_row rfl _ _ rfl w.heap.size wr w2 _ _ _ (elAt P k) rfl hO hg2 hRi rfl rfl (by simp; omega) hg.size ?_); intro v3 w3 hO3 hg3 hg4)
   have hgx := hO.extw hg (Nat.le_refl _) hg3
   rw [← range_map_succ (fun k : Nat => elAt P (k : Int))] at hO3
   go_roundw
   case rel => exact ⟨k + 1, by go_num, by omega, hgx, hO3⟩
   case measure => simp [intOf]; omega
  ·have hke : k = (ordP P).toNat := by omega
   subst hke
   go_wp2
   go_ret
   exact ⟨_, rfl, hg, hO⟩
def gensOf (n : Nat) : List (List Int) := (List.range n).map (fun k : Nat => unitV n k)
set_option maxHeartbeats 400000 in
theorem generators_ok (P : Pr) (hP : Valid P) (w : World) (p : Value) (Sp : Nat → Prop) (hp : PresP Sp w p P) :
  Calls Tryz.prog 168 #[p] w (Ret w fun w' v => RowsO w.heap.size w' v (gensOf P.orders.length)) := by
 have hn6 := hP.n6
 obtain ⟨pb, po, rfl⟩ := hp.shape
 obtain ⟨ao, capo, hco0, hoi⟩ := hp.ordAt
 have hco := hco0
 go_enter Tryz.func168, Tryz.ntmps168
 go_wp2
 clear hco
 have HCO := Lib.hid hco0; clear hco0
 go_loopw [3, 10] (fun v i wr => ∃ k : Nat, i = .int .i64 k ∧ k ≤ P.orders.length ∧ Ext w wr ∧ RowsO w.heap.size wr v ((List.range k).map (fun k : Nat => unitV P.orders.length k))) (fun _ i _ => P.orders.length - (intOf i).toNat)
 case atStart => exact ⟨0, rfl, by omega, Ext.refl _, SlO.nil _ _ _ _⟩
 case round =>
  obtain ⟨k, rfl, hk, hg, hO⟩ := hrel
  by_cases hlt : k < P.orders.length
  ·have hco := hg.cell HCO.out (by simp)
   go_wp2_with fail
   refine Calls.mono (unitVector_ok P.orders.length k wr hlt (by omega)) ?_
   rintro e2 w2 ⟨r, rfl, hg2, hR⟩
   have hRi : OwnIn (From wr.heap.size) w2 r (unitV P.orders.length k) := OwnIn.of hR (by simp [unitV]; omega) (fun j hj _ => hj)
   obtain ⟨ar, capr, rfl, _, _⟩ := hRi.ints.shape
   go_wp2_with (at_builtin; go_must (refine wp_app_row rfl _ _ rfl w.heap.size wr w2 _ _ _ (unitV P.orders.length k) rfl hO hg2 hRi rfl rfl (by simp; omega) hg.size ?_); intro v3 w3 hO3 hg3 hg4)
   have hgx := hO.extw hg (Nat.le_refl _) hg3
   rw [← range_map_succ (fun k : Nat => unitV P.orders.length k)] at hO3
   go_roundw
   case rel => exact ⟨k + 1, by go_num, by omega, hgx, hO3⟩
   case measure => simp [intOf]; omega
  ·have hke : k = P.orders.length := by omega
   subst hke
   go_wp2
   go_ret
   exact ⟨_, rfl, hg, hO⟩
end Go.Proofs.YtdcobapnlpeaaaaGreat
namespace Go.Proofs.YtdcobapnlpeaaaaGreat
section
variable {P : Pr} (G : Grp P)
include G
theorem Grp.pw_inv {x : List Int} (hx : Vec P.orders x) (k : Nat) : rMul P (pw P (rInv P x) k) (pw P x k) = zeros P.orders.length := by
 have hi := G.invV hx
 induction k with
 | zero => exact G.grp.el _ G.oneV
 | succ k ih =>
  have p1 := G.pw_vec hi k
  have p2 := G.pw_vec hx k
  rw [pw_succ, G.pw_succ' hx, G.ass p1 hi (G.mulV hx p2), ← G.ass hi hx p2, G.inv_mul hx, G.grp.el _ p2, ih]
end
end Go.Proofs.YtdcobapnlpeaaaaGreat
namespace Go.Proofs.YtdcobapnlpeaaaaGreat
theorem genP_or (P : Pr) (Q L : List Int → Prop) : genP P (fun x => genP P Q x ∨ L x) = genP P (fun x => Q x ∨ L x) :=
 funext fun _ => propext ⟨fun h K S hQ => h K S (fun y hy => hy.elim (fun h => h K S (fun z hz => hQ z (.inl hz))) (fun h => hQ y (.inr h))),
  fun h K S hQ => h K S (fun y hy => hy.elim (fun h => hQ y (.inl (genP_mem h))) (fun h => hQ y (.inr h)))⟩
theorem Grp.genP_none {P : Pr} (G : Grp P) : genP P (fun _ => False) = fun x => x = zeros P.orders.length :=
 funext fun _ => propext ⟨fun h => h _ G.sub_one (fun _ h => h.elim), fun h K S _ => by rw [h]; exact S.one⟩
end Go.Proofs.YtdcobapnlpeaaaaGreat
namespace Go.Proofs.YtdcobapnlpeaaaaGreat
open Go.RowKit
theorem abs_ok (a : Int) (w : World) (ha : -1000000 ≤ a ∧ a ≤ 1000000) : Calls Tryz.prog 220 #[.int .i64 a] w fun e w' => e = .returned (.int .i64 (if a < 0 then -a else a)) ∧ w = w' := by
 have e1 : IntKind.i64.wrap (-a) = -a := IntWalk.i64_in _ (by omega)
 go_enter Tryz.func220, Tryz.ntmps220
 obtain ⟨b, hb⟩ : ∃ b, b = (if a < 0 then -a else a) := ⟨_, rfl⟩
 rw [← hb]
 by_cases h0 : a < 0
 ·rw [if_pos h0] at hb
  have h1 : ¬ -a ≤ a := by omega
  have hmx : max a (-a) = -a := Int.max_eq_right (by omega)
  have HB := Lib.hid hb; clear hb
  go_wp2
  go_ret
  exact ⟨by rw [HB.out]; first | rfl | (show Ending.returned (.int .i64 (max a (-a))) = _; rw [hmx]), rfl⟩
 ·rw [if_neg h0] at hb
  have h1 : -a ≤ a := by omega
  have hmx : max a (-a) = a := Int.max_eq_left (by omega)
  have HB := Lib.hid hb; clear hb
  go_wp2
  go_ret
  exact ⟨by rw [HB.out]; first | rfl | (show Ending.returned (.int .i64 (max a (-a))) = _; rw [hmx]), rfl⟩
end Go.Proofs.YtdcobapnlpeaaaaGreat
namespace Go.Proofs.YtdcobapnlpeaaaaGreat
open Go.RowKit
attribute [local go_sem ↓] Go.wp_at_zero Go.wp_at_succ
def PresK (M B : Nat) (w' : World) (v : Value) : Prop := ∃ (vo vp vc : Value) (K : Int) (Q : Pr), v = .tuple #[.agg #[vo, vp, vc], .int .i64 K] ∧ Q.orders.length ≤ M ∧ Pres3 (From B) w' vo vp vc Q
theorem k_ret {w wX : World} {sb B0 M br : Nat} {x y z : Value} {K : Int} {Q : Pr} {F : Nat → Prop} (hgw : w.grownBy wX (some sb)) (hbr : w.heap.size ≤ br) (hF : ∀ k, F k → k < wX.heap.size → w.heap.size ≤ k ∧ k ≠ br) (hsrc : Src B0 wX sb) (hB0 : B0 ≤ w.heap.size) (hM : Q.orders.length ≤ M) (hP : Pres3 F wX x y z Q) :
  Mut w (some sb) (DrawR B0 sb (PresK M w.heap.size)) (.returned (.tuple #[.agg #[x, y, z], .int .i64 K])) (((wX.setCell ⟨br, 0, none⟩ x).setCell ⟨br, 1, none⟩ y).setCell ⟨br, 2, none⟩ z) := by
 have hT := grown_set3 wX br x y z
 exact ⟨_, rfl, grown_own hgw hT (fun j hj hlt => by cases hj; omega), ⟨x, y, z, K, Q, rfl, hM, hP.mono (fun k hk hlt => ⟨(hF k hk hlt).1, Nat.lt_of_lt_of_le hlt hT.size, hT.block k hlt (fun e => (hF k hk hlt).2 (Option.some.inj e))⟩)⟩, hsrc.own hT (fun k hk => by cases hk; omega)⟩
set_option maxRecDepth 100000 in
set_option maxHeartbeats 8000000 in
theorem l17Draw_ok (B0 : Nat) (w : World) (sb : Nat) (hB0 : B0 ≤ w.heap.size) (hs : Src B0 w sb) :
  Calls Tryz.prog 95 #[.pointer (some ⟨sb, 0, none⟩)] w (Mut w (some sb) (DrawR B0 sb (PresK 7 w.heap.size))) := by
 have hsb := hs.lt
 have hbB := Box3.made w 28 (.slice none 0 0) (.slice none 0 0) (.slice none 0 0)
 have hg0 : Ext w (w.alloc (.cells #[.slice none 0 0, .slice none 0 0, .slice none 0 0] 28)) := World.grownBy_alloc _ _ _
 have hs0 : (w.alloc (.cells #[.slice none 0 0, .slice none 0 0, .slice none 0 0] 28)).heap.size = w.heap.size + 1 := by simp
 have hsW := Lib.hid (hs.ext hg0); clear hs
 go_enter Tryz.func95, Tryz.ntmps95
 go_wp2_with fail
 generalize w.alloc (.cells #[.slice none 0 0, .slice none 0 0, .slice none 0 0] 28) = w0 at *
 have hs00 : w.heap.size + 1 ≤ w0.heap.size := by omega
 clear hs0
 refine Calls.mono (l07Draw_ok B0 w0 sb 64 (by omega) hsW.out) ?_
 rintro e1 w1 ⟨v1, rfl, hg1, ⟨vo, vp, vc, Q, rfl, hQl, hQ⟩, hs1⟩
 obtain ⟨a1, n1, c1, hy1⟩ : ∃ a n c, vo = .slice a n c := by obtain ⟨a, c, e, _⟩ := hQ.o.shape; exact ⟨_, _, _, e⟩
 obtain ⟨a2, n2, c2, hy2⟩ : ∃ a n c, vp = .slice a n c := by obtain ⟨a, c, e, _⟩ := Sl.shape hQ.p; exact ⟨_, _, _, e⟩
 obtain ⟨a3, n3, c3, hy3⟩ : ∃ a n c, vc = .slice a n c := by obtain ⟨a, c, e, _⟩ := Sl.shape hQ.c; exact ⟨_, _, _, e⟩
 subst hy1 hy2 hy3
 have hgq : Ext w1 (w1.alloc (.cells #[.slice a1 n1 c1, .slice a2 n2 c2, .slice a3 n3 c3] 28)) := World.grownBy_alloc _ _ _
 have hbQ := Box3.made w1 28 (.slice a1 n1 c1) (.slice a2 n2 c2) (.slice a3 n3 c3)
 obtain ⟨pb, hpb⟩ : ∃ pb, pb = w1.heap.size := ⟨_, rfl⟩
 rw [← hpb] at hbQ
 have hs1' := hg1.size
 have hQ2 : Pres3 (fun k => w0.heap.size ≤ k ∧ k ≠ pb) (w1.alloc (.cells #[.slice a1 n1 c1, .slice a2 n2 c2, .slice a3 n3 c3] 28)) (.slice a1 n1 c1) (.slice a2 n2 c2) (.slice a3 n3 c3) Q := hQ.mono (fun k hk hlt => ⟨⟨hk, by omega⟩, Nat.lt_of_lt_of_le hlt hgq.size, hgq.block k hlt (by simp)⟩)
 have hb1 := hbB.moved hg1 (by omega)
 have hb2 := hb1.ext hgq
 have hs2 := hs1.ext hgq
 have hgw2 := grown_trans (grown_of_ext (some sb) hg0) (grown_trans hg1 (grown_of_ext (some sb) hgq))
 have HP := Lib.hid hpb
 have HQ := Lib.hid (And.intro hQ2 (And.intro hs2 hQl)); clear hQ hQ2 hs2 hs1 hQl hg1 hbB hg0 hsW hb1 hgq
 go_wp2_with fail
 rw [← HP.out]
 generalize w1.alloc (.cells #[.slice a1 n1 c1, .slice a2 n2 c2, .slice a3 n3 c3] 28) = w2 at *
 have hpw : w0.heap.size ≤ pb := by omega
 clear hpb HP hs1'
 refine Calls.mono (l01Next_ok B0 w2 sb 12 HQ.out.2.1) ?_
 rintro e3 w3 ⟨v3, rfl, hg3, x, rfl, _, hx1, hs3⟩
 have hb3 := hb2.moved hg3 (by omega)
 have hbQ3 := hbQ.moved hg3 (by omega)
 have hQ3 : Pres3 (fun k => w0.heap.size ≤ k ∧ k ≠ pb) w3 (.slice a1 n1 c1) (.slice a2 n2 c2) (.slice a3 n3 c3) Q := HQ.out.1.mono (fun k hk hlt => ⟨hk, Nat.lt_of_lt_of_le hlt hg3.size, hg3.block k hlt (fun e => by have := Option.some.inj e; omega)⟩)
 have hgw3 := grown_trans hgw2 hg3
 have hQl := HQ.out.2.2
 have hsz3 := hgw3.size
 have hp3 := hbQ3.1
 have HQ := Lib.hid (And.intro hQ3 (And.intro hs3 hQl)); clear hQ3 hs3 hQl hg3 hbQ hb2 hgw2 hx1
 by_cases hx0 : x = 0
 ·subst hx0
  go_wp2_with fail
  refine Calls.mono (l07Draw_ok B0 w3 sb 243 (by omega) HQ.out.2.1) ?_
  rintro e4 w4 ⟨v4, rfl, hg4, ⟨uo, up, uc, R, rfl, hRl, hR⟩, hs4⟩
  obtain ⟨y1, m1, k1, hy1⟩ : ∃ a n c, uo = .slice a n c := by obtain ⟨a, c, e, _⟩ := hR.o.shape; exact ⟨_, _, _, e⟩
  obtain ⟨y2, m2, k2, hy2⟩ : ∃ a n c, up = .slice a n c := by obtain ⟨a, c, e, _⟩ := Sl.shape hR.p; exact ⟨_, _, _, e⟩
  obtain ⟨y3, m3, k3, hy3⟩ : ∃ a n c, uc = .slice a n c := by obtain ⟨a, c, e, _⟩ := Sl.shape hR.c; exact ⟨_, _, _, e⟩
  subst hy1 hy2 hy3
  have hb4 := hb3.moved hg4 (by omega)
  have hgw4 := grown_trans hgw3 hg4
  have hz4 := hg4.size
  have HS4 := Lib.hid (And.intro hs4 (And.intro hR hRl)); clear hs4 hR hRl hg4 hb3 hgw3
  go_wp2_with fail
  have hgL : Ext w4 (w4.alloc (.cells #[.int .i64 0, .int .i64 1, .int .i64 (-1), .int .i64 1000000, .int .i64 1000001] 2)) := World.grownBy_alloc _ _ _
  have hL : Ints (fun k => k = w4.heap.size) (w4.alloc (.cells #[.int .i64 0, .int .i64 1, .int .i64 (-1), .int .i64 1000000, .int .i64 1000001] 2)) (.slice (some ⟨w4.heap.size, 0, none⟩) 5 5) [0, 1, -1, 1000000, 1000001] := ints_litL w4 [0, 1, -1, 1000000, 1000001] (by simp)
  generalize w4.alloc (.cells #[.int .i64 0, .int .i64 1, .int .i64 (-1), .int .i64 1000000, .int .i64 1000001] 2) = wL at *
  refine Calls.mono (l01Pick_ok B0 wL sb _ [0, 1, -1, 1000000, 1000001] _ (HS4.out.1.ext hgL) hL (fun k hk => by have hk : k = w4.heap.size := hk; omega) (by simp) (by simp)) ?_
  rintro e5 w5 ⟨v5, rfl, hg5, i, hi, rfl, hs5⟩
  have hg45 : w4.grownBy w5 (some sb) := grown_trans (grown_of_ext (some sb) hgL) hg5
  generalize gt ([0, 1, -1, 1000000, 1000001] : List Int) i = m at *
  have hb5 := hb4.moved hg45 (by omega)
  have hgw5 := grown_trans hgw4 hg45
  have hR5 : Pres3 (fun k => w3.heap.size ≤ k) w5 (.slice y1 m1 k1) (.slice y2 m2 k2) (.slice y3 m3 k3) R := HS4.out.2.1.mono (fun k hk hlt => ⟨hk, Nat.lt_of_lt_of_le hlt hg45.size, hg45.block k hlt (fun e => by have := Option.some.inj e; have hk : w3.heap.size ≤ k := hk; omega)⟩)
  clear hi hL hgL hg5 hb4 hgw4
  obtain ⟨b0, b1, b2, b3, b4⟩ := id hb5
  have hZ := hb5.all (.slice y1 m1 k1) (.slice y2 m2 k2) (.slice y3 m3 k3)
  obtain ⟨-, z0, z1, z2, -⟩ := id hZ
  have HF := Lib.hid (And.intro hgw5 (And.intro hs5 hR5)); clear hZ hgw5 hs5 hR5 hb5 hg45
  go_wp2_with fail
  refine bodyPost_ret (v := .tuple #[.agg #[.slice y1 m1 k1, .slice y2 m2 k2, .slice y3 m3 k3], .int .i64 m]) (by simp [results, Tryz.results95, go_sem, z0, z1, z2]) rfl ?_
  exact k_ret HF.out.1 (br := w.heap.size) (Nat.le_refl _) (fun k hk _ => by have hk : w3.heap.size ≤ k := hk; exact ⟨by omega, by omega⟩) HF.out.2.1 hB0 HS4.out.2.2 HF.out.2.2
 ·have hxb : (x == 0) = false := by simp [hx0]
  clear hx0
  obtain ⟨q0, q1, q2, q3, q4⟩ := id hbQ3
  have e0 : ∀ w', NearS w3 sb w.heap.size w' → w'.cell? ⟨pb, 0, none⟩ = some (.slice a1 n1 c1) := fun w' h => h.cell q1 (by simp; omega) (by simp; omega)
  have e1 : ∀ w', NearS w3 sb w.heap.size w' → w'.cell? ⟨pb, 1, none⟩ = some (.slice a2 n2 c2) := fun w' h => h.cell q2 (by simp; omega) (by simp; omega)
  have e2 : ∀ w', NearS w3 sb w.heap.size w' → w'.cell? ⟨pb, 2, none⟩ = some (.slice a3 n3 c3) := fun w' h => h.cell q3 (by simp; omega) (by simp; omega)
  clear q0 q1 q2 q3 q4
  have hL := ints_litL w3.drew [1, 2, 3, 4, 5, 6, 7, 8, 9, 12] (by simp)
  have HL := Lib.hid hL; clear hL
  go_wp2
  go_region_held3 (fun w' => NearS w3 sb w.heap.size w') (first | exact NearS.ext (grown_drew _ _) | exact NearS.ext (grown_trans (grown_drew _ _) (World.grownBy_alloc _ _ _)) | exact NearS.of (by assumption) | exact NearS.two hg5 (grown_set3 _ _ _ _ _) | assumption)
   (first
    | (go_at_call 158; refine Calls.mono (l01Pick_ok B0 _ sb _ [1, 2, 3, 4, 5, 6, 7, 8, 9, 12] _ (HQ.out.2.1.ext (grown_trans (grown_drew _ _) (World.grownBy_alloc _ _ _))) HL.out (fun k hk => by have hk : k = w3.heap.size := hk; omega) (by simp) (by simp)) ?_; rintro e5 w5 ⟨v5, rfl, hg5a, i, hi, rfl, hs5⟩; have hg5 : w3.grownBy w5 (some sb) := grown_trans (grown_of_ext (some sb) (grown_trans (grown_drew _ _) (World.grownBy_alloc _ _ _))) hg5a; have hb5 := hb3.moved hg5 (by omega); obtain ⟨b0, b1, b2, b3, b4⟩ := id hb5))
  have hgw5 := grown_trans hgw3 hg5
  have hQ5 : Pres3 (fun k => w0.heap.size ≤ k ∧ k ≠ pb) w5 (.slice a1 n1 c1) (.slice a2 n2 c2) (.slice a3 n3 c3) Q := HQ.out.1.mono (fun k hk hlt => ⟨hk, Nat.lt_of_lt_of_le hlt hg5.size, hg5.block k hlt (fun e => by have := Option.some.inj e; omega)⟩)
  have hZ := hb5.all (.slice a1 n1 c1) (.slice a2 n2 c2) (.slice a3 n3 c3)
  obtain ⟨-, z0, z1, z2, -⟩ := id hZ
  generalize gt ([1, 2, 3, 4, 5, 6, 7, 8, 9, 12] : List Int) i = m at *
  have HF := Lib.hid (And.intro hgw5 (And.intro hs5 hQ5)); clear hZ hgw5 hs5 hQ5 hg5 hg5a hi e0 e1 e2
  go_wp2_with fail
  refine bodyPost_ret (v := .tuple #[.agg #[.slice a1 n1 c1, .slice a2 n2 c2, .slice a3 n3 c3], .int .i64 m]) (by simp [results, Tryz.results95, go_sem, z0, z1, z2]) rfl ?_
  exact k_ret HF.out.1 (br := w.heap.size) (Nat.le_refl _) (fun k hk _ => ⟨by omega, by omega⟩) HF.out.2.1 hB0 HQ.out.2.2 HF.out.2.2
set_option maxRecDepth 100000 in
set_option maxHeartbeats 8000000 in
theorem DrawPowerSubgroup_ok (w : World) (cv : Value) (bs : List Int) (S : Nat → Prop) (hb : Bytes S w cv bs) :
  Calls Tryz.prog 16 #[cv] w (Ret w (PresK 7 w.heap.size)) := by
 obtain ⟨a, cap, rfl, _, _⟩ := Sl.shape hb
 have hbB := Box3.made w 28 (.slice none 0 0) (.slice none 0 0) (.slice none 0 0)
 have hg0 : Ext w (w.alloc (.cells #[.slice none 0 0, .slice none 0 0, .slice none 0 0] 28)) := World.grownBy_alloc _ _ _
 have hs0 : (w.alloc (.cells #[.slice none 0 0, .slice none 0 0, .slice none 0 0] 28)).heap.size = w.heap.size + 1 := by simp
 have hb0 := Bytes.ext hb hg0
 go_enter Tryz.func16, Tryz.ntmps16
 go_wp2_with fail
 generalize w.alloc (.cells #[.slice none 0 0, .slice none 0 0, .slice none 0 0] 28) = w0 at *
 have hs00 : w.heap.size + 1 ≤ w0.heap.size := by omega
 clear hs0
 refine Calls.mono (l01From_ok w0 _ bs S hb0) ?_
 rintro e0 wS ⟨v0, rfl, hgS, rfl, hsS⟩
 have hzS : w0.heap.size + 1 ≤ wS.heap.size := by have := hsS.lt; omega
 have hbS := hbB.ext hgS
 obtain ⟨sb, hsb⟩ : ∃ sb, sb = w0.heap.size := ⟨_, rfl⟩
 rw [← hsb] at hsS
 have hsb1 : w.heap.size + 1 ≤ sb ∧ sb + 1 ≤ wS.heap.size := by omega
 have hgw0 := grown_trans hg0 hgS
 have HSB := Lib.hid hsb
 clear hbB hb0 hg0 hgS hzS hs00
 go_wp2_with fail
 rw [← HSB.out]
 refine Calls.mono (l17Draw_ok (sb + 1) wS sb (by omega) (by rw [HSB.out]; rw [HSB.out] at hsS; exact hsS)) ?_
 rintro e1 w1 ⟨v1, rfl, hg1, ⟨vo, vp, vc, K, Q, rfl, hQl, hQ⟩, hs1⟩
 clear hsb hs1
 obtain ⟨a1, n1, c1, hy1⟩ : ∃ a n c, vo = .slice a n c := by obtain ⟨a, c, e, _⟩ := hQ.o.shape; exact ⟨_, _, _, e⟩
 obtain ⟨a2, n2, c2, hy2⟩ : ∃ a n c, vp = .slice a n c := by obtain ⟨a, c, e, _⟩ := Sl.shape hQ.p; exact ⟨_, _, _, e⟩
 obtain ⟨a3, n3, c3, hy3⟩ : ∃ a n c, vc = .slice a n c := by obtain ⟨a, c, e, _⟩ := Sl.shape hQ.c; exact ⟨_, _, _, e⟩
 subst hy1 hy2 hy3
 have hgq : Ext w1 (w1.alloc (.cells #[.slice a1 n1 c1, .slice a2 n2 c2, .slice a3 n3 c3] 28)) := World.grownBy_alloc _ _ _
 have hbQ := Box3.made w1 28 (.slice a1 n1 c1) (.slice a2 n2 c2) (.slice a3 n3 c3)
 obtain ⟨pb, hpb⟩ : ∃ pb, pb = w1.heap.size := ⟨_, rfl⟩
 rw [← hpb] at hbQ
 have hs1' := hg1.size
 have hQ2 := hQ.ext hgq
 have hb1 := hbS.moved hg1 (by omega)
 have hb2 := hb1.ext hgq
 have hgw2 : Ext w (w1.alloc (.cells #[.slice a1 n1 c1, .slice a2 n2 c2, .slice a3 n3 c3] 28)) := grown_trans (grown_own hgw0 hg1 (fun j hj hlt => by have := Option.some.inj hj; omega)) hgq
 have HP := Lib.hid hpb
 have HQ := Lib.hid (And.intro hQ2 (And.intro hgw2 hQl)); clear hQ hQ2 hg1 hbS hb1 hgq hgw2 hQl hgw0
 obtain ⟨q0, q1, q2, q3, q4⟩ := id hbQ
 obtain ⟨b0, b1, b2, b3, b4⟩ := id hb2
 rw [hpb] at q0 q1 q2 q3 q4
 go_wp2_with fail
 try rw [← HP.out]
 generalize hw2 : w1.alloc (.cells #[.slice a1 n1 c1, .slice a2 n2 c2, .slice a3 n3 c3] 28) = w2 at *
 have hZ := hb2.all (.slice a1 n1 c1) (.slice a2 n2 c2) (.slice a3 n3 c3)
 obtain ⟨-, z0, z1, z2, -⟩ := id hZ
 have hT := grown_set3 w2 w.heap.size (.slice a1 n1 c1) (.slice a2 n2 c2) (.slice a3 n3 c3)
 have hin : ∀ k, some w.heap.size = some k → k < wS.heap.size := fun k hk => by have := Option.some.inj hk; omega
 refine bodyPost_ret (v := .tuple #[.agg #[.slice a1 n1 c1, .slice a2 n2 c2, .slice a3 n3 c3], .int .i64 K]) (by simp [results, Tryz.results16, go_sem, z0, z1, z2]) rfl ?_
 exact ⟨_, rfl, grown_own HQ.out.2.1 hT (fun j hj hlt => by have := Option.some.inj hj; omega), _, _, _, K, Q, rfl, HQ.out.2.2, (HQ.out.1.keptB hT hin).low (by omega)⟩
end Go.Proofs.YtdcobapnlpeaaaaGreat
namespace Go.Proofs.YtdcobapnlpeaaaaGreat
open Go.Proofs Go.Shelf Go.RowKit Go.Lib Go.Sort
def Tryz.sortRows_ren : Go.Shelf.Ren := ⟨fun | 6 => 247 | 15 => 297 | 14 => 296 | 28 => 332 | 29 => 333 | 20 => 324 | 21 => 325 | 22 => 326 | 23 => 327 | 24 => 328 | 25 => 329 | 26 => 330 | 27 => 331 | 46 => 351 | 47 => 352 | 48 => 353 | 49 => 354 | 50 => 355 | 57 => 367 | n => n, fun | 22 => 25 | 24 => 24 | 25 => 195 | 3 => 3 | 39 => 139 | 0 => 0 | 53 => 266 | 55 => 62 | 4 => 4 | 46 => 260 | 45 => 259 | 50 => 193 | 5 => 5 | 9 => 9 | 66 => 281 | 70 => 285 | 76 => 296 | 77 => 297 | n => n, fun | n => n⟩
theorem Tryz.sortRows : Go.Proofs.SlLaysF.n6 Tryz.prog Tryz.sortRows_ren := {
  mixed := by kernel_rfl
  f6 := ⟨Tryz.f247.name, by decide, Tryz.func247.trans (congrArg some (by kernel_rfl))⟩
  f14 := ⟨Tryz.f296.name, by decide, Tryz.func296.trans (congrArg some (by kernel_rfl))⟩
  f15 := Tryz.func297.trans (congrArg some (by kernel_rfl))
  f20 := ⟨Tryz.f324.name, by decide, Tryz.func324.trans (congrArg some (by kernel_rfl))⟩
  f21 := ⟨Tryz.f325.name, by decide, Tryz.func325.trans (congrArg some (by kernel_rfl))⟩
  f22 := ⟨Tryz.f326.name, by decide, Tryz.func326.trans (congrArg some (by kernel_rfl))⟩
  f23 := ⟨Tryz.f327.name, by decide, Tryz.func327.trans (congrArg some (by kernel_rfl))⟩
  f24 := ⟨Tryz.f328.name, by decide, Tryz.func328.trans (congrArg some (by kernel_rfl))⟩
  f25 := ⟨Tryz.f329.name, by decide, Tryz.func329.trans (congrArg some (by kernel_rfl))⟩
  f26 := ⟨Tryz.f330.name, by decide, Tryz.func330.trans (congrArg some (by kernel_rfl))⟩
  f27 := ⟨Tryz.f331.name, by decide, Tryz.func331.trans (congrArg some (by kernel_rfl))⟩
  f28 := Tryz.func332.trans (congrArg some (by kernel_rfl))
  f29 := Tryz.func333.trans (congrArg some (by kernel_rfl))
  f46 := ⟨Tryz.f351.name, by decide, Tryz.func351.trans (congrArg some (by kernel_rfl))⟩
  f47 := Tryz.func352.trans (congrArg some (by kernel_rfl))
  f48 := Tryz.func353.trans (congrArg some (by kernel_rfl))
  f49 := ⟨Tryz.f354.name, by decide, Tryz.func354.trans (congrArg some (by kernel_rfl))⟩
  f50 := ⟨Tryz.f355.name, by decide, Tryz.func355.trans (congrArg some (by kernel_rfl))⟩
  f57 := ⟨Tryz.f367.name, by decide, Tryz.func367.trans (congrArg some (by kernel_rfl))⟩
  t0 := Tryz.underlying0
  a0 := Tryz.isAgg0
  z0 := Tryz.sizeOf0
  v0 := Tryz.zeroValue0
  t3 := Tryz.underlying3
  a3 := Tryz.isAgg3
  z3 := Tryz.sizeOf3
  v3 := Tryz.zeroValue3
  t4 := Tryz.underlying4
  a4 := Tryz.isAgg4
  z4 := Tryz.sizeOf4
  v4 := Tryz.zeroValue4
  t5 := Tryz.underlying5
  a5 := Tryz.isAgg5
  z5 := Tryz.sizeOf5
  v5 := Tryz.zeroValue5
  t9 := Tryz.underlying9
  a9 := Tryz.isAgg9
  z9 := Tryz.sizeOf9
  v9 := Tryz.zeroValue9
  t22 := Tryz.underlying25
  a22 := Tryz.isAgg25
  z22 := Tryz.sizeOf25
  v22 := Tryz.zeroValue25
  a24 := Tryz.isAgg24
  z24 := Tryz.sizeOf24
  t25 := Tryz.underlying195
  a25 := Tryz.isAgg195
  z25 := Tryz.sizeOf195
  v25 := Tryz.zeroValue195
  t39 := Tryz.underlying139
  a39 := Tryz.isAgg139
  z39 := Tryz.sizeOf139
  v39 := Tryz.zeroValue139
  t45 := Tryz.underlying259
  a45 := Tryz.isAgg259
  z45 := Tryz.sizeOf259
  v45 := Tryz.zeroValue259
  t46 := Tryz.underlying260
  a46 := Tryz.isAgg260
  z46 := Tryz.sizeOf260
  v46 := Tryz.zeroValue260
  t50 := Tryz.underlying193
  a50 := Tryz.isAgg193
  z50 := Tryz.sizeOf193
  v50 := Tryz.zeroValue193
  t53 := Tryz.underlying266
  a53 := Tryz.isAgg266
  z53 := Tryz.sizeOf266
  v53 := Tryz.zeroValue266
  t55 := Tryz.underlying62
  a55 := Tryz.isAgg62
  z55 := Tryz.sizeOf62
  v55 := Tryz.zeroValue62
  t66 := Tryz.underlying281
  a66 := Tryz.isAgg281
  z66 := Tryz.sizeOf281
  v66 := Tryz.zeroValue281
  t70 := Tryz.underlying285
  a70 := Tryz.isAgg285
  z70 := Tryz.sizeOf285
  v70 := Tryz.zeroValue285
  t76 := Tryz.underlying296
  a76 := Tryz.isAgg296
  z76 := Tryz.sizeOf296
  v76 := Tryz.zeroValue296
  t77 := Tryz.underlying297
  a77 := Tryz.isAgg297
  z77 := Tryz.sizeOf297
  v77 := Tryz.zeroValue297 }
end Go.Proofs.YtdcobapnlpeaaaaGreat
namespace Go.Proofs.YtdcobapnlpeaaaaGreat
section
variable {P : Pr} (G : Grp P)
include G
theorem Grp.pw_residue {x : List Int} (hx : Vec P.orders x) (k m : Int) (hm : 0 < m) (h1 : pw P x m.toNat = zeros P.orders.length) : pw P x (k % m).toNat = pwZ P x k := by
 have hb : 0 ≤ k % m ∧ k % m < m := ⟨Int.emod_nonneg _ (by omega), Int.emod_lt_of_pos _ hm⟩
 have hmul : ∀ q : Nat, pw P x (m.toNat * q) = zeros P.orders.length := fun q => by
  rw [G.pw_mul hx, h1]
  have : ∀ q, pw P (zeros P.orders.length) q = zeros P.orders.length := by
   intro q
   induction q with
   | zero => rfl
   | succ q ih => rw [pw_succ, ih, G.grp.el _ G.oneV]
  exact this q
 unfold pwZ
 split
 ·rename_i hneg
  -- k < 0: x^(k mod m) x^(-k) = 1
  obtain ⟨q, hq⟩ : ∃ q : Nat, (k % m).toNat + (-k).toNat = m.toNat * q := by
   refine ⟨(-(k / m)).toNat, ?_⟩
   have h2 := Int.emod_add_mul_ediv k m
   have h3 : k / m ≤ 0 := by
    rcases Int.lt_or_le 0 (k / m) with h | h
    ·have : m * 1 ≤ m * (k / m) := Int.mul_le_mul_of_nonneg_left (by omega) (by omega)
     omega
    ·exact h
   have h4 : ((m.toNat * (-(k / m)).toNat : Nat) : Int) = m * (-(k / m)) := by
    rw [Int.natCast_mul, show ((m.toNat : Nat) : Int) = m by omega, show (((-(k / m)).toNat : Nat) : Int) = -(k / m) by omega]
   rw [Int.mul_neg] at h4
   omega
  have h5 : rMul P (pw P x (k % m).toNat) (pw P x (-k).toNat) = zeros P.orders.length := by rw [← G.pw_add hx, hq, hmul]
  have h6 := G.pw_inv hx (-k).toNat
  have p1 := G.pw_vec hx (k % m).toNat
  have p2 := G.pw_vec hx (-k).toNat
  have p3 := G.pw_vec (G.invV hx) (-k).toNat
  -- two left inverses of one element
  have h7 : rMul P (rMul P (pw P x (k % m).toNat) (pw P x (-k).toNat)) (rInv P (pw P x (-k).toNat)) = rMul P (rMul P (pw P (rInv P x) (-k).toNat) (pw P x (-k).toNat)) (rInv P (pw P x (-k).toNat)) := by rw [h5, h6]
  rwa [G.ass p1 p2 (G.invV p2), G.ass p3 p2 (G.invV p2), G.mul_inv p2, G.grp.er _ p1, G.grp.er _ p3] at h7
 ·rename_i hneg
  have h2 := Int.emod_add_mul_ediv k m
  have h3 : 0 ≤ k / m := Int.ediv_nonneg (by omega) (by omega)
  have h4 : k.toNat = (k % m).toNat + m.toNat * (k / m).toNat := by
   have h4 : ((m.toNat * (k / m).toNat : Nat) : Int) = m * (k / m) := by
    rw [Int.natCast_mul, show ((m.toNat : Nat) : Int) = m by omega, show (((k / m).toNat : Nat) : Int) = k / m by omega]
   omega
  rw [h4, G.pw_add hx, hmul, G.grp.er _ (G.pw_vec hx _)]
end
end Go.Proofs.YtdcobapnlpeaaaaGreat
namespace Go.Proofs.YtdcobapnlpeaaaaGreat
open Go.RowKit
theorem gensOf_vec {P : Pr} (hP : Valid P) : ∀ g ∈ gensOf P.orders.length, Vec P.orders g := fun g hg => by
 unfold gensOf at hg
 obtain ⟨k, _, rfl⟩ := List.mem_map.1 hg
 exact unitV_vec hP k
def NormG (P : Pr) (H : List Int → Prop) (U : List (List Int)) : Prop := ∀ g ∈ gensOf P.orders.length, ∀ x ∈ U, H (rConj P x g)
set_option maxRecDepth 100000 in
set_option maxHeartbeats 2000000 in
theorem isNormal_ok (P : Pr) (G : Grp P) (w : World) (p uv : Value) (H : List Int → Prop) (Sp Su : Nat → Prop) (S : Sub P H) (hp : PresP Sp w p P) (hu : Rows2 Su w uv (cseq P H)) :
  Calls Tryz.prog 113 #[p, uv] w (Ret w fun _ v => ∃ r : Bool, v = .bool r ∧ (r = true ↔ NormG P H (cseq P H))) := by
 have hP := G.v
 have hn6 := hP.n6
 have hl := G.cseq_len S
 have hUH := (G.seq_facts S).2.1
 obtain ⟨pb, po, rfl⟩ := hp.shape
 obtain ⟨au, capu, rfl, _, _⟩ := Sl.shape hu
 have hgl : (gensOf P.orders.length).length ≤ 6 := by unfold gensOf; simp; omega
 have HG := Lib.hid (And.intro (gensOf_vec hP) hUH); clear hUH
 go_enter Tryz.func113, Tryz.ntmps113
 go_wp2_with fail
 refine Calls.mono (generators_ok P hP w _ Sp hp) ?_
 rintro e1 w1 ⟨v1, rfl, hg1, hO⟩
 have hR := RowsD.rows (hO.toD (by omega))
 obtain ⟨a1, cap1, hv1, _, _⟩ := Sl.shape hR
 subst hv1
 generalize hgs : gensOf P.orders.length = GS at *
 have HGS := Lib.hid hgs; clear hgs hO
 go_wp2
 go_loopw [12] (fun iv wr => ∃ i : Nat, iv = .int .i64 i ∧ i ≤ GS.length ∧ Ext w1 wr ∧ Hid (∀ j, j < i → ∀ x ∈ cseq P H, H (rConj P x (gt GS j)))) (fun iv _ => GS.length - (intOf iv).toNat)
 case atStart => exact ⟨0, rfl, by omega, Ext.refl _, Lib.hid (fun j h => by omega)⟩
 case round =>
  obtain ⟨i, rfl, hi, hg, hN⟩ := hrel
  by_cases hlt : i < GS.length
  ·have hlt' : (i : Int) < GS.length := by omega
   obtain ⟨b, off, a2, cap2, rfl, _, _, hc, hgi⟩ := Rows2.at hR i hlt
   have hcr := hg.cell hc (by simp)
   have hgV := HG.out.1 _ (gtMem hlt)
   have HV := Lib.hid hgV; clear hgV
   go_wp2
   clear hcr
   go_loopw [18] (fun jv wr => ∃ j : Nat, jv = .int .i64 j ∧ j ≤ (cseq P H).length ∧ Ext w1 wr ∧ Hid (∀ l, l < j → H (rConj P (gt (cseq P H) l) (gt GS i)))) (fun jv _ => (cseq P H).length - (intOf jv).toNat)
   case atStart => exact ⟨0, rfl, by omega, hg, Lib.hid (fun j h => by omega)⟩
   case round =>
    clear hg
    obtain ⟨j, rfl, hj, hg, hM⟩ := hrel
    have hgw := grown_trans hg1 hg
    by_cases hjl : j < (cseq P H).length
    ·have hjl' : (j : Int) < (cseq P H).length := by omega
     obtain ⟨b3, off3, a3, cap3, rfl, _, _, hc3, hr3⟩ := Rows2.at (Rows2.ext hu hgw) j hjl
     have hxV := S.vec _ (HG.out.2 _ (gtMem hjl))
     have HX := Lib.hid hxV; clear hxV
     go_wp2_with fail
     refine Calls.mono (conjugate_ok P hP wr _ _ _ (gt (cseq P H) j) (gt GS i) Sp _ _ (hp.ext hgw) hr3 (hgi.ext hg) HX.out HV.out) ?_
     rintro eC wC ⟨vC, rfl, hgC, hOC⟩
     rw [G.iConj_eq HX.out HV.out] at hOC
     have hcV := G.conjV HX.out HV.out
     have hCI := hOC.ints (by rw [hcV.1]; omega)
     obtain ⟨aC, capC, hvC, _, _⟩ := hCI.shape
     subst hvC
     have HCV := Lib.hid hcV; clear hcV
     have hgwC := grown_trans hgw hgC
     go_wp2_with fail
     refine Calls.mono (isMember_ok P G wC _ _ _ H (rConj P (gt (cseq P H) j) (gt GS i)) Sp Su Any S (hp.ext hgwC) (Rows2.ext hu hgwC) hCI HCV.out) ?_
     rintro eM wM ⟨vM, rfl, hgM, r, rfl, hr⟩
     have hgT := grown_trans (grown_trans hg hgC) hgM
     cases r with
     | true =>
      have HR := Lib.hid (hr.1 rfl); clear hr
      go_wp2
      go_roundw
      case rel => exact ⟨j + 1, by go_num, by omega, hgT, Lib.hid (fun l hl => by
       rcases Nat.lt_succ_iff_lt_or_eq.1 hl with h | h
       ·exact hM.out l h
       ·rw [h]; exact HR.out)⟩
      case measure => simp [intOf]; omega
     | false =>
      have hno : ¬ H (rConj P (gt (cseq P H) j) (gt GS i)) := fun h => by have := hr.2 h; cases this
      have HR := Lib.hid hno; clear hr hno
      go_wp2
      go_ret
      exact ⟨_, rfl, grown_trans hg1 hgT, false, rfl, by
       simp only [Bool.false_eq_true, false_iff]
       intro h
       unfold NormG at h
       rw [HGS.out] at h
       exact HR.out (h _ (gtMem hlt) _ (gtMem hjl))⟩
    ·have hje : j = (cseq P H).length := by omega
     subst hje
     go_wp2
     go_roundw
     case rel => exact ⟨i + 1, by go_num, by omega, hg, Lib.hid (fun l hl => by
      rcases Nat.lt_succ_iff_lt_or_eq.1 hl with h | h
      ·exact hN.out l h
      ·rw [h]
       intro x hx
       obtain ⟨m, hm, rfl⟩ := List.getElem_of_mem hx
       rw [← gt_eq _ m hm]; exact hM.out m hm)⟩
     case measure => simp [intOf]; omega
  ·have hie : i = GS.length := by omega
   subst hie
   go_wp2
   go_ret
   exact ⟨_, rfl, grown_trans hg1 hg, true, rfl, by
    simp only [true_iff]
    unfold NormG
    rw [HGS.out]
    intro g hgm x hx
    obtain ⟨l, hl, rfl⟩ := List.getElem_of_mem hgm
    rw [← gt_eq _ l hl]; exact hN.out l hl x hx⟩
end Go.Proofs.YtdcobapnlpeaaaaGreat
namespace Go.Proofs.YtdcobapnlpeaaaaGreat
open Go.RowKit
def takeP (P : Pr) (has : List Int → Prop) (k : Nat) (y : List Int) : Prop := y ∈ (allEl P).take k ∧ has y
theorem takeP_zero (P : Pr) (has : List Int → Prop) : takeP P has 0 = fun _ => False := by
 funext y; unfold takeP; simp
theorem takeP_yes {P : Pr} {has : List Int → Prop} {k : Nat} (hk : k < (allEl P).length) (h : has (gt (allEl P) k)) : takeP P has (k + 1) = fun y => takeP P has k y ∨ y ∈ [gt (allEl P) k] :=
 funext fun y => propext (by
  unfold takeP
  rw [List.take_add_one, List.getElem?_eq_getElem hk, List.mem_append, gt_eq _ _ hk]
  simp only [Option.toList_some, List.mem_singleton]
  constructor
  ·rintro ⟨h1 | h1, h2⟩
   ·exact .inl ⟨h1, h2⟩
   ·exact .inr h1
  ·rintro (⟨h1, h2⟩ | h1)
   ·exact ⟨.inl h1, h2⟩
   ·exact ⟨.inr h1, by rw [h1, ← gt_eq _ _ hk]; exact h⟩)
theorem takeP_no {P : Pr} {has : List Int → Prop} {k : Nat} (hk : k < (allEl P).length) (h : ¬ has (gt (allEl P) k)) : takeP P has (k + 1) = takeP P has k :=
 funext fun y => propext (by
  unfold takeP
  rw [List.take_add_one, List.getElem?_eq_getElem hk, List.mem_append]
  simp only [Option.toList_some, List.mem_singleton]
  constructor
  ·rintro ⟨h1 | h1, h2⟩
   ·exact ⟨h1, h2⟩
   ·rw [h1, ← gt_eq _ _ hk] at h2; exact absurd h2 h
  ·rintro ⟨h1, h2⟩
   exact ⟨.inl h1, h2⟩)
theorem takeP_all {P : Pr} (hP : Valid P) (has : List Int → Prop) : takeP P has (allEl P).length = fun y => Vec P.orders y ∧ has y :=
 funext fun y => propext (by
  unfold takeP
  rw [List.take_length]
  have hm : y ∈ allEl P ↔ Vec P.orders y := by
   unfold allEl
   rw [List.mem_map]
   constructor
   ·rintro ⟨k, hk, rfl⟩
    exact elAt_vec hP _ (by omega)
   ·intro h
    have hb := num_bd hP h
    exact ⟨(num P y).toNat, by rw [List.mem_range]; omega, by rw [show (((num P y).toNat : Nat) : Int) = num P y by omega]; exact elAt_num hP h⟩
  rw [hm])
theorem genP_takeP_vec {P : Pr} (hP : Valid P) {has : List Int → Prop} {k : Nat} : ∀ y, takeP P has k y → Vec P.orders y := fun y h => by
 have := List.mem_of_mem_take h.1
 unfold allEl at this
 rw [List.mem_map] at this
 obtain ⟨j, hj, rfl⟩ := this
 exact elAt_vec hP _ (by omega)
end Go.Proofs.YtdcobapnlpeaaaaGreat
namespace Go.Proofs.YtdcobapnlpeaaaaGreat
open Go.RowKit
theorem isZero_true {l : List Int} : isZeroB l = true ↔ ∀ k, k < l.length → gt l k = 0 := by
 unfold isZeroB allB
 simp
set_option maxRecDepth 100000 in
set_option maxHeartbeats 1000000 in
theorem orderOfElement_ok (P : Pr) (G : Grp P) (w : World) (p x : Value) (X : List Int) (Sp Sx : Nat → Prop) (hp : PresP Sp w p P) (hx : Ints Sx w x X) (hX : Vec P.orders X) :
  Calls Tryz.prog 102 #[p, x] w (Ret w fun _ v => ∃ m : Int, v = .int .i64 m ∧ 1 ≤ m ∧ m ≤ 729 ∧ pw P X m.toNat = zeros P.orders.length) := by
 have hP := G.v
 have hn6 := hP.n6
 obtain ⟨pb, po, rfl⟩ := hp.shape
 obtain ⟨ao, capo, hco0, hoi⟩ := hp.ordAt
 have HCO := Lib.hid hco0; clear hco0
 have h729 := hP.le729
 have hpre : ∀ d, d ≤ P.orders.length → prodTo P.orders d ≤ 729 := fun d hd => by have := hP.pre d hd; omega
 have HPRE := Lib.hid hpre; clear hpre h729
 go_enter Tryz.func102, Tryz.ntmps102
 go_wp2
 go_loopw [5, 6, 7] (fun kv dv nv wr => ∃ (d : Nat) (m : Int), dv = .int .i64 d ∧ kv = .int .i64 m ∧ d ≤ P.orders.length ∧ 1 ≤ m ∧ m ≤ prodTo P.orders d ∧ Ext w wr ∧ Ints Any wr nv (pw P X m.toNat) ∧ T P d (pw P X m.toNat)) (fun _ dv _ _ => P.orders.length - (intOf dv).toNat)
 case atStart =>
  have e : pw P X (1 : Int).toNat = X := G.pw_one hX
  exact ⟨0, 1, rfl, rfl, by omega, by omega, by simp [prodTo], Ext.refl _, by rw [e]; exact Ints.sub hx (fun _ _ _ => trivial), by rw [e]; exact T_zero.2 hX⟩
 case round =>
  obtain ⟨d, m, rfl, rfl, hd, hm1, hm2, hg, hN, hT⟩ := hrel
  obtain ⟨Y, hY⟩ : ∃ Y, Y = pw P X m.toNat := ⟨_, rfl⟩
  rw [← hY] at hN hT
  have HY := Lib.hid hY; clear hY
  have hm3 : m ≤ 729 := by have := HPRE.out d hd; omega
  have hNl : Y.length ≤ P.orders.length ∧ P.orders.length ≤ Y.length := by rw [hT.1.1]; omega
  obtain ⟨an, capn, rfl, _, _⟩ := hN.shape
  have HT := Lib.hid (And.intro hT hm2); clear hT hm2
  cases hz : isZeroB Y with
  | true =>
   have h0 : pw P X m.toNat = zeros P.orders.length := HY.out.symm.trans (Vec.ext HT.out.1.1 (zeros_vec hP) (fun k hk => by
    rw [isZero_true.1 hz k (by omega)]; exact (gt_replicate _ _).symm))
   have H0 := Lib.hid h0; clear h0
   go_wp2_with (go_at_call 208; refine (isZero_ok _ _ wr Any hN).mono ?_; rintro e1 w1 ⟨rfl, rfl⟩)
   go_ret
   exact ⟨_, rfl, hg, m, rfl, hm1, hm3, H0.out⟩
  | false =>
   have hdn : d < P.orders.length := by
    rcases Nat.lt_or_ge d P.orders.length with h | h
    ·exact h
    ·exfalso
     have : isZeroB Y = true := isZero_true.2 (fun k hk => HT.out.1.2 k (by omega))
     rw [hz] at this; cases this
   obtain ⟨b, off, hab, _, _, hc⟩ := Ints.at hN d (by omega)
   cases hab
   have hdl : (d : Int) < Y.length := by omega
   by_cases hx0 : gt Y d = 0
   ·have hb : (gt Y d != 0) = false := by simp [hx0]
    have hT2 := HT.out.1.up hx0
    have hm4 : m ≤ prodTo P.orders (d + 1) := by
     have h1 := HT.out.2
     have h2 := hP.ord7 d hdn
     have h3 : prodTo P.orders d * 1 ≤ prodTo P.orders d * gt P.orders d := Int.mul_le_mul_of_nonneg_left (by omega) (by omega)
     simp only [prodTo]; omega
    have HT2 := Lib.hid (And.intro hT2 hm4); clear hT2 hm4
    clear hx0
    go_wp2_with (go_at_call 208; refine (isZero_ok _ _ wr Any hN).mono ?_; rintro e1 w1 ⟨rfl, rfl⟩)
    go_roundw
    case rel => exact ⟨d + 1, m, by go_num, rfl, by omega, hm1, HT2.out.2, hg, by rw [← HY.out]; exact hN, by rw [← HY.out]; exact HT2.out.1⟩
    case measure => simp [intOf]; omega
   ·have hb : (gt Y d != 0) = true := by simp [hx0]
    have ho := hP.ord7 d hdn
    obtain ⟨b2, off2, hab2, _, _, hc2⟩ := Ints.at (hoi.ext hg) d hdn
    cases hab2
    have hco := hg.cell HCO.out (by simp)
    have hdo : (d : Int) < P.orders.length := by omega
    have hpw := G.pw_order hdn HT.out.1
    have e1 : pw P Y (gt P.orders d).toNat = pw P X (m * gt P.orders d).toNat := by
     rw [HY.out, ← G.pw_mul hX]
     congr 1
     have : ((m.toNat * (gt P.orders d).toNat : Nat) : Int) = m * gt P.orders d := by
      rw [Int.natCast_mul, show ((m.toNat : Nat) : Int) = m by omega, show (((gt P.orders d).toNat : Nat) : Int) = gt P.orders d by omega]
     omega
    rw [e1] at hpw
    have e2 : iPow P Y (gt P.orders d) = pw P X (m * gt P.orders d).toNat := by rw [G.iPow_eq HT.out.1.1]; exact e1
    have hm4 : m * gt P.orders d ≤ prodTo P.orders (d + 1) := Int.mul_le_mul_of_nonneg_right HT.out.2 (by omega)
    have hm5 : prodTo P.orders (d + 1) ≤ 729 := HPRE.out (d + 1) (by omega)
    have hm6 : 1 ≤ m * gt P.orders d := by
     have : 1 * 1 ≤ m * gt P.orders d := Int.mul_le_mul hm1 (by omega) (by omega) (by omega)
     omega
    have hwm : IntKind.i64.wrap (m * gt P.orders d) = m * gt P.orders d := IntWalk.i64_in _ (by omega)
    have HE := Lib.hid (And.intro e2 (And.intro hpw hm4)); clear e1 e2 hpw hm4 hx0
    go_wp2_with (first | (go_at_call 208; refine (isZero_ok _ _ wr Any hN).mono ?_; rintro e1 w1 ⟨rfl, rfl⟩) | fail)
    refine Calls.mono (power_ok P hP wr _ _ _ (gt P.orders d) _ _ (hp.ext hg) hN HT.out.1.1 (by omega)) ?_
    rintro eA wA ⟨vA, rfl, hgA, hOA⟩
    rw [HE.out.1] at hOA
    have hcoA := hgA.cell hco (by simp)
    have hc2A := hgA.cell hc2 (by simp)
    have hNA : Ints Any wA vA (pw P X (m * gt P.orders d).toNat) := hOA.ints (by rw [HE.out.2.1.1.1]; omega)
    clear hco hc2 hc
    go_wp2
    go_roundw
    case rel => exact ⟨d + 1, m * gt P.orders d, by go_num, rfl, by omega, hm6, HE.out.2.2, grown_trans hg hgA, hNA, HE.out.2.1⟩
    case measure => simp [intOf]; omega
end Go.Proofs.YtdcobapnlpeaaaaGreat
namespace Go.Proofs.YtdcobapnlpeaaaaGreat
section
variable {P : Pr} (G : Grp P)
include G
theorem Grp.pw_conj {x g : List Int} (hx : Vec P.orders x) (hg : Vec P.orders g) (k : Nat) : pw P (rConj P x g) k = rConj P (pw P x k) g := by
 induction k with
 | zero => exact (G.conj_zeros hg).symm
 | succ k ih => rw [pw_succ, pw_succ, ih, G.conj_hom (G.pw_vec hx k) hx hg]
theorem Grp.pwZ_conj {x g : List Int} (hx : Vec P.orders x) (hg : Vec P.orders g) (k : Int) : pwZ P (rConj P x g) k = rConj P (pwZ P x k) g := by
 unfold pwZ
 split
 ·rw [← G.conj_inv hx hg, G.pw_conj (G.invV hx) hg]
 ·exact G.pw_conj hx hg _
end
end Go.Proofs.YtdcobapnlpeaaaaGreat
namespace Go.Proofs.YtdcobapnlpeaaaaGreat
open Go.RowKit
open Classical in
noncomputable def pcC (P : Pr) (K : Int) : Int := if rconsB P = true then (if 1 ≤ K ∧ K ≤ 1000000 then (if 128 < ordP P then 3 else 0) else 2) else 1
theorem pcC_bad {P : Pr} {K : Int} (h : ¬ rconsB P = true) : pcC P K = 1 := if_neg h
theorem pcC_range {P : Pr} {K : Int} (h : rconsB P = true) (h2 : ¬ (1 ≤ K ∧ K ≤ 1000000)) : pcC P K = 2 := by unfold pcC; rw [if_pos h, if_neg h2]
theorem pcC_big {P : Pr} {K : Int} (h : rconsB P = true) (h2 : 1 ≤ K ∧ K ≤ 1000000) (h3 : 128 < ordP P) : pcC P K = 3 := by unfold pcC; rw [if_pos h, if_pos h2, if_pos h3]
theorem pcC_ok {P : Pr} {K : Int} (h : rconsB P = true) (h2 : 1 ≤ K ∧ K ≤ 1000000) (h3 : ¬ 128 < ordP P) : pcC P K = 0 := by unfold pcC; rw [if_pos h, if_pos h2, if_neg h3]
theorem pcC_zero {P : Pr} {K : Int} (h : pcC P K = 0) : rconsB P = true ∧ (1 ≤ K ∧ K ≤ 1000000) ∧ ¬ 128 < ordP P := by
 by_cases h1 : rconsB P = true
 ·by_cases h2 : 1 ≤ K ∧ K ≤ 1000000
  ·by_cases h3 : 128 < ordP P
   ·rw [pcC_big h1 h2 h3] at h; omega
   ·exact ⟨h1, h2, h3⟩
  ·rw [pcC_range h1 h2] at h; omega
 ·rw [pcC_bad h1] at h; omega
def pwL (P : Pr) (K : Int) (k : Nat) : List (List Int) := ((allEl P).take k).map (fun x => pwZ P x K)
theorem pwL_succ (P : Pr) (K : Int) {k : Nat} (h : k < (allEl P).length) : pwL P K (k + 1) = pwL P K k ++ [pwZ P (gt (allEl P) k) K] := by
 unfold pwL
 rw [take_succ_gt _ k h, List.map_append]; rfl
theorem pwL_len (P : Pr) (K : Int) (k : Nat) : (pwL P K k).length ≤ k := by unfold pwL; rw [List.length_map, List.length_take]; omega
def pwS (P : Pr) (K : Int) : List Int → Prop := genP P (fun y => y ∈ pwL P K (allEl P).length)
def rtS (P : Pr) (K : Int) : List Int → Prop := genP P (fun y => Vec P.orders y ∧ pwZ P y K = zeros P.orders.length)
open Classical in
noncomputable def psL (P : Pr) (K : Int) : List (List Int) := if pcC P K = 0 then cseq P (pwS P K) else []
theorem psL_ok {P : Pr} {K : Int} (h : pcC P K = 0) : psL P K = cseq P (pwS P K) := if_pos h
theorem psL_no {P : Pr} {K : Int} (h : ¬ pcC P K = 0) : psL P K = [] := if_neg h
section
variable {P : Pr} (G : Grp P)
include G
theorem Grp.allEl_vec : ∀ x ∈ allEl P, Vec P.orders x := fun x hx => by
 have := genP_takeP_vec G.v (has := fun _ => True) (k := (allEl P).length) x ⟨by rw [List.take_length]; exact hx, trivial⟩
 exact this
theorem Grp.allEl_mem {x : List Int} (hx : Vec P.orders x) : x ∈ allEl P := by
 have h := congrFun (takeP_all G.v (fun _ => True)) x
 have : takeP P (fun _ => True) (allEl P).length x := by rw [h]; exact ⟨hx, trivial⟩
 have h2 := this.1
 rw [List.take_length] at h2; exact h2
theorem Grp.pwL_vec (K : Int) (k : Nat) : ∀ y ∈ pwL P K k, Vec P.orders y := fun y hy => by
 obtain ⟨x, hx, rfl⟩ := List.mem_map.1 hy
 exact G.pwZ_vec (G.allEl_vec x (List.mem_of_mem_take hx)) K
theorem Grp.pwS_sub (K : Int) : Sub P (pwS P K) := G.genP_sub (G.pwL_vec K _)
theorem Grp.rtS_sub (K : Int) : Sub P (rtS P K) := G.genP_sub (fun _ h => h.1)
theorem Grp.pwS_mem (K : Int) {x : List Int} (hx : Vec P.orders x) : pwS P K (pwZ P x K) := genP_mem (List.mem_map.2 ⟨x, by rw [List.take_length]; exact G.allEl_mem hx, rfl⟩)
theorem Grp.gen_norm {Q : List Int → Prop} (hv : ∀ x, Q x → Vec P.orders x) (hq : ∀ x g, Q x → Vec P.orders g → Q (rConj P x g)) {x g : List Int} (hx : genP P Q x) (hg : Vec P.orders g) : genP P Q (rConj P x g) := by
 have S := G.genP_sub hv
 refine hx (fun y => Vec P.orders y ∧ genP P Q (rConj P y g)) ⟨fun y h => h.1, ⟨G.oneV, by rw [G.conj_zeros hg]; exact S.one⟩, fun a b ha hb => ⟨G.mulV ha.1 hb.1, by rw [G.conj_hom ha.1 hb.1 hg]; exact S.mul _ _ ha.2 hb.2⟩, fun a ha => ⟨G.invV ha.1, by rw [G.conj_inv ha.1 hg]; exact S.inv _ ha.2⟩⟩ (fun y hy => ⟨hv y hy, genP_mem (hq y g hy hg)⟩) |>.2
theorem Grp.pwS_norm (K : Int) {x g : List Int} (hx : pwS P K x) (hg : Vec P.orders g) : pwS P K (rConj P x g) :=
 G.gen_norm (G.pwL_vec K _) (fun y g hy hg => by
  obtain ⟨z, hz, rfl⟩ := List.mem_map.1 hy
  have hzV := G.allEl_vec z (List.mem_of_mem_take hz)
  rw [← G.pwZ_conj hzV hg]
  exact List.mem_map.2 ⟨_, by rw [List.take_length]; exact G.allEl_mem (G.conjV hzV hg), rfl⟩) hx hg
theorem Grp.rtS_norm (K : Int) {x g : List Int} (hx : rtS P K x) (hg : Vec P.orders g) : rtS P K (rConj P x g) :=
 G.gen_norm (fun _ h => h.1) (fun y g hy hg => ⟨G.conjV hy.1 hg, by rw [G.pwZ_conj hy.1 hg, hy.2, G.conj_zeros hg]⟩) hx hg
def ExpTo (P : Pr) (k : Nat) (e : Nat) : Prop := 1 ≤ e ∧ (∀ x ∈ (allEl P).take k, pw P x e = zeros P.orders.length) ∧ ∀ j : Nat, (∀ x ∈ (allEl P).take k, pw P x j = zeros P.orders.length) → e ∣ j
theorem Grp.exp_triv {e k : Nat} (h : ExpTo P (allEl P).length e) : (∀ x, Vec P.orders x → pw P x k = zeros P.orders.length) ↔ e ∣ k := by
 obtain ⟨h1, h2, h3⟩ := h
 rw [List.take_length] at h2 h3
 constructor
 ·intro hk
  exact h3 k (fun x hx => hk x (G.allEl_vec x hx))
 ·rintro ⟨m, rfl⟩ x hx
  rw [G.pw_mul hx, h2 x (G.allEl_mem hx)]
  induction m with
  | zero => rfl
  | succ m ih => rw [pw_succ, ih, G.grp.el _ G.oneV]
theorem Grp.seq_nil {H : List Int → Prop} (S : Sub P H) : (cseq P H).length = 0 ↔ ∀ x, H x → x = zeros P.orders.length := by
 constructor
 ·intro h x hx
  have e : cseq P H = [] := List.length_eq_zero_iff.1 h
  have e2 : cseq P H = cseq P (fun x => x = zeros P.orders.length) := by
   rw [e]
   have hf := G.seq_facts G.sub_one
   cases hc : cseq P (fun x => x = zeros P.orders.length) with
   | nil => rfl
   | cons z l =>
    exfalso
    have hz := hf.2.1 z (by rw [hc]; exact List.mem_cons_self ..)
    have hs := (hf.1.1 z (by rw [hc]; exact List.mem_cons_self ..)).2.2
    rw [hz] at hs
    have : gt (zeros P.orders.length) (dep (zeros P.orders.length)) = 0 := gt_replicate _ _
    omega
  have e3 := G.cseq_one S G.sub_one e2
  rw [e3] at hx; exact hx
 ·intro h
  have e : H = fun x => x = zeros P.orders.length := funext fun x => propext ⟨h x, fun hx => by rw [hx]; exact S.one⟩
  have hf := G.seq_facts S
  cases hc : cseq P H with
  | nil => rfl
  | cons z l =>
   exfalso
   have hz := h z (hf.2.1 z (by rw [hc]; exact List.mem_cons_self ..))
   have hs := (hf.1.1 z (by rw [hc]; exact List.mem_cons_self ..)).2.2
   rw [hz] at hs
   have : gt (zeros P.orders.length) (dep (zeros P.orders.length)) = 0 := gt_replicate _ _
   omega
theorem Grp.pwS_triv {K : Int} (hK : 0 ≤ K) {e : Nat} (h : ExpTo P (allEl P).length e) : (cseq P (pwS P K)).length = 0 ↔ e ∣ K.toNat := by
 rw [G.seq_nil (G.pwS_sub K), ← G.exp_triv h]
 have hz : ∀ x, pwZ P x K = pw P x K.toNat := fun x => by unfold pwZ; rw [if_neg (by omega)]
 constructor
 ·intro hh x hx
  rw [← hz]; exact hh _ (G.pwS_mem K hx)
 ·intro hh x hx
  refine hx _ G.sub_one (fun y hy => ?_)
  obtain ⟨z, hz2, rfl⟩ := List.mem_map.1 hy
  rw [hz]; exact hh z (G.allEl_vec z (List.mem_of_mem_take hz2))
theorem Grp.rtS_whole {K : Int} (hK : 0 ≤ K) {e : Nat} (h : ExpTo P (allEl P).length e) (hd : e ∣ K.toNat) : rtS P K = Vec P.orders :=
 funext fun x => propext ⟨fun hx => (G.rtS_sub K).vec x hx, fun hx => genP_mem ⟨hx, by
  unfold pwZ; rw [if_neg (by omega)]; exact (G.exp_triv h).2 hd x hx⟩⟩
end
end Go.Proofs.YtdcobapnlpeaaaaGreat
namespace Go.Proofs.YtdcobapnlpeaaaaGreat
open Go.RowKit
theorem prime_dvd {p y : Int} (hp : p = 2 ∨ p = 3 ∨ p = 5 ∨ p = 7) (h0 : 0 ≤ y) (h1 : y < p) (hy : ¬ y = 0) (i : Nat) (h : ((i : Int) * y) % p = 0) : p.toNat ∣ i := by
 have key : (i : Int) % p = 0 := by
  rcases hp with rfl | rfl | rfl | rfl
  ·obtain rfl : y = 1 := by omega
   omega
  ·obtain rfl | rfl : y = 1 ∨ y = 2 := by omega
   all_goals omega
  ·obtain rfl | rfl | rfl | rfl : y = 1 ∨ y = 2 ∨ y = 3 ∨ y = 4 := by omega
   all_goals omega
  ·obtain rfl | rfl | rfl | rfl | rfl | rfl : y = 1 ∨ y = 2 ∨ y = 3 ∨ y = 4 ∨ y = 5 ∨ y = 6 := by omega
   all_goals omega
 rcases hp with rfl | rfl | rfl | rfl
 ·exact (Nat.dvd_of_mod_eq_zero (by omega) : 2 ∣ i)
 ·exact (Nat.dvd_of_mod_eq_zero (by omega) : 3 ∣ i)
 ·exact (Nat.dvd_of_mod_eq_zero (by omega) : 5 ∣ i)
 ·exact (Nat.dvd_of_mod_eq_zero (by omega) : 7 ∣ i)
set_option maxRecDepth 100000 in
set_option maxHeartbeats 1000000 in
theorem orderOfElement3_ok (P : Pr) (G : Grp P) (w : World) (p x : Value) (X : List Int) (Sp Sx : Nat → Prop) (hp : PresP Sp w p P) (hx : Ints Sx w x X) (hX : Vec P.orders X) :
  Calls Tryz.prog 102 #[p, x] w (Ret w fun _ v => ∃ m : Int, v = .int .i64 m ∧ 1 ≤ m ∧ m ≤ 729 ∧ pw P X m.toNat = zeros P.orders.length ∧ ∀ j : Nat, pw P X j = zeros P.orders.length → m.toNat ∣ j) := by
 have hP := G.v
 have hn6 := hP.n6
 obtain ⟨pb, po, rfl⟩ := hp.shape
 obtain ⟨ao, capo, hco0, hoi⟩ := hp.ordAt
 have HCO := Lib.hid hco0; clear hco0
 have h729 := hP.le729
 have hpre : ∀ d, d ≤ P.orders.length → prodTo P.orders d ≤ 729 := fun d hd => by have := hP.pre d hd; omega
 have HPRE := Lib.hid hpre; clear hpre h729
 go_enter Tryz.func102, Tryz.ntmps102
 go_wp2
 go_loopw [5, 6, 7] (fun kv dv nv wr => ∃ (d : Nat) (m : Int), dv = .int .i64 d ∧ kv = .int .i64 m ∧ d ≤ P.orders.length ∧ 1 ≤ m ∧ m ≤ prodTo P.orders d ∧ Ext w wr ∧ Ints Any wr nv (pw P X m.toNat) ∧ T P d (pw P X m.toNat) ∧ Hid (∀ j : Nat, pw P X j = zeros P.orders.length → m.toNat ∣ j)) (fun _ dv _ _ => P.orders.length - (intOf dv).toNat)
 case atStart =>
  have e : pw P X (1 : Int).toNat = X := G.pw_one hX
  exact ⟨0, 1, rfl, rfl, by omega, by omega, by simp [prodTo], Ext.refl _, by rw [e]; exact Ints.sub hx (fun _ _ _ => trivial), by rw [e]; exact T_zero.2 hX, Lib.hid (fun j _ => Nat.one_dvd j)⟩
 case round =>
  obtain ⟨d, m, rfl, rfl, hd, hm1, hm2, hg, hN, hT, hLe⟩ := hrel
  obtain ⟨Y, hY⟩ : ∃ Y, Y = pw P X m.toNat := ⟨_, rfl⟩
  rw [← hY] at hN hT
  have HY := Lib.hid hY; clear hY
  have hm3 : m ≤ 729 := by have := HPRE.out d hd; omega
  have hNl : Y.length ≤ P.orders.length ∧ P.orders.length ≤ Y.length := by rw [hT.1.1]; omega
  obtain ⟨an, capn, rfl, _, _⟩ := hN.shape
  have HT := Lib.hid (And.intro hT hm2); clear hT hm2
  cases hz : isZeroB Y with
  | true =>
   have h0 : pw P X m.toNat = zeros P.orders.length := HY.out.symm.trans (Vec.ext HT.out.1.1 (zeros_vec hP) (fun k hk => by
    rw [isZero_true.1 hz k (by omega)]; exact (gt_replicate _ _).symm))
   have H0 := Lib.hid h0; clear h0
   go_wp2_with (go_at_call 208; refine (isZero_ok _ _ wr Any hN).mono ?_; rintro e1 w1 ⟨rfl, rfl⟩)
   go_ret
   exact ⟨_, rfl, hg, m, rfl, hm1, hm3, H0.out, hLe.out⟩
  | false =>
   have hdn : d < P.orders.length := by
    rcases Nat.lt_or_ge d P.orders.length with h | h
    ·exact h
    ·exfalso
     have : isZeroB Y = true := isZero_true.2 (fun k hk => HT.out.1.2 k (by omega))
     rw [hz] at this; cases this
   obtain ⟨b, off, hab, _, _, hc⟩ := Ints.at hN d (by omega)
   cases hab
   have hdl : (d : Int) < Y.length := by omega
   by_cases hx0 : gt Y d = 0
   ·have hb : (gt Y d != 0) = false := by simp [hx0]
    have hT2 := HT.out.1.up hx0
    have hm4 : m ≤ prodTo P.orders (d + 1) := by
     have h1 := HT.out.2
     have h2 := hP.ord7 d hdn
     have h3 : prodTo P.orders d * 1 ≤ prodTo P.orders d * gt P.orders d := Int.mul_le_mul_of_nonneg_left (by omega) (by omega)
     simp only [prodTo]; omega
    have HT2 := Lib.hid (And.intro hT2 hm4); clear hT2 hm4
    clear hx0
    go_wp2_with (go_at_call 208; refine (isZero_ok _ _ wr Any hN).mono ?_; rintro e1 w1 ⟨rfl, rfl⟩)
    go_roundw
    case rel => exact ⟨d + 1, m, by go_num, rfl, by omega, hm1, HT2.out.2, hg, by rw [← HY.out]; exact hN, by rw [← HY.out]; exact HT2.out.1, hLe⟩
    case measure => simp [intOf]; omega
   ·have hb : (gt Y d != 0) = true := by simp [hx0]
    have ho := hP.ord7 d hdn
    obtain ⟨b2, off2, hab2, _, _, hc2⟩ := Ints.at (hoi.ext hg) d hdn
    cases hab2
    have hco := hg.cell HCO.out (by simp)
    have hdo : (d : Int) < P.orders.length := by omega
    have hpw := G.pw_order hdn HT.out.1
    have e1 : pw P Y (gt P.orders d).toNat = pw P X (m * gt P.orders d).toNat := by
     rw [HY.out, ← G.pw_mul hX]
     congr 1
     have : ((m.toNat * (gt P.orders d).toNat : Nat) : Int) = m * gt P.orders d := by
      rw [Int.natCast_mul, show ((m.toNat : Nat) : Int) = m by omega, show (((gt P.orders d).toNat : Nat) : Int) = gt P.orders d by omega]
     omega
    rw [e1] at hpw
    have e2 : iPow P Y (gt P.orders d) = pw P X (m * gt P.orders d).toNat := by rw [G.iPow_eq HT.out.1.1]; exact e1
    have hm4 : m * gt P.orders d ≤ prodTo P.orders (d + 1) := Int.mul_le_mul_of_nonneg_right HT.out.2 (by omega)
    have hm5 : prodTo P.orders (d + 1) ≤ 729 := HPRE.out (d + 1) (by omega)
    have hm6 : 1 ≤ m * gt P.orders d := by
     have : 1 * 1 ≤ m * gt P.orders d := Int.mul_le_mul hm1 (by omega) (by omega) (by omega)
     omega
    have hwm : IntKind.i64.wrap (m * gt P.orders d) = m * gt P.orders d := IntWalk.i64_in _ (by omega)
    have hle2 : ∀ j : Nat, pw P X j = zeros P.orders.length → (m * gt P.orders d).toNat ∣ j := fun j hj => by
     obtain ⟨i, rfl⟩ := hLe.out j hj
     have h1 := G.pw_at hdn HT.out.1 i
     rw [HY.out, ← G.pw_mul hX, hj, ← HY.out, show gt (zeros P.orders.length) d = 0 from gt_replicate _ _] at h1
     have h2 := HT.out.1.1.2 d hdn
     have h3 := prime_dvd (hP.ord d hdn) h2.1 h2.2 hx0 i h1.symm
     obtain ⟨k, rfl⟩ := h3
     refine ⟨k, ?_⟩
     have e : (m * gt P.orders d).toNat = m.toNat * (gt P.orders d).toNat := by
      have : ((m.toNat * (gt P.orders d).toNat : Nat) : Int) = m * gt P.orders d := by
       rw [Int.natCast_mul, show ((m.toNat : Nat) : Int) = m by omega, show (((gt P.orders d).toNat : Nat) : Int) = gt P.orders d by omega]
      omega
     rw [e, Nat.mul_assoc]
    have HE := Lib.hid (And.intro e2 (And.intro hpw (And.intro hm4 hle2))); clear e1 e2 hpw hm4 hx0 hle2
    go_wp2_with (first | (go_at_call 208; refine (isZero_ok _ _ wr Any hN).mono ?_; rintro e1 w1 ⟨rfl, rfl⟩) | fail)
    refine Calls.mono (power_ok P hP wr _ _ _ (gt P.orders d) _ _ (hp.ext hg) hN HT.out.1.1 (by omega)) ?_
    rintro eA wA ⟨vA, rfl, hgA, hOA⟩
    rw [HE.out.1] at hOA
    have hcoA := hgA.cell hco (by simp)
    have hc2A := hgA.cell hc2 (by simp)
    have hNA : Ints Any wA vA (pw P X (m * gt P.orders d).toNat) := hOA.ints (by rw [HE.out.2.1.1.1]; omega)
    clear hco hc2 hc
    go_wp2
    go_roundw
    case rel => exact ⟨d + 1, m * gt P.orders d, by go_num, rfl, by omega, hm6, HE.out.2.2.1, grown_trans hg hgA, hNA, HE.out.2.1, Lib.hid HE.out.2.2.2⟩
    case measure => simp [intOf]; omega
end Go.Proofs.YtdcobapnlpeaaaaGreat
namespace Go.Proofs.YtdcobapnlpeaaaaGreat
open Go.RowKit
set_option maxRecDepth 100000 in
set_option maxHeartbeats 2000000 in
theorem powersCode_ok (P : Pr) (w : World) (p : Value) (K : Int) (Sp : Nat → Prop) (hp : PresP Sp w p P) :
  Calls Tryz.prog 97 #[p, .int .i64 K] w (Ret w fun _ v => v = .int .i64 (pcC P K)) := by
 obtain ⟨pb, po, rfl⟩ := hp.shape
 obtain ⟨vo, vp, vc, _, _, hc0, hc1, hc2, h3⟩ := hp.at
 obtain ⟨ao, capo, rfl, _, _⟩ := h3.o.shape
 obtain ⟨ap, capp, rfl, _, _⟩ := Sl.shape h3.p
 obtain ⟨ac, capc, rfl, _, _⟩ := Sl.shape h3.c
 have hcon := isConsistent_ok P w (.agg #[.slice ao P.orders.length capo, .slice ap P.powers.length capp, .slice ac P.conj.length capc]) Sp ⟨_, _, _, rfl, h3⟩
 rw [icons_eq] at hcon
 go_enter Tryz.func97, Tryz.ntmps97
 go_wp2_with fail
 refine Calls.mono hcon ?_
 rintro e1 w1 ⟨v, rfl, hg1, rfl⟩
 clear hcon hc0 hc1 hc2
 cases hq : rconsB P with
 | false =>
  have HC := Lib.hid (pcC_bad (P := P) (K := K) (by rw [hq]; simp)); clear hq
  go_wp2
  go_ret
  exact ⟨_, rfl, hg1, by rw [HC.out]; try rfl⟩
 | true =>
  have hP := (grp_of_r hq).v
  have HQ := Lib.hid hq; clear hq
  go_wp2_with fail
  refine Calls.mono (inside_ok K 1 1000000 w1) ?_
  rintro _ _ ⟨rfl, rfl⟩
  cases hi : inB K 1 1000000 with
  | false =>
   have HC := Lib.hid (pcC_range (P := P) (K := K) HQ.out (by simpa [inB] using hi)); clear hi
   go_wp2
   go_ret
   exact ⟨_, rfl, hg1, by rw [HC.out]; try rfl⟩
  | true =>
   have HI := Lib.hid (show 1 ≤ K ∧ K ≤ 1000000 by simpa [inB] using hi); clear hi
   go_wp2_with fail
   refine Calls.mono (orderOf_ok w1 _ P Sp hP (hp.ext hg1)) ?_
   rintro _ _ ⟨rfl, rfl⟩
   by_cases hb : 128 < ordP P
   ·have HC := Lib.hid (pcC_big (K := K) HQ.out HI.out hb)
    go_wp2
    go_ret
    exact ⟨_, rfl, hg1, by rw [HC.out]; try rfl⟩
   ·have HC := Lib.hid (pcC_ok (K := K) HQ.out HI.out hb)
    go_wp2
    go_ret
    exact ⟨_, rfl, hg1, by rw [HC.out]; try rfl⟩
set_option maxRecDepth 100000 in
set_option maxHeartbeats 4000000 in
theorem iPowS_ok (P : Pr) (K : Int) (w : World) (pv : Value) (Sp : Nat → Prop) (hpv : PresV Sp w pv P) :
  Calls Tryz.prog 17 #[pv, .int .i64 K] w (Ret w fun w' v => ∃ a n c, v = .tuple #[.slice a n c, .int .i64 (pcC P K)] ∧ RowsO w.heap.size w' (.slice a n c) (psL P K)) := by
 obtain ⟨vo, vp, vc, rfl, h3⟩ := hpv
 have hp := PresP.box h3 28
 have hg0 : Ext w (w.alloc (.cells #[vo, vp, vc] 28)) := World.grownBy_alloc _ _ _
 have hs0 : (w.alloc (.cells #[vo, vp, vc] 28)).heap.size = w.heap.size + 1 := by simp
 go_enter Tryz.func17, Tryz.ntmps17
 go_wp2_with fail
 generalize w.alloc (.cells #[vo, vp, vc] 28) = w0 at *
 clear h3
 refine Calls.mono (powersCode_ok P w0 _ K Any hp) ?_
 rintro eC wC ⟨vC, rfl, hgC, rfl⟩
 by_cases hz : pcC P K = 0
 case neg =>
  have hzb : (pcC P K != 0) = true := by simpa using hz
  have HZ := Lib.hid (psL_no hz); clear hz
  go_wp2
  go_ret2
  exact ⟨_, rfl, grown_trans hg0 hgC, none, 0, 0, by rfl, by rw [HZ.out]; exact SlO.nil _ _ _ _⟩
 obtain ⟨hr, hK, h128⟩ := pcC_zero hz
 have G := grp_of_r hr
 have hP := G.v
 have hn6 := hP.n6
 have hpos := hP.ordP_pos
 have HPS := Lib.hid (psL_ok hz)
 rw [hz]
 have HZ0 := Lib.hid hz; clear hz hr
 have hpC := hp.ext hgC
 have hg0C := grown_trans hg0 hgC
 have hsC := hgC.size
 go_wp2_with fail
 refine Calls.mono (newSequence_ok P wC _ Any (fun _ => False) hpC hn6) ?_
 rintro e1 w1 ⟨v1, rfl, hg1, sb, gb, rfl, hs⟩
 have hgb := hs.tab.lt
 have hsb := hs.sB
 have hsl := hs.slt
 go_wp2_with fail
 refine Calls.mono (allElements_ok P hP w1 _ Any (hpC.ext hg1)) ?_
 rintro e2 w2 ⟨v2, rfl, hg2, hE⟩
 have hel : (allEl P).length = (ordP P).toNat := by simp [allEl]
 have hER : Rows2 (fun k => w1.heap.size ≤ k) w2 v2 (allEl P) := RowsD.rows (SlO.toD hE (by omega))
 obtain ⟨aE, capE, hvE, _, _⟩ := Sl.shape hER
 subst hvE
 obtain ⟨N, hN⟩ : ∃ N, N = (allEl P).length := ⟨_, rfl⟩
 rw [← hN]
 rw [← hN] at hER
 have hN729 : N ≤ 729 := by omega
 have hs2 := hs.kept (bad' := fun _ => False) hg2.size (fun k hk _ => hg2.block k hk (by simp)) (fun _ _ h => h)
 have hI0 : Ind P (genP P (fun y => y ∈ pwL P K 0)) (gt (List.replicate P.orders.length ([] : List Int))) := by
  have e : (fun y => y ∈ pwL P K 0) = fun _ => False := by funext y; unfold pwL; simp
  rw [e, G.genP_none]; exact G.ind_one
 have hg02 := grown_trans hg1 hg2
 have hm1 : w1.heap.size ≤ w2.heap.size := hg2.size
 have HN := Lib.hid (And.intro hN hI0); clear hN hI0 hel hE hpos hs
 go_wp2
 go_loopw [18] (fun iv wr => ∃ (k : Nat) (t : List (List Int)), iv = .int .i64 k ∧ k ≤ N ∧ w2.grownBy wr (some gb) ∧ SeqAt wC.heap.size (fun _ => False) wr sb gb (.pointer (some ⟨w.heap.size, 0, none⟩)) P.orders.length t ∧ Hid (Ind P (genP P (fun y => y ∈ pwL P K k)) (gt t))) (fun iv _ => N - (intOf iv).toNat)
 case atStart => exact ⟨0, _, rfl, by omega, grown_refl _ _, hs2, Lib.hid HN.out.2⟩
 case round =>
  clear hs2
  obtain ⟨k, t, rfl, hk, hg, hs, hI⟩ := hrel
  have hgw : Ext wC wr := grown_own hg02 hg (fun j hj hlt => by cases hj; omega)
  by_cases hlt : k < N
  ·have hlt' : (k : Int) < N := by omega
   have hkl : k < (allEl P).length := by rw [← HN.out.1]; exact hlt
   have hEr : Rows2 (fun k => w1.heap.size ≤ k) wr (.slice aE N capE) (allEl P) := Rows2.mono hER (frame_of hg (fun j hj _ => ⟨hj, fun e => by cases e; omega⟩))
   rw [HN.out.1] at hEr
   obtain ⟨bx, ox, a2, cap2, hab, _, _, hcx, hrx⟩ := Rows2.at hEr k hkl
   subst hab
   have hxV : Vec P.orders (gt (allEl P) k) := G.allEl_vec _ (gtMem hkl)
   have hstep := pwL_succ P K hkl
   obtain ⟨x, hx⟩ : ∃ x, x = gt (allEl P) k := ⟨_, rfl⟩
   rw [← hx] at hcx hrx hxV hstep
   have hkV := G.pwZ_vec hxV K
   have HX := Lib.hid (And.intro hxV (And.intro hstep hkV)); clear hxV hstep hx hkV
   go_wp2_with fail
   clear hcx
   refine Calls.mono (orderOfElement_ok P G wr _ _ x Any _ (hpC.ext hgw) hrx HX.out.1) ?_
   rintro eO wO ⟨vO, rfl, hgO, m, rfl, hm1, hm2, hm3⟩
   have hres := G.pw_residue HX.out.1 K m (by omega) hm3
   have hmb := Int.emod_lt_of_pos K (show 0 < m by omega)
   have hmn := Int.emod_nonneg K (show m ≠ 0 by omega)
   have hm0 : m ≠ 0 := by omega
   have HR := Lib.hid hres; clear hres hm3
   have hgwO := grown_trans hgw hgO
   go_wp2_with fail
   refine Calls.mono (power_ok P hP wO _ _ x (K % m) Any _ (hpC.ext hgwO) (Ints.ext hrx hgO) HX.out.1 (by omega)) ?_
   rintro e3 w3 ⟨v3, rfl, hg3, hO⟩
   rw [G.iPow_eq HX.out.1] at hO
   have hO2 : Own wO.heap.size w3 v3 (pwZ P x K) := by rw [← HR.out]; exact hO
   have hOi : Ints (fun k => wO.heap.size ≤ k) w3 v3 (pwZ P x K) := ints_of_own hO2 (by rw [HX.out.2.2.1]; omega) (fun k hk => (hO2.lt k hk).1)
   obtain ⟨a3, n3, c3, hv3⟩ : ∃ a n c, v3 = Value.slice a n c := by obtain ⟨a, c, e, _⟩ := hOi.shape; exact ⟨_, _, _, e⟩
   subst hv3
   have hg33 := grown_trans hgO hg3
   have hg23 : w2.grownBy w3 (some gb) := grown_trans hg (grown_of_ext _ hg33)
   have hs3 := hs.kept (bad' := fun _ => False) hg33.size (fun k hk _ => hg33.block k hk (by simp)) (fun _ _ h => h)
   have hm3 : w1.heap.size ≤ wO.heap.size := by have := hg.size; have := hgO.size; omega
   have hgw3 := grown_trans hgw hg33
   obtain ⟨y, hy⟩ : ∃ y, y = pwZ P x K := ⟨_, rfl⟩
   rw [← hy] at hOi
   have hgl : Ext w3 (w3.alloc (.cells #[.slice a3 n3 c3] 24)) := World.grownBy_alloc _ _ _
   have hsl4 := hs3.kept (bad' := fun _ => False) hgl.size (fun k hk _ => hgl.block k hk (by simp)) (fun _ _ h => h)
   have hlit : Rows2 (fun k => ¬ (k = gb ∨ k = sb)) (w3.alloc (.cells #[.slice a3 n3 c3] 24)) (.slice (some ⟨w3.heap.size, 0, none⟩) 1 1) [y] := by
    have hz3 := hg3.size
    refine ⟨some ⟨w3.heap.size, 0, none⟩, 1, rfl, ⟨by simp, by simp, fun h => by cases h⟩, fun i hi => ⟨w3.heap.size, 0, .slice a3 n3 c3, rfl, by omega, by simp, ?_, ?_⟩⟩
    ·have : i = 0 := by simpa using hi
     subst this
     rw [World.cell?_alloc_at _ _ _ _ rfl]; rfl
    ·have : i = 0 := by simpa using hi
     subst this
     exact Ints.sub (Ints.ext hOi hgl) (fun j hj _ => by
      have hj : wO.heap.size ≤ j := hj
      omega)
   have hx1 : ∀ z ∈ [y], Vec P.orders z := fun z hz => by rw [List.mem_singleton.1 hz, hy]; exact HX.out.2.2
   have HL := Lib.hid (And.intro hlit (And.intro hx1 hy)); clear hlit hx1 hy hOi hO hO2
   have hgwl := grown_trans hgw3 hgl
   go_wp2_with fail
   refine Calls.mono (add_ok P G _ sb gb wC.heap.size _ _ [y] t (genP P (fun y => y ∈ pwL P K k)) (hpC.mono (fun k _ hlt => ⟨by omega, Nat.lt_of_lt_of_le hlt hgwl.size, hgwl.block k hlt (by simp)⟩)) hsl4 hI.out HL.out.2.1 HL.out.1 (by simp)) ?_
   rintro e5 w5 ⟨t5, g5, rfl, hg5, hs5, hA, _, _⟩
   have hI5 : Ind P (genP P (fun y => y ∈ pwL P K (k + 1))) (gt t5) := by
    have e : (fun z => z ∈ pwL P K (k + 1)) = fun z => z ∈ pwL P K k ∨ z ∈ [y] := by
     funext z; rw [HX.out.2.1, List.mem_append, HL.out.2.2]
    rw [e, ← genP_or]; exact hA
   have HI5 := Lib.hid hI5; clear hI5 hA
   have hg25 : w2.grownBy w5 (some gb) := grown_trans (grown_trans hg23 (grown_of_ext _ hgl)) hg5
   clear hI hs hs3 hsl4 hg5 hEr
   go_wp2
   go_roundw
   case rel => exact ⟨k + 1, t5, by go_num, by omega, hg25, hs5, HI5⟩
   case measure => simp [intOf]; omega
  ·have hke : k = N := by omega
   have hIn : Ind P (pwS P K) (gt t) := by
    have := hI.out
    rw [hke, HN.out.1] at this; exact this
   have HIn := Lib.hid hIn; clear hIn hI
   go_wp2_with fail
   refine Calls.mono (canonical_ok P G wr sb gb wC.heap.size _ t _ _ _ (hpC.ext hgw) hs HIn.out) ?_
   rintro e3 w3 ⟨v3, rfl, hg3, hO⟩
   have hcl := G.cseq_len (G.pwS_sub K)
   obtain ⟨ad, nd, capd, hvd⟩ : ∃ a n c, v3 = Value.slice a n c := by obtain ⟨a, c, e, _⟩ := SlD.shape (hO.toD (by omega)); exact ⟨_, _, _, e⟩
   subst hvd
   have HO := Lib.hid hO; clear hO
   go_wp2
   go_ret2
   exact ⟨_, rfl, grown_trans hg0C (grown_trans hgw hg3), _, _, _, by rw [HZ0.out]; rfl, by rw [HPS.out]; exact HO.out.weak (by have := hg0.size; have := hgw.size; omega)⟩
set_option maxRecDepth 100000 in
set_option maxHeartbeats 2000000 in
theorem l17Code_ok (P : Pr) (w : World) (pv : Value) (K : Int) (Sp : Nat → Prop) (hpv : PresV Sp w pv P) :
  Calls Tryz.prog 104 #[pv, .int .i64 K] w (Ret w fun _ v => v = .int .i64 (pcC P K)) := by
 obtain ⟨vo, vp, vc, rfl, h3⟩ := hpv
 have hp0 := PresP.box h3 28
 have hg0 : Ext w (w.alloc (.cells #[vo, vp, vc] 28)) := World.grownBy_alloc _ _ _
 obtain ⟨vo6, vp6, vc6, _, _, hc0, hc1, hc2, h36⟩ := hp0.at
 simp only [Nat.zero_add] at hc1 hc2
 have hbx : ∀ w', Ext (w.alloc (.cells #[vo, vp, vc] 28)) w' → w'.cell? ⟨w.heap.size, 0, none⟩ = some vo6 ∧ w'.cell? ⟨w.heap.size, 1, none⟩ = some vp6 ∧ w'.cell? ⟨w.heap.size, 2, none⟩ = some vc6 := fun w' h => ⟨h.cell hc0 (by simp), h.cell hc1 (by simp), h.cell hc2 (by simp)⟩
 have HB := Lib.hid hbx; clear hbx
 have hE := l08Group_ok P (w.alloc (.cells #[vo, vp, vc] 28)) _ Any ⟨_, _, _, rfl, h36⟩
 clear hp0
 go_enter Tryz.func104, Tryz.ntmps104
 go_wp2_with fail
 clear hc0 hc1 hc2
 generalize hw0 : w.alloc (.cells #[vo, vp, vc] 28) = w0 at *
 clear hw0
 refine Calls.mono hE ?_
 rintro e1 w1 ⟨v1, rfl, hg1, rfl⟩
 clear hE
 cases hq : rconsB P with
 | false =>
  have HC := Lib.hid (pcC_bad (P := P) (K := K) (by rw [hq]; simp)); clear hq
  go_wp2
  go_ret
  exact ⟨_, rfl, grown_trans hg0 hg1, by rw [HC.out]; try rfl⟩
 | true =>
  have hP := (grp_of_r hq).v
  have HQ := Lib.hid hq; clear hq
  go_wp2_with fail
  refine Calls.mono (l01In_ok K 1 1000000 w1) ?_
  rintro _ _ ⟨rfl, rfl⟩
  cases hi : inB K 1 1000000 with
  | false =>
   have HC := Lib.hid (pcC_range (P := P) (K := K) HQ.out (by simpa [inB] using hi)); clear hi
   go_wp2
   go_ret
   exact ⟨_, rfl, grown_trans hg0 hg1, by rw [HC.out]; try rfl⟩
  | true =>
   have HI := Lib.hid (show 1 ≤ K ∧ K ≤ 1000000 by simpa [inB] using hi); clear hi
   obtain ⟨hb0, hb1, hb2⟩ := HB.out w1 hg1
   go_wp2_with fail
   clear hb0 hb1 hb2
   refine Calls.mono (l10Order_ok w1 _ P Any hP ⟨_, _, _, rfl, Pres3.ext h36 hg1⟩) ?_
   rintro e2 w2 ⟨v2, rfl, hg2, rfl⟩
   by_cases hb : 128 < ordP P
   ·have HC := Lib.hid (pcC_big (K := K) HQ.out HI.out hb)
    go_wp2
    go_ret
    exact ⟨_, rfl, grown_trans hg0 (grown_trans hg1 hg2), by rw [HC.out]; try rfl⟩
   ·have HC := Lib.hid (pcC_ok (K := K) HQ.out HI.out hb)
    go_wp2
    go_ret
    exact ⟨_, rfl, grown_trans hg0 (grown_trans hg1 hg2), by rw [HC.out]; try rfl⟩
set_option maxRecDepth 100000 in
set_option maxHeartbeats 4000000 in
theorem sPowS_ok (P : Pr) (K : Int) (w : World) (pv : Value) (Sp : Nat → Prop) (hpv : PresV Sp w pv P) :
  Calls Tryz.prog 18 #[pv, .int .i64 K] w (Ret w fun w' v => ∃ a n c, v = .tuple #[.slice a n c, .int .i64 (pcC P K)] ∧ Rows2 Any w' (.slice a n c) (psL P K)) := by
 obtain ⟨vo, vp, vc, rfl, h3⟩ := hpv
 have hp0 := PresP.box h3 28
 have hg0 : Ext w (w.alloc (.cells #[vo, vp, vc] 28)) := World.grownBy_alloc _ _ _
 obtain ⟨vo6, vp6, vc6, _, _, hc0, hc1, hc2, h36⟩ := hp0.at
 simp only [Nat.zero_add] at hc1 hc2
 have hbx : ∀ w', Ext (w.alloc (.cells #[vo, vp, vc] 28)) w' → w'.cell? ⟨w.heap.size, 0, none⟩ = some vo6 ∧ w'.cell? ⟨w.heap.size, 1, none⟩ = some vp6 ∧ w'.cell? ⟨w.heap.size, 2, none⟩ = some vc6 := fun w' h => ⟨h.cell hc0 (by simp), h.cell hc1 (by simp), h.cell hc2 (by simp)⟩
 have HB := Lib.hid hbx; clear hbx
 have hE := l17Code_ok P (w.alloc (.cells #[vo, vp, vc] 28)) _ K Any ⟨_, _, _, rfl, h36⟩
 clear hp0
 go_enter Tryz.func18, Tryz.ntmps18
 go_wp2_with fail
 clear hc0 hc1 hc2
 generalize hw0 : w.alloc (.cells #[vo, vp, vc] 28) = w0 at *
 clear hw0
 refine Calls.mono hE ?_
 rintro e1 w1 ⟨v1, rfl, hg1, rfl⟩
 clear hE
 by_cases hz : pcC P K = 0
 case neg =>
  have hzb : (pcC P K != 0) = true := by simpa using hz
  have HZ := Lib.hid (psL_no hz); clear hz
  go_wp2
  go_ret2
  exact ⟨_, rfl, grown_trans hg0 hg1, none, 0, 0, by rfl, by rw [HZ.out]; exact ⟨none, 0, rfl, ⟨by simp, by simp, fun _ => rfl⟩, fun i hi => by simp at hi⟩⟩
 obtain ⟨hr, hK, h128⟩ := pcC_zero hz
 have G := grp_of_r hr
 have hP := G.v
 have hn6 := hP.n6
 have hpos := hP.ordP_pos
 have HPS := Lib.hid (psL_ok hz)
 rw [hz]
 have HZ0 := Lib.hid hz; clear hz hr
 have hel : (allEl P).length = (ordP P).toNat := by simp [allEl]
 have HEL := Lib.hid hel; clear hel
 go_wp2
 go_loopw [7, 8] (fun ov iv wr => ∃ (k : Nat) (v4 : Value), v4 = ov ∧ iv = .int .i64 k ∧ (k : Int) ≤ ordP P ∧ Ext w1 wr ∧ ShQ (fun _ => False) w1.heap.size wr v4 (pwL P K k)) (fun _ iv _ => (ordP P).toNat - (intOf iv).toNat)
 case atStart => exact ⟨0, _, rfl, rfl, by omega, World.grownBy_alloc _ _ _, ShQ.lit _ _ _ (Nat.le_refl _)⟩
 case round =>
  obtain ⟨k, v4, rfl, rfl, hk, hg, hQ⟩ := hrel
  have hg0r := grown_trans hg1 hg
  obtain ⟨hb0, hb1, hb2⟩ := HB.out wr hg0r
  go_wp2_with fail
  clear hb0 hb1 hb2
  refine Calls.mono (l10Order_ok wr _ P Any hP ⟨_, _, _, rfl, Pres3.ext h36 hg0r⟩) ?_
  rintro eO wO ⟨vO, rfl, hgO, rfl⟩
  have hgOr := grown_trans hg hgO
  have hg0O := grown_trans hg0r hgO
  have hQO := hQ.ext hgO
  clear hQ
  by_cases hlt : (k : Int) < ordP P
  ·have hkl : k < (allEl P).length := by rw [HEL.out]; omega
   have hstep := pwL_succ P K hkl
   have hge : gt (allEl P) k = elAt P k := by
    unfold allEl
    rw [gt_map _ _ _ (by rw [List.length_range]; omega)]
    simp [gt, show k < (ordP P).toNat by omega]
   rw [hge] at hstep
   have hxV := elAt_vec hP (k : Int) (by omega)
   have hkV := G.pwZ_vec hxV K
   have htl : (pwL P K k).length ≤ 1000000 := by have := pwL_len P K k; omega
   have hqlt : ∀ j, v4.ownBlock = some j → w1.heap.size ≤ j := fun j hj => (hQO.lt j hj).1
   have HST := Lib.hid (And.intro hstep (And.intro hxV (And.intro htl hkV))); clear hstep hxV htl hkV hge
   have f1 : ∀ w', Ext w1 w' → w'.cell? ⟨w.heap.size, 0, none⟩ = some vo6 := fun w' h => (HB.out w' (grown_trans hg1 h)).1
   have f2 : ∀ w', Ext w1 w' → w'.cell? ⟨w.heap.size, 1, none⟩ = some vp6 := fun w' h => (HB.out w' (grown_trans hg1 h)).2.1
   have f3 : ∀ w', Ext w1 w' → w'.cell? ⟨w.heap.size, 2, none⟩ = some vc6 := fun w' h => (HB.out w' (grown_trans hg1 h)).2.2
   have h3O := Pres3.ext h36 hg1
   go_wp2
   go_region_held3 (fun w' => Ext w1 w') (first | exact grown_trans hgOr (grown_drew _ _) | assumption | exact grown_trans hgC (World.grownBy_alloc _ _ _))
    (first
     | (go_at_call 107; refine Calls.mono (Calls.rel2 (w0 := w1) (by assumption) (l10At_ok P hP _ _ (k : Int) Any ⟨_, _, _, rfl, Pres3.ext h3O (by assumption)⟩ (by omega) (by omega))) ?_; rintro eA wA ⟨vA, rfl, hgA, hgA2, hsA, hOA⟩; have hAI := hOA.ints (by rw [HST.out.2.1.1]; omega))
     | (go_at_call 106; refine Calls.mono (Calls.rel2 (w0 := w1) (by assumption) (l10Pow_ok P G _ _ _ (elAt P (k : Int)) K Any _ ⟨_, _, _, rfl, Pres3.ext h3O (by assumption)⟩ hAI HST.out.2.1 (by omega))) ?_; rintro eC wC ⟨vC, rfl, hgC, hgC2, hsC, hOC⟩; obtain ⟨aC, nC, cC, hvC⟩ : ∃ a n c, vC = Value.slice a n c := (by obtain ⟨a, c, e, _⟩ := (hOC.ints (by rw [HST.out.2.2.2.1]; omega)).shape; exact ⟨_, _, _, e⟩); subst hvC; have hgOA : Ext wO wA := grown_trans (grown_drew _ _) hgA2; have hgrC : Ext wO wC := grown_trans hgOA hgC2; have hCI : Ints (fun j => ¬ False ∧ v4.ownBlock ≠ some j) wC (.slice aC nC cC) (pwZ P (elAt P (k : Int)) K) := ints_of_own hOC (by rw [HST.out.2.2.2.1]; omega) (fun j hj => ⟨id, fun e => by have h1 := (hOC.lt j hj).1; have h2 := (hQO.lt j e).2; have h3 := hgOA.size; omega⟩))
     | (refine step_shq_app rfl _ _ rfl (fun _ => False) w1.heap.size v4 _ (pwL P K k) _ rfl wC (hQO.ext hgrC) rfl hCI rfl HST.out.2.2.1 hgC.size ?_; intro v5 w5 hQ5 hg5 hb5; have hgw5 : Ext w1 w5 := grown_own hgC hg5 (fun j hj hlt => by have := hqlt j hj; omega)))
   clear f1 f2 f3
   rw [← HST.out.1] at hQ5
   go_wp2
   go_roundw
   case rel => exact ⟨k + 1, v5, rfl, by go_num, by omega, hgw5, hQ5⟩
   case measure => simp [intOf]; omega
  ·have hke : (k : Int) = ordP P := by omega
   have hkN : k = (allEl P).length := by rw [HEL.out]; omega
   have hQR := hQO.rows
   rw [hkN] at hQR
   obtain ⟨aq, nq, capq, hvq⟩ : ∃ a n c, v4 = Value.slice a n c := by obtain ⟨a, c, e, _, _⟩ := Sl.shape hQR; exact ⟨_, _, _, e⟩
   subst hvq
   have hll := pwL_len P K (allEl P).length
   have HK := Lib.hid hkN; clear hkN
   have HQR := Lib.hid (And.intro hQR hll); clear hQR hll hQO
   obtain ⟨hb0, hb1, hb2⟩ := HB.out wO hg0O
   go_wp2_with fail
   clear hb0 hb1 hb2
   refine Calls.mono (l12Close_ok P G wO _ _ (pwL P K (allEl P).length) Any Any ⟨_, _, _, rfl, Pres3.ext h36 hg0O⟩ HQR.out.1 (G.pwL_vec K _) (by have := HQR.out.2; have := HEL.out; omega)) ?_
   rintro eF wF ⟨vF, rfl, hgF, hRF⟩
   obtain ⟨ad, nd, capd, hvd⟩ : ∃ a n c, vF = Value.slice a n c := by obtain ⟨a, c, e, _, _⟩ := Sl.shape hRF; exact ⟨_, _, _, e⟩
   subst hvd
   have HRF := Lib.hid hRF; clear hRF
   go_wp2
   go_ret2
   exact ⟨_, rfl, grown_trans hg0 (grown_trans hg0O hgF), _, _, _, by rw [HZ0.out]; rfl, by rw [HPS.out]; exact HRF.out⟩
end Go.Proofs.YtdcobapnlpeaaaaGreat
namespace Go.Proofs.YtdcobapnlpeaaaaGreat
open Go.RowKit
set_option maxRecDepth 100000 in
set_option maxHeartbeats 2000000 in
theorem gcd_ok (a b : Nat) (w : World) (ha : a ≤ 1000) (hb : b ≤ 1000) : Calls Tryz.prog 111 #[.int .i64 a, .int .i64 b] w (Ret w fun _ v => v = .int .i64 (Nat.gcd a b)) := by
 go_enter Tryz.func111, Tryz.ntmps111
 go_wp2
 go_loopw [0, 1] (fun av bv wr => ∃ x y : Nat, av = .int .i64 x ∧ bv = .int .i64 y ∧ x ≤ 1000 ∧ y ≤ 1000 ∧ Ext w wr ∧ Hid (Nat.gcd x y = Nat.gcd a b)) (fun _ bv _ => (intOf bv).toNat)
 case atStart => exact ⟨a, b, rfl, rfl, ha, hb, grown_refl _ _, Lib.hid rfl⟩
 case round =>
  clear ha hb
  obtain ⟨x, y, rfl, rfl, hx, hy, hw, hg⟩ := hrel
  by_cases hy0 : y = 0
  ·subst hy0
   have hg2 : x = Nat.gcd a b := by rw [← hg.out, Nat.gcd_zero_right]
   have HG := Lib.hid hg2; clear hg2 hg
   go_wp2_with fail
   refine Calls.mono (abs_ok _ wr (by omega)) ?_
   rintro _ _ ⟨rfl, rfl⟩
   rw [if_neg (by omega)]
   go_wp2
   go_ret
   exact ⟨_, rfl, hw, by rw [← HG.out]; try rfl⟩
  ·have hyi : ((y : Int) != 0) = true := by simp; omega
   have hyn : (y : Int) ≠ 0 := by omega
   have hm : (x : Int) % (y : Int) = ((x % y : Nat) : Int) := by omega
   have hlt : x % y < y := Nat.mod_lt _ (by omega)
   have hg2 : Nat.gcd y (x % y) = Nat.gcd a b := by rw [← hg.out, Nat.gcd_comm x y, Nat.gcd_rec y x, Nat.gcd_comm]
   have HG := Lib.hid hg2; clear hg2 hg
   have h0x : 0 ≤ (x : Int) := by omega
   have h0y : 0 < (y : Int) := by omega
   go_wp2
   go_quiet (fail)
   have hq : Ext wr (wr.drewN nq) := grown_drewN _ _ _
   go_wp2
   go_roundw
   case rel => exact ⟨y, x % y, rfl, by rw [← hm], hy, by omega, grown_trans hw hq, HG⟩
   case measure => simp [intOf]; omega
theorem exp_ord {P : Pr} (G : Grp P) {x : List Int} (hx : Vec P.orders x) : pw P x (ordP P).toNat = zeros P.orders.length := by
 have hP := G.v
 have key : ∀ d, d ≤ P.orders.length → T P d (pw P x (prodTo P.orders d).toNat) := fun d hd => by
  induction d with
  | zero =>
   have e : (prodTo P.orders 0).toNat = 1 := by simp [prodTo]
   rw [e, G.pw_one hx]; exact T_zero.2 hx
  | succ d ih =>
   have h1 := G.pw_order (by omega) (ih (by omega))
   have h2 := prodTo_pos (l := P.orders) d (fun i hi => hP.pos i (by omega))
   have h3 := hP.ord7 d (by omega)
   rw [← G.pw_mul hx] at h1
   have e : (prodTo P.orders (d + 1)).toNat = (prodTo P.orders d).toNat * (gt P.orders d).toNat := by
    have : (((prodTo P.orders d).toNat * (gt P.orders d).toNat : Nat) : Int) = prodTo P.orders d * gt P.orders d := by
     rw [Int.natCast_mul, show (((prodTo P.orders d).toNat : Nat) : Int) = prodTo P.orders d by omega, show (((gt P.orders d).toNat : Nat) : Int) = gt P.orders d by omega]
    simp only [prodTo]; omega
   rw [e]; exact h1
 have h : T P P.orders.length (pw P x (ordP P).toNat) := key P.orders.length (Nat.le_refl _)
 exact Vec.ext h.1 (zeros_vec hP) (fun k hk => by rw [h.2 k hk]; exact (gt_replicate _ _).symm)
theorem pw_dvd {P : Pr} (G : Grp P) {x : List Int} (hx : Vec P.orders x) {a b : Nat} (h : pw P x a = zeros P.orders.length) (hd : a ∣ b) : pw P x b = zeros P.orders.length := by
 obtain ⟨m, rfl⟩ := hd
 rw [G.pw_mul hx, h]
 induction m with
 | zero => rfl
 | succ m ih => rw [pw_succ, ih, G.grp.el _ G.oneV]
theorem ExpTo.step {P : Pr} (G : Grp P) {k e m : Nat} (hk : k < (allEl P).length) (h : ExpTo P k e) (hm : 1 ≤ m) (h1 : pw P (gt (allEl P) k) m = zeros P.orders.length) (h2 : ∀ j : Nat, pw P (gt (allEl P) k) j = zeros P.orders.length → m ∣ j) : ExpTo P (k + 1) (Nat.lcm e m) := by
 obtain ⟨g1, g2, g3⟩ := h
 have hts := take_succ_gt (allEl P) k hk
 refine ⟨Nat.lcm_pos (by omega) (by omega), fun x hx => ?_, fun j hj => ?_⟩
 ·rw [hts, List.mem_append, List.mem_singleton] at hx
  rcases hx with hx | rfl
  ·exact pw_dvd G (G.allEl_vec x (List.mem_of_mem_take hx)) (g2 x hx) (Nat.dvd_lcm_left _ _)
  ·exact pw_dvd G (G.allEl_vec _ (gtMem hk)) h1 (Nat.dvd_lcm_right _ _)
 ·exact Nat.lcm_dvd (g3 j (fun x hx => hj x (by rw [hts]; exact List.mem_append_left _ hx))) (h2 j (hj _ (by rw [hts]; exact List.mem_append_right _ (by simp))))
set_option maxRecDepth 100000 in
set_option maxHeartbeats 4000000 in
theorem iExp_ok (P : Pr) (hr : rconsB P = true) (h128 : ordP P ≤ 128) (w : World) (pv : Value) (Sp : Nat → Prop) (hpv : PresV Sp w pv P) :
  Calls Tryz.prog 20 #[pv] w (Ret w fun _ v => ∃ e : Nat, v = .tuple #[.int .i64 e, .int .i64 0] ∧ 1 ≤ e ∧ e ≤ 128 ∧ ExpTo P (allEl P).length e) := by
 have G := grp_of_r hr
 have hP := G.v
 have hn6 := hP.n6
 have hop := hP.ordP_pos
 obtain ⟨vo, vp, vc, rfl, h3⟩ := hpv
 have hp0 := PresP.box h3 28
 have hg0 : Ext w (w.alloc (.cells #[vo, vp, vc] 28)) := World.grownBy_alloc _ _ _
 have HR := Lib.hid hr; clear hr
 go_enter Tryz.func20, Tryz.ntmps20
 go_wp2_with fail
 refine Calls.mono (isConsistent_ok P _ _ _ ⟨_, _, _, rfl, Pres3.ext h3 (World.grownBy_alloc _ _ _)⟩) ?_
 rintro eA wA ⟨vA, rfl, hgA, rfl⟩
 have hgw : Ext w wA := grown_trans hg0 hgA
 have hpA := hp0.ext hgA
 rw [icons_eq, HR.out]
 go_wp2_with fail
 refine Calls.mono (orderOf_ok wA _ P Any hP hpA) ?_
 rintro _ _ ⟨rfl, rfl⟩
 have hb128 : ¬ 128 < ordP P := by omega
 go_wp2_with fail
 refine Calls.mono (allElements_ok P hP wA _ Any hpA) ?_
 rintro e2 w2 ⟨v2, rfl, hg2, hE⟩
 have hel : (allEl P).length = (ordP P).toNat := by simp [allEl]
 have hER : Rows2 (fun k => wA.heap.size ≤ k) w2 v2 (allEl P) := RowsD.rows (SlO.toD hE (by omega))
 obtain ⟨aE, capE, hvE, _, _⟩ := Sl.shape hER
 subst hvE
 obtain ⟨N, hN⟩ : ∃ N, N = (allEl P).length := ⟨_, rfl⟩
 rw [← hN]
 rw [← hN] at hER
 have hN7 : N ≤ 128 := by omega
 have hp2 := hpA.ext hg2
 have hgw2 := grown_trans hgw hg2
 have h0 : ExpTo P 0 1 := ⟨by omega, fun x hx => by simp at hx, fun j _ => Nat.one_dvd j⟩
 have HN := Lib.hid (And.intro hN (And.intro (hN.trans hel) h0)); clear hN hel hE h0 hb128
 go_wp2
 go_loopw [4, 15] (fun ov iv wr => ∃ (k e : Nat), ov = .int .i64 e ∧ iv = .int .i64 k ∧ k ≤ N ∧ 1 ≤ e ∧ e ≤ 128 ∧ Ext w2 wr ∧ Hid (ExpTo P k e ∧ e ∣ (ordP P).toNat)) (fun _ iv _ => N - (intOf iv).toNat)
 case atStart => exact ⟨0, 1, rfl, rfl, by omega, by omega, by omega, grown_refl _ _, Lib.hid ⟨HN.out.2.2, Nat.one_dvd _⟩⟩
 case round =>
  obtain ⟨k, e, rfl, rfl, hk, he1, he2, hg, hX⟩ := hrel
  by_cases hlt : k < N
  ·have hlt' : (k : Int) < N := by omega
   have hkl : k < (allEl P).length := by rw [← HN.out.1]; exact hlt
   have hEr := Rows2.ext hER hg
   rw [HN.out.1] at hEr
   obtain ⟨bx, ox, a2, cap2, hab, _, _, hcx, hrx⟩ := Rows2.at hEr k hkl
   subst hab
   have hxV : Vec P.orders (gt (allEl P) k) := G.allEl_vec _ (gtMem hkl)
   have HXV := Lib.hid hxV; clear hxV hEr
   go_wp2_with fail
   clear hcx
   refine Calls.mono (orderOfElement3_ok P G wr _ _ (gt (allEl P) k) Any _ (hp2.ext hg) hrx HXV.out) ?_
   rintro eO wO ⟨vO, rfl, hgO, m, rfl, hm1, hm2, hm3, hm4⟩
   obtain ⟨M, rfl⟩ := Int.eq_ofNat_of_zero_le (show 0 ≤ m by omega)
   have hM1 : 1 ≤ M := by omega
   have hst := hX.out.1.step G hkl hM1 (by simpa using hm3) (fun j hj => by simpa using hm4 j hj)
   have hMd : M ∣ (ordP P).toNat := by simpa using hm4 _ (exp_ord G HXV.out)
   have hld : Nat.lcm e M ∣ (ordP P).toNat := Nat.lcm_dvd hX.out.2 hMd
   have hMle : M ≤ 128 := by have := Nat.le_of_dvd (by omega) hMd; omega
   have hle : Nat.lcm e M ≤ 128 := by have := Nat.le_of_dvd (by omega) hld; omega
   have hl1 : 1 ≤ Nat.lcm e M := hst.1
   have hgp : 0 < Nat.gcd e M := Nat.gcd_pos_of_pos_left _ (by omega)
   have hgd := Nat.gcd_dvd_left e M
   have hlc : e / Nat.gcd e M * M = Nat.lcm e M := by
    unfold Nat.lcm
    obtain ⟨q, hq⟩ := hgd
    have e1 : e / Nat.gcd e M = q := Nat.div_eq_of_eq_mul_right hgp hq
    have e2 : e * M = Nat.gcd e M * (q * M) := by
     rw [← Nat.mul_assoc, ← hq]
    rw [e1, e2, Nat.mul_div_cancel_left _ hgp]
   have hgl : Nat.gcd e M ≤ 1000 := by have := Nat.le_of_dvd (by omega) hgd; omega
   have HS := Lib.hid (And.intro hst (And.intro hld hlc)); clear hst hld hlc hm3 hm4 hMd hgd
   go_wp2_with fail
   refine Calls.mono (gcd_ok e M wO (by omega) (by omega)) ?_
   rintro eG wG ⟨vG, rfl, hgG, rfl⟩
   obtain ⟨g, hg9⟩ : ∃ g, g = Nat.gcd e M := ⟨_, rfl⟩
   obtain ⟨l, hl9⟩ : ∃ l, l = Nat.lcm e M := ⟨_, rfl⟩
   have hq1 : (e : Int) / (g : Int) = ((e / g : Nat) : Int) := by simp
   have hq2 : ((e / g : Nat) : Int) * (M : Int) = (l : Int) := by rw [hl9, ← HS.out.2.2, hg9]; simp
   have hgn : (g : Int) ≠ 0 := by omega
   rw [← hg9]
   have hg0' : 0 < (g : Int) := by omega
   have hqb : 0 ≤ ((e / g : Nat) : Int) ∧ ((e / g : Nat) : Int) ≤ 1000 := ⟨Int.natCast_nonneg _, Int.ofNat_le.2 (show e / g ≤ 1000 from Nat.le_trans (Nat.div_le_self e g) (by omega))⟩
   have hlN : 1 ≤ l ∧ l ≤ 128 := by rw [hl9]; exact ⟨hl1, hle⟩
   have hlb : 0 ≤ (l : Int) ∧ (l : Int) ≤ 1000 := by omega
   have hprod : (e : Int) / (g : Int) * (M : Int) = (l : Int) := by rw [hq1, hq2]
   have hdb : 0 ≤ (e : Int) / (g : Int) ∧ (e : Int) / (g : Int) ≤ 1000 := by rw [hq1]; exact hqb
   have HL := Lib.hid hl9; clear hl9 hg9 hq1 hq2 hqb hle hl1 hgp hgl
   have hgr := grown_trans hg (grown_trans hgO hgG)
   go_wp2
   go_roundw
   case rel => exact ⟨k + 1, l, by first | rfl | (rw [hprod]), by go_num, by omega, by omega, by omega, hgr, Lib.hid (by rw [HL.out]; exact ⟨HS.out.1, HS.out.2.1⟩)⟩
   case measure => simp [intOf]; omega
  ·have hke : k = N := by omega
   subst hke
   have hfin : ExpTo P (allEl P).length e := by rw [← HN.out.1]; exact hX.out.1
   have HF := Lib.hid hfin; clear hfin
   go_wp2
   go_ret2
   exact ⟨_, rfl, grown_trans hgw2 hg, e, rfl, he1, he2, HF.out⟩
set_option maxRecDepth 100000 in
set_option maxHeartbeats 4000000 in
theorem iOrdS_ok (P : Pr) (K : Int) (hz : pcC P K = 0) (w : World) (pv : Value) (Sp : Nat → Prop) (hpv : PresV Sp w pv P) :
  Calls Tryz.prog 21 #[pv, .int .i64 K] w (Ret w fun w' v => ∃ a n c, v = .tuple #[.slice a n c, .int .i64 0] ∧ RowsO w.heap.size w' (.slice a n c) (cseq P (rtS P K))) := by
 obtain ⟨vo, vp, vc, rfl, h3⟩ := hpv
 have hp := PresP.box h3 28
 have hg0 : Ext w (w.alloc (.cells #[vo, vp, vc] 28)) := World.grownBy_alloc _ _ _
 have hs0 : (w.alloc (.cells #[vo, vp, vc] 28)).heap.size = w.heap.size + 1 := by simp
 go_enter Tryz.func21, Tryz.ntmps21
 go_wp2_with fail
 generalize w.alloc (.cells #[vo, vp, vc] 28) = w0 at *
 clear h3
 refine Calls.mono (powersCode_ok P w0 _ K Any hp) ?_
 rintro eC wC ⟨vC, rfl, hgC, rfl⟩
 obtain ⟨hr, hK, h128⟩ := pcC_zero hz
 have G := grp_of_r hr
 have hP := G.v
 have hn6 := hP.n6
 have hpos := hP.ordP_pos
 rw [hz]
 have HZ0 := Lib.hid hz; clear hz hr
 have hpC := hp.ext hgC
 have hg0C := grown_trans hg0 hgC
 have hsC := hgC.size
 go_wp2_with fail
 refine Calls.mono (newSequence_ok P wC _ Any (fun _ => False) hpC hn6) ?_
 rintro e1 w1 ⟨v1, rfl, hg1, sb, gb, rfl, hs⟩
 have hgb := hs.tab.lt
 have hsb := hs.sB
 have hsl := hs.slt
 go_wp2_with fail
 refine Calls.mono (allElements_ok P hP w1 _ Any (hpC.ext hg1)) ?_
 rintro e2 w2 ⟨v2, rfl, hg2, hE⟩
 have hel : (allEl P).length = (ordP P).toNat := by simp [allEl]
 have hER : Rows2 (fun k => w1.heap.size ≤ k) w2 v2 (allEl P) := RowsD.rows (SlO.toD hE (by omega))
 obtain ⟨aE, capE, hvE, _, _⟩ := Sl.shape hER
 subst hvE
 obtain ⟨N, hN⟩ : ∃ N, N = (allEl P).length := ⟨_, rfl⟩
 rw [← hN]
 rw [← hN] at hER
 have hN729 : N ≤ 729 := by omega
 have hs2 := hs.kept (bad' := fun _ => False) hg2.size (fun k hk _ => hg2.block k hk (by simp)) (fun _ _ h => h)
 have hI0 : Ind P (genP P (takeP P (fun y => pwZ P y K = zeros P.orders.length) 0)) (gt (List.replicate P.orders.length ([] : List Int))) := by
  rw [takeP_zero, G.genP_none]; exact G.ind_one
 have hg02 := grown_trans hg1 hg2
 have hm1 : w1.heap.size ≤ w2.heap.size := hg2.size
 have HN := Lib.hid (And.intro hN hI0); clear hN hI0 hel hE hpos hs
 go_wp2
 go_loopw [18] (fun iv wr => ∃ (k : Nat) (t : List (List Int)), iv = .int .i64 k ∧ k ≤ N ∧ w2.grownBy wr (some gb) ∧ SeqAt wC.heap.size (fun _ => False) wr sb gb (.pointer (some ⟨w.heap.size, 0, none⟩)) P.orders.length t ∧ Hid (Ind P (genP P (takeP P (fun y => pwZ P y K = zeros P.orders.length) k)) (gt t))) (fun iv _ => N - (intOf iv).toNat)
 case atStart => exact ⟨0, _, rfl, by omega, grown_refl _ _, hs2, Lib.hid HN.out.2⟩
 case round =>
  clear hs2
  obtain ⟨k, t, rfl, hk, hg, hs, hI⟩ := hrel
  have hgw : Ext wC wr := grown_own hg02 hg (fun j hj hlt => by cases hj; omega)
  by_cases hlt : k < N
  ·have hlt' : (k : Int) < N := by omega
   have hkl : k < (allEl P).length := by rw [← HN.out.1]; exact hlt
   have hEr : Rows2 (fun k => w1.heap.size ≤ k) wr (.slice aE N capE) (allEl P) := Rows2.mono hER (frame_of hg (fun j hj _ => ⟨hj, fun e => by cases e; omega⟩))
   rw [HN.out.1] at hEr
   obtain ⟨bx, ox, a2, cap2, hab, _, _, hcx, hrx⟩ := Rows2.at hEr k hkl
   subst hab
   have hxV : Vec P.orders (gt (allEl P) k) := G.allEl_vec _ (gtMem hkl)
   have hyes := takeP_yes (has := fun y => pwZ P y K = zeros P.orders.length) hkl
   have hno := takeP_no (has := fun y => pwZ P y K = zeros P.orders.length) hkl
   obtain ⟨x, hx⟩ : ∃ x, x = gt (allEl P) k := ⟨_, rfl⟩
   rw [← hx] at hcx hrx hxV hyes hno
   have HX := Lib.hid (And.intro hxV (And.intro hyes hno)); clear hxV hyes hno hx
   go_wp2_with fail
   clear hcx
   refine Calls.mono (orderOfElement3_ok P G wr _ _ x Any _ (hpC.ext hgw) hrx HX.out.1) ?_
   rintro eO w3 ⟨vO, rfl, hg3, m, rfl, hm1, hm2, hm3, hm4⟩
   have hmn := Int.emod_nonneg K (show m ≠ 0 by omega)
   have hm0 : m ≠ 0 := by omega
   have hiff : K % m = 0 ↔ pwZ P x K = zeros P.orders.length := by
    have hz : pwZ P x K = pw P x K.toNat := by unfold pwZ; rw [if_neg (by omega)]
    rw [hz]
    constructor
    ·intro h
     refine pw_dvd G HX.out.1 hm3 ?_
     have h2 : m ∣ K := Int.dvd_of_emod_eq_zero h
     refine Int.natCast_dvd_natCast.1 ?_
     rw [show ((m.toNat : Nat) : Int) = m by omega, show ((K.toNat : Nat) : Int) = K by omega]
     exact h2
    ·intro h
     have h2 := hm4 _ h
     have h3 : ((m.toNat : Nat) : Int) ∣ ((K.toNat : Nat) : Int) := Int.natCast_dvd_natCast.2 h2
     rw [show ((m.toNat : Nat) : Int) = m by omega, show ((K.toNat : Nat) : Int) = K by omega] at h3
     exact Int.emod_eq_zero_of_dvd h3
   have HIF := Lib.hid hiff; clear hiff hm3 hm4
   have hg23 : w2.grownBy w3 (some gb) := grown_trans hg (grown_of_ext _ hg3)
   have hs3 := hs.kept (bad' := fun _ => False) hg3.size (fun k hk _ => hg3.block k hk (by simp)) (fun _ _ h => h)
   have hm3 : w1.heap.size ≤ w3.heap.size := by have := hg23.size; omega
   have hgw3 := grown_trans hgw hg3
   have hrx3 := Ints.ext hrx hg3
   by_cases hd : K % m = 0
   case neg =>
    have hdb : (K % m == 0) = false := by simp [hd]
    have hI2 : Ind P (genP P (takeP P (fun y => pwZ P y K = zeros P.orders.length) (k + 1))) (gt t) := by
     rw [HX.out.2.2 (fun h => hd (HIF.out.2 h))]; exact hI.out
    have HI2 := Lib.hid hI2; clear hI2 hI hd
    go_wp2
    go_roundw
    case rel => exact ⟨k + 1, t, by go_num, by omega, hg23, hs3, HI2⟩
    case measure => simp [intOf]; omega
   case pos =>
    have hdb : (K % m == 0) = true := by simp [hd]
    have hstep := HX.out.2.1 (HIF.out.1 hd)
    have HST := Lib.hid hstep; clear hstep hd
    have hgl : Ext w3 (w3.alloc (.cells #[.slice a2 x.length cap2] 24)) := World.grownBy_alloc _ _ _
    have hsl4 := hs3.kept (bad' := fun _ => False) hgl.size (fun k hk _ => hgl.block k hk (by simp)) (fun _ _ h => h)
    have hlit : Rows2 (fun k => ¬ (k = gb ∨ k = sb)) (w3.alloc (.cells #[.slice a2 x.length cap2] 24)) (.slice (some ⟨w3.heap.size, 0, none⟩) 1 1) [x] := by
     refine ⟨some ⟨w3.heap.size, 0, none⟩, 1, rfl, ⟨by simp, by simp, fun h => by cases h⟩, fun i hi => ⟨w3.heap.size, 0, .slice a2 x.length cap2, rfl, by omega, by simp, ?_, ?_⟩⟩
     ·have : i = 0 := by simpa using hi
      subst this
      rw [World.cell?_alloc_at _ _ _ _ rfl]; rfl
     ·have : i = 0 := by simpa using hi
      subst this
      exact Ints.sub (Ints.ext hrx3 hgl) (fun j hj _ => by
       have hj : w1.heap.size ≤ j := hj
       omega)
    have hx1 : ∀ y ∈ [x], Vec P.orders y := fun y hy => by rw [List.mem_singleton.1 hy]; exact HX.out.1
    have HL := Lib.hid (And.intro hlit hx1); clear hlit hx1
    have hgwl := grown_trans hgw3 hgl
    go_wp2_with fail
    refine Calls.mono (add_ok P G _ sb gb wC.heap.size _ _ [x] t (genP P (takeP P (fun y => pwZ P y K = zeros P.orders.length) k)) (hpC.mono (fun k _ hlt => ⟨by omega, Nat.lt_of_lt_of_le hlt hgwl.size, hgwl.block k hlt (by simp)⟩)) hsl4 hI.out HL.out.2 HL.out.1 (by simp)) ?_
    rintro e5 w5 ⟨t5, g5, rfl, hg5, hs5, hA, _, _⟩
    have hI5 : Ind P (genP P (takeP P (fun y => pwZ P y K = zeros P.orders.length) (k + 1))) (gt t5) := by
     rw [HST.out, ← genP_or]; exact hA
    have HI5 := Lib.hid hI5; clear hI5 hA
    have hg25 : w2.grownBy w5 (some gb) := grown_trans (grown_trans hg23 (grown_of_ext _ hgl)) hg5
    clear hI hs hs3 hsl4 hg5 hEr
    go_wp2
    go_roundw
    case rel => exact ⟨k + 1, t5, by go_num, by omega, hg25, hs5, HI5⟩
    case measure => simp [intOf]; omega
  ·have hke : k = N := by omega
   have hIn : Ind P (rtS P K) (gt t) := by
    have := hI.out
    rw [hke, HN.out.1, takeP_all hP] at this; exact this
   have HIn := Lib.hid hIn; clear hIn hI
   go_wp2_with fail
   refine Calls.mono (canonical_ok P G wr sb gb wC.heap.size _ t _ _ _ (hpC.ext hgw) hs HIn.out) ?_
   rintro e3 w3 ⟨v3, rfl, hg3, hO⟩
   have hcl := G.cseq_len (G.rtS_sub K)
   obtain ⟨ad, nd, capd, hvd⟩ : ∃ a n c, v3 = Value.slice a n c := by obtain ⟨a, c, e, _⟩ := SlD.shape (hO.toD (by omega)); exact ⟨_, _, _, e⟩
   subst hvd
   have HO := Lib.hid hO; clear hO
   go_wp2
   go_ret2
   exact ⟨_, rfl, grown_trans hg0C (grown_trans hgw hg3), _, _, _, by rfl, HO.out.weak (by have := hg0.size; have := hgw.size; omega)⟩
end Go.Proofs.YtdcobapnlpeaaaaGreat
namespace Go.Proofs.YtdcobapnlpeaaaaGreat
open Go.Proofs Go.Shelf Go.RowKit Go.Lib
def Tryz.growRows_ren : Go.Shelf.Ren := ⟨fun | 4 => 253 | n => n, fun | 22 => 25 | 25 => 24 | 3 => 3 | 4 => 4 | 9 => 9 | 20 => 20 | 0 => 0 | n => n, fun | n => n⟩
theorem Tryz.growRows : Go.Proofs.Lays8.n4 Tryz.prog Tryz.growRows_ren := {
  mixed := by kernel_rfl
  f4 := ⟨Tryz.f253.name, by decide, Tryz.func253.trans (congrArg some (by kernel_rfl))⟩
  t0 := Tryz.underlying0
  a0 := Tryz.isAgg0
  z0 := Tryz.sizeOf0
  v0 := Tryz.zeroValue0
  t3 := Tryz.underlying3
  a3 := Tryz.isAgg3
  z3 := Tryz.sizeOf3
  v3 := Tryz.zeroValue3
  t4 := Tryz.underlying4
  a4 := Tryz.isAgg4
  z4 := Tryz.sizeOf4
  v4 := Tryz.zeroValue4
  t9 := Tryz.underlying9
  a9 := Tryz.isAgg9
  z9 := Tryz.sizeOf9
  v9 := Tryz.zeroValue9
  t20 := Tryz.underlying20
  a20 := Tryz.isAgg20
  z20 := Tryz.sizeOf20
  v20 := Tryz.zeroValue20
  t22 := Tryz.underlying25
  a22 := Tryz.isAgg25
  z22 := Tryz.sizeOf25
  v22 := Tryz.zeroValue25 }
end Go.Proofs.YtdcobapnlpeaaaaGreat
namespace Go.Proofs.YtdcobapnlpeaaaaGreat
open Go.RowKit
set_option maxRecDepth 100000 in
set_option maxHeartbeats 4000000 in
theorem iNormal_ok (P : Pr) (hr : rconsB P = true) (w : World) (pv uv : Value) (U : List (List Int)) (Sp Su : Nat → Prop) (hpv : PresV Sp w pv P) (hu : Rows2 Su w uv U) (hU : SubB P U) :
  Calls Tryz.prog 22 #[pv, uv] w (Ret w fun _ v => ∃ r : Bool, v = .tuple #[.bool r, .int .i64 0] ∧ (r = true ↔ NormG P (gU P U) U)) := by
 have G := grp_of_r hr
 have hn6 := G.v.n6
 obtain ⟨vo, vp, vc, rfl, h3⟩ := hpv
 have hp0 := PresP.box h3 28
 have hg0 : Ext w (w.alloc (.cells #[vo, vp, vc] 28)) := World.grownBy_alloc _ _ _
 have hs0 : (w.alloc (.cells #[vo, vp, vc] 28)).heap.size = w.heap.size + 1 := by simp
 have hu0 := Rows2.ext hu hg0
 obtain ⟨au, capu, rfl, _, _⟩ := Sl.shape hu
 have hg1 : Ext (w.alloc (.cells #[vo, vp, vc] 28)) ((w.alloc (.cells #[vo, vp, vc] 28)).alloc (.cells #[.slice au U.length capu] 25)) := World.grownBy_alloc _ _ _
 have hl := rows3One hu0
 have hcon := areSubgroups_ok P _ _ _ [U] Any Any (hp0.ext hg1) hl
 rw [hs0] at hcon
 clear hl hu
 have hulU : U.length ≤ P.orders.length := G.sub_len hU
 have HH := Lib.hid (And.intro hr (And.intro hU ((trivial : True)))); clear hr hU
 go_enter Tryz.func22, Tryz.ntmps22
 go_wp2_with fail
 refine Calls.mono hcon ?_
 rintro e1 w1 ⟨v1, rfl, hgA, r1, rfl, hr1⟩
 clear hcon
 obtain rfl : r1 = true := hr1.2 (by have := HH.out; simp only [List.mem_cons, List.mem_nil_iff, or_false]; exact ⟨this.1, fun u hu => by subst hu; exact this.2.1⟩)
 clear hr1
 have hg01 := grown_trans hg1 hgA
 have HS := Lib.hid hs0; clear hs0
 generalize hw0 : (w.alloc (.cells #[vo, vp, vc] 28)) = w0 at *
 clear hw0 hg1 hgA
 have hp1 := hp0.ext hg01
 have hu1 := Rows2.ext hu0 hg01
 have hu2 : Rows2 Su w1 (.slice au U.length capu) (cseq P (gU P U)) := by rw [← HH.out.2.1.2]; exact hu1
 have hcn := isNormal_ok P G w1 _ _ (gU P U) Any Su (G.subB HH.out.2.1) hp1 hu2
 have HC := Lib.hid hcn; clear hcn hu2
 go_wp2_with fail
 refine Calls.mono HC.out ?_
 rintro e2 w2 ⟨v2, rfl, hg2, r, rfl, hri⟩
 have hri : r = true ↔ NormG P (gU P U) U := by rw [hri, ← HH.out.2.1.2]
 have HRI := Lib.hid hri; clear hri HC
 go_wp2
 go_ret2
 exact ⟨_, rfl, grown_trans hg0 (grown_trans hg01 hg2), r, rfl, HRI.out⟩
end Go.Proofs.YtdcobapnlpeaaaaGreat
namespace Go.Proofs.YtdcobapnlpeaaaaGreat
open Go.RowKit
section
variable {P : Pr} (G : Grp P)
include G
theorem Grp.red_all : Red P (Vec P.orders) (fun d => unitV P.orders.length d) where
 sub := G.sub_all
 mem d hd _ := ⟨unitV_vec G.v d, T.unit G.v (Nat.le_refl _) hd, by rw [gt_unit _ _ _ hd, if_pos rfl]⟩
 piv x hx d hd hT h0 := by
  intro e
  have : (unitV P.orders.length d).length = 0 := by rw [e]; rfl
  rw [(unitV_vec G.v d).1] at this
  omega
 red d e hde he _ _ := by rw [gt_unit _ _ _ he, if_neg (by omega)]
theorem Grp.cseq_all : cseq P (Vec P.orders) = gensOf P.orders.length := by
 rw [G.cseq_red G.red_all]
 unfold seqOf gensOf
 have : ∀ l : List Nat, (∀ d ∈ l, d < P.orders.length) → l.filterMap (fun d => if unitV P.orders.length d = [] then none else some (unitV P.orders.length d)) = l.map (fun k : Nat => unitV P.orders.length k) := by
  intro l
  induction l with
  | nil => intro _; rfl
  | cons a l ih =>
   intro h
   have hne : ¬ unitV P.orders.length a = [] := fun e => by
    have h1 : (unitV P.orders.length a).length = 0 := by rw [e]; rfl
    rw [(unitV_vec G.v a).1] at h1
    have := h a (List.mem_cons_self ..)
    omega
   rw [List.filterMap_cons, if_neg hne, List.map_cons, ih (fun d hd => h d (List.mem_cons_of_mem _ hd))]
 exact this _ (fun d hd => List.mem_range.1 hd)
end
end Go.Proofs.YtdcobapnlpeaaaaGreat
namespace Go.Proofs.YtdcobapnlpeaaaaGreat
open Go.RowKit
attribute [local go_sem ↓] Go.wp_at_zero Go.wp_at_succ
theorem psl_len (P : Pr) (K : Int) : (psL P K).length ≤ 6 := by
 by_cases h : pcC P K = 0
 ·rw [psL_ok h]
  have G := grp_of_r (pcC_zero h).1
  have h1 := G.cseq_len (G.pwS_sub K)
  have := G.v.n6
  omega
 ·rw [psL_no h]; simp
theorem norm_seq {P : Pr} (G : Grp P) {H : List Int → Prop} (S : Sub P H) (hn : ∀ x g, H x → Vec P.orders g → H (rConj P x g)) : NormG P (gU P (cseq P H)) (cseq P H) := by
 have e : gU P (cseq P H) = H := G.genP_cseq S
 intro g hg x hx
 rw [e]
 exact hn x g ((G.seq_facts S).2.1 x hx) (gensOf_vec G.v g hg)
set_option maxRecDepth 100000 in
set_option maxHeartbeats 8000000 in
theorem lawEx_ok (w : World) (cv : Value) (bs : List Int) (S : Nat → Prop) (hb : Bytes S w cv bs) :
  Calls Tryz.prog 3 #[cv] w (Ret w fun _ v => v = .bool true) := by
 obtain ⟨ca, cc, rfl, _, _⟩ := Sl.shape hb
 go_enter Tryz.func3, Tryz.ntmps3
 go_wp2_with fail
 refine Calls.mono (big_ok w _ bs S hb) ?_
 rintro _ _ ⟨rfl, rfl⟩
 by_cases hbg : 4096 < bs.length
 ·have hd : decide (4096 < bs.length) = true := by simp [hbg]
  rw [hd]
  go_wp2
  go_ret
  exact ⟨_, rfl, grown_refl _ _, rfl⟩
 have hbl : bs.length ≤ 4096 := by omega
 have hd : decide (4096 < bs.length) = false := by simp [hbg]
 rw [hd]; clear hd hbg
 go_wp2_with fail
 refine Calls.mono (DrawPowerSubgroup_ok w _ bs S hb) ?_
 rintro e1 w1 ⟨v1, rfl, hg1, vo, vp, vc, K, P, rfl, hPl, hP⟩
 obtain ⟨a1, n1, c1, hy1⟩ : ∃ a n c, vo = .slice a n c := by obtain ⟨a, c, e, _⟩ := hP.o.shape; exact ⟨_, _, _, e⟩
 obtain ⟨a2, n2, c2, hy2⟩ : ∃ a n c, vp = .slice a n c := by obtain ⟨a, c, e, _⟩ := Sl.shape hP.p; exact ⟨_, _, _, e⟩
 obtain ⟨a3, n3, c3, hy3⟩ : ∃ a n c, vc = .slice a n c := by obtain ⟨a, c, e, _⟩ := Sl.shape hP.c; exact ⟨_, _, _, e⟩
 subst hy1 hy2 hy3
 have hgX : Ext w1 (w1.alloc (.cells #[.slice a1 n1 c1, .slice a2 n2 c2, .slice a3 n3 c3] 28)) := World.grownBy_alloc _ _ _
 have hX := Box3.made w1 28 (.slice a1 n1 c1) (.slice a2 n2 c2) (.slice a3 n3 c3)
 have hPX := hP.ext hgX
 have hgw := grown_trans hg1 hgX
 have hbX := Bytes.ext hb hgw
 have HA0 := Lib.hid (And.intro hPX (And.intro hgw hbX)); clear hPX  hgw hbX hgX hP  hg1 hb
 obtain ⟨pb, hpb⟩ : ∃ pb, pb = w1.heap.size := ⟨_, rfl⟩
 rw [← hpb] at hX
 have HP := Lib.hid hpb; clear hpb
 go_wp2_with fail
 rw [← HP.out]
 generalize w1.alloc (.cells #[.slice a1 n1 c1, .slice a2 n2 c2, .slice a3 n3 c3] 28) = w2 at *
 clear HP
 have hall : ∀ w', Ext w2 w' → Box3 w' pb (.slice a1 n1 c1) (.slice a2 n2 c2) (.slice a3 n3 c3) ∧ PresV (From w.heap.size) w' (.agg #[.slice a1 n1 c1, .slice a2 n2 c2, .slice a3 n3 c3]) P ∧ Bytes S w' (.slice ca bs.length cc) bs :=
  fun w' h => ⟨hX.ext h, ⟨_, _, _, rfl, HA0.out.1.ext h⟩, Bytes.ext HA0.out.2.2 h⟩
 have HA := Lib.hid hall; clear hall hX
 have hgw := grown_refl w2 none
 have hzl := psl_len P K
 obtain ⟨b0_, b1_, b2_, b3_, _⟩ := id (HA.out w2 hgw).1
 go_wp2_with fail
 clear b0_ b1_ b2_ b3_
 refine Calls.mono (iPowS_ok P K w2 _ _ (HA.out w2 hgw).2.1) ?_
 rintro e3 w3 ⟨v3, rfl, hg_, za, zn, zc, rfl, hZ_⟩
 replace hgw := grown_trans hgw hg_
 have hZr : Rows2 Any w3 (.slice za zn zc) (psL P K) := Rows2.sub (RowsD.rows (SlO.toD hZ_ (by omega))) (fun _ _ _ => trivial)
 have hZx : ∀ w', Ext w3 w' → Rows2 Any w' (.slice za zn zc) (psL P K) := fun w' h => Rows2.ext hZr h
 have HZ := Lib.hid hZx; clear hZr hZx
 have hgZ := grown_refl w3 none
 clear hZ_
 clear hg_
 obtain ⟨b0_, b1_, b2_, b3_, _⟩ := id (HA.out w3 hgw).1
 go_wp2_with fail
 clear b0_ b1_ b2_ b3_
 refine Calls.mono (sPowS_ok P K w3 _ _ (HA.out w3 hgw).2.1) ?_
 rintro e4 w4 ⟨v4, rfl, hg_, ta, tn, tc, rfl, hT_⟩
 replace hgw := grown_trans hgw hg_
 replace hgZ := grown_trans hgZ hg_
 have hTr : Rows2 Any w4 (.slice ta tn tc) (psL P K) := hT_
 have hTx : ∀ w', Ext w4 w' → Rows2 Any w' (.slice ta tn tc) (psL P K) := fun w' h => Rows2.ext hTr h
 have HT := Lib.hid hTx; clear hTr hTx
 have hgT := grown_refl w4 none
 clear hT_ hzl
 clear hg_
 go_wp2_with fail
 refine Calls.mono (like29_ok _ _ (psL P K) (psL P K) w4 Any Any (HZ.out w4 hgZ) (HT.out w4 hgT)) ?_
 rintro e5 w5 ⟨v5, rfl, hg_, rfl⟩
 replace hgw := grown_trans hgw hg_
 replace hgZ := grown_trans hgZ hg_
 replace hgT := grown_trans hgT hg_
 rw [show eqB (psL P K) (psL P K) = true from eqB_true.2 rfl]
 clear HT hgT
 clear hg_
 by_cases hz : pcC P K = 0
 case neg =>
  have hzb : (pcC P K != 0) = true := by simpa using hz
  clear hz
  generalize pcC P K = cc at *
  go_wp2
  go_ret
  exact ⟨_, rfl, grown_trans HA0.out.2.1 hgw, rfl⟩
 obtain ⟨hr, hK, h128⟩ := pcC_zero hz
 rw [psL_ok hz] at HZ
 rw [hz]
 have HZC := Lib.hid hz; clear hz
 have G := grp_of_r hr
 have hn6 := G.v.n6
 have hop := G.v.ordP_pos
 have SP := G.pwS_sub K
 have SR := G.rtS_sub K
 have SPB := G.subB_cseq SP
 have SRB := G.subB_cseq SR
 have nP := norm_seq G SP (fun x g hx hg => G.pwS_norm K hx hg)
 have nR := norm_seq G SR (fun x g hx hg => G.rtS_norm K hx hg)
 have lP := G.cseq_len SP
 have lR := G.cseq_len SR
 have HN := Lib.hid (And.intro SP (And.intro SR (And.intro SPB (And.intro SRB (And.intro nP nR))))); clear SP SR SPB SRB nP nR
 obtain ⟨N, hN⟩ : ∃ N, N = (cseq P (pwS P K)).length := ⟨_, rfl⟩
 obtain rfl : N = zn := by
  obtain ⟨a, c, e, _⟩ := Sl.shape (HZ.out _ hgZ)
  cases e; exact hN
 rw [← hN] at lP
 have HNN := Lib.hid hN; clear hN
 obtain ⟨M, hM⟩ : ∃ M, M = (cseq P (rtS P K)).length := ⟨_, rfl⟩
 rw [← hM] at lR
 have HMM := Lib.hid hM; clear hM
 obtain ⟨b0_, b1_, b2_, b3_, _⟩ := id (HA.out w5 hgw).1
 go_wp2_with fail
 clear b0_ b1_ b2_ b3_
 refine Calls.mono (iExp_ok P hr (by omega) w5 _ _ (HA.out w5 hgw).2.1) ?_
 rintro e6 w6 ⟨v6, rfl, hg_, e9, rfl, he1, he2, hE_⟩
 replace hgw := grown_trans hgw hg_
 replace hgZ := grown_trans hgZ hg_
 have HE := Lib.hid hE_; clear hE_
 clear hg_
 obtain ⟨b0_, b1_, b2_, b3_, _⟩ := id (HA.out w6 hgw).1
 go_wp2_with fail
 clear b0_ b1_ b2_ b3_
 refine Calls.mono (iOrdS_ok P K HZC.out w6 _ _ (HA.out w6 hgw).2.1) ?_
 rintro e7 w7 ⟨v7, rfl, hg_, va, vn, vc9, rfl, hV_⟩
 replace hgw := grown_trans hgw hg_
 replace hgZ := grown_trans hgZ hg_
 obtain ⟨va, vc9, hve, _⟩ : ∃ a c, Value.slice va vn vc9 = .slice a (cseq P (rtS P K)).length c ∧ True := by
  obtain ⟨a, c, e⟩ := RowsO.shapeC hV_ (by have := HMM.out; omega)
  exact ⟨a, c, e, trivial⟩
 rw [hve] at hV_
 rw [hve]
 clear hve
 rw [← HMM.out] at hV_
 rw [← HMM.out]
 have hVr : Rows2 Any w7 (.slice va M vc9) (cseq P (rtS P K)) := Rows2.sub (RowsD.rows (SlO.toD hV_ (by have := HMM.out; omega))) (fun _ _ _ => trivial)
 have hVx : ∀ w', Ext w7 w' → Rows2 Any w' (.slice va M vc9) (cseq P (rtS P K)) := fun w' h => Rows2.ext hVr h
 have HV := Lib.hid hVx; clear hVr hVx
 have hgV := grown_refl w7 none
 clear hV_
 clear hg_
 obtain ⟨b0_, b1_, b2_, b3_, _⟩ := id (HA.out w7 hgw).1
 go_wp2_with fail
 clear b0_ b1_ b2_ b3_
 refine Calls.mono (iNormal_ok P hr w7 _ _ _ _ _ (HA.out w7 hgw).2.1 (HZ.out w7 hgZ) HN.out.2.2.1) ?_
 rintro e8 w8 ⟨v8, rfl, hg_, r_, rfl, hr_⟩
 replace hgw := grown_trans hgw hg_
 replace hgZ := grown_trans hgZ hg_
 replace hgV := grown_trans hgV hg_
 obtain rfl : r_ = true := hr_.2 HN.out.2.2.2.2.1
 clear hr_
 clear hg_
 obtain ⟨b0_, b1_, b2_, b3_, _⟩ := id (HA.out w8 hgw).1
 go_wp2_with fail
 clear b0_ b1_ b2_ b3_
 refine Calls.mono (iNormal_ok P hr w8 _ _ _ _ _ (HA.out w8 hgw).2.1 (HV.out w8 hgV) HN.out.2.2.2.1) ?_
 rintro e9 w9 ⟨v9, rfl, hg_, q_, rfl, hq_⟩
 replace hgw := grown_trans hgw hg_
 replace hgZ := grown_trans hgZ hg_
 replace hgV := grown_trans hgV hg_
 obtain rfl : q_ = true := hq_.2 HN.out.2.2.2.2.2
 clear hq_
 clear hg_
 obtain ⟨m1, m2, m3, em, hP9⟩ := (HA.out w9 hgw).2.1
 cases em
 obtain ⟨oa, oc, eo, _⟩ := hP9.o.shape
 obtain rfl : n1 = P.orders.length := by cases eo; rfl
 clear eo hP9
 have hK0 : 0 ≤ K := by omega
 have he0 : 0 < (e9 : Int) := by omega
 have hen : (e9 : Int) ≠ 0 := by omega
 have he1' : ¬ (e9 : Int) < 1 := by omega
 have htriv := G.pwS_triv (by omega) HE.out
 rw [← HNN.out] at htriv
 have hwh : e9 ∣ K.toNat → M = P.orders.length := fun hd => by
  rw [HMM.out, G.rtS_whole (by omega) HE.out hd, G.cseq_all]; simp [gensOf]
 have hdv : e9 ∣ K.toNat ↔ K % (e9 : Int) = 0 := by
  constructor
  ·intro h
   have h3 : ((e9 : Nat) : Int) ∣ ((K.toNat : Nat) : Int) := Int.natCast_dvd_natCast.2 h
   rw [show ((K.toNat : Nat) : Int) = K by omega] at h3
   exact Int.emod_eq_zero_of_dvd h3
  ·intro h
   have h3 : ((e9 : Nat) : Int) ∣ ((K.toNat : Nat) : Int) := by
    rw [show ((K.toNat : Nat) : Int) = K by omega]; exact Int.dvd_of_emod_eq_zero h
   exact Int.natCast_dvd_natCast.1 h3
 obtain ⟨b0_, b1_, b2_, b3_, _⟩ := id (HA.out w9 hgw).1
 by_cases hd : e9 ∣ K.toNat
 ·have hN0 := htriv.2 hd
  have hM0 := hwh hd
  have hk0 := hdv.1 hd
  have HX := Lib.hid hM0
  clear htriv hwh hdv hd
  subst hN0
  have hkd : (K % (e9 : Int) == 0) = true := by simp [hk0]
  rw [HX.out]
  clear hM0
  go_wp2
  go_ret
  exact ⟨_, rfl, grown_trans HA0.out.2.1 hgw, by simp⟩
 ·have hN0 : N ≠ 0 := fun h => hd (htriv.1 h)
  have hk0 : K % (e9 : Int) ≠ 0 := fun h => hd (hdv.2 h)
  have hNb : ((N : Int) == 0) = false := by simp [hN0]
  have hkb : (K % (e9 : Int) == 0) = false := by simp [hk0]
  have hkc : (K % (e9 : Int) != 0) = true := by simp [hk0]
  clear htriv hwh hdv hd hk0
  go_wp2
  go_ret
  exact ⟨_, rfl, grown_trans HA0.out.2.1 hgw, by simp⟩
end Go.Proofs.YtdcobapnlpeaaaaGreat
