/-
  Lists of lists that a call builds by append: each row in blocks of its own.
  spec.IsPresentation; orders of groups.
  Numbers of elements: impl.numberOf, spec.l10Number, impl.elementAt, spec.l10At, spec.l10One.
  Lists of lists that a call builds by append, none of whose blocks is in A (a map that is written beside them).
  Rows of bools of the call's own; a region that ends in a store.
  Plain: the canonical sequence of a subgroup is one: a table that is reduced is determined by the subgroup; so are representatives of cosets.
  Plain: the numbers of elements: num and elAt undo one another.
  cmp.Compare at int64 and slices.Compare at []int64.
  The order of slices.Compare is a total order on lists of integers. Plain.
  Plain: lexicographic order is the order of numbers; all elements stand ascending.
  Plain: the elements of a subgroup as products along its sequence.
  Plain: a sequence as a table by depths, as the reference lays it; coset representatives, sifting and the reduced sequence by such a table.
  The reference's tables by depths: spec.l02Lead, l12Depth, l12Table; how a table reads.
  Plain: generated subgroups of sets; intersections.
  Plain: the elements of a subgroup as products with exponents (for the reference's list of elements).
  Plain: the list of products, element by element (for impl.elementsOf).
  The reference's coset representatives and membership: spec.l12Reduce, l12Sift, l12Has.
  The reference's membership and order: spec.l01Zero, l12Sift, l12Has, l12Order.
  Plain: a group of order at most 32 has at most 17408 subgroups (a crude bound).
  The reference's list of the elements of a subgroup: spec.l12Orders, l10At at orders alone, l12Product, l12Elements.
  The reference's list of the elements of a subgroup: spec.l12Product, l12Elements.
  The reference's list of the elements of a subgroup: spec.l12Elements.
  Drawing: spec.l12Pair and spec.l13Draw.
  Drawing: laws.big, spec.DrawProductSize.
-/
import Derived.Test.YtdcobapnlpeaaaaGreatK10
import Derived.Test.YtdcobapnlpeaaaaGreatK1
import Derived.Test.YtdcobapnlpeaaaaGreatK2
import Derived.Test.YtdcobapnlpeaaaaGreatK3
import Derived.Test.YtdcobapnlpeaaaaGreatK4
import Derived.Test.YtdcobapnlpeaaaaGreatK5
import Derived.Test.YtdcobapnlpeaaaaGreatK6
import Derived.Test.YtdcobapnlpeaaaaGreatK7
import Derived.Test.YtdcobapnlpeaaaaGreatK8
import Derived.Test.YtdcobapnlpeaaaaGreatK9
import Derived.Laws.BitsAllLaws
import Derived.Deep.RegionHeld3
namespace Go.Proofs.YtdcobapnlpeaaaaGreat
open Go.RowKit
theorem SlO.ext {α : Type} [Inhabited α] {El : (Nat → Prop) → World → Value → α → Prop} (hEl : RdOk El) {E B : Nat} {w w' : World} {v : Value} {xs : List α} (h : SlO El E B w v xs) (hg : Ext w w') : SlO El E B w' v xs := by
 obtain ⟨vs, G, hvl, hO, hG, hd, hE⟩ := h
 refine ⟨vs, G, hvl, hO.kept hg (by cases hv : v.ownBlock <;> simp), fun i k hi hk => ?_, hd, fun i hi => hEl.mono (hE i hi) (fun k hk hlt => ⟨hk, Nat.lt_of_lt_of_le hlt hg.size, hg.block k hlt (by simp)⟩)⟩
 obtain ⟨a, b, c⟩ := hG i k hi hk
 exact ⟨a, b, Nat.lt_of_lt_of_le c hg.size⟩
end Go.Proofs.YtdcobapnlpeaaaaGreat
namespace Go.Proofs.YtdcobapnlpeaaaaGreat
open Go.RowKit
def ordP (P : Pr) : Int := prodTo P.orders P.orders.length
theorem Valid.ordP_pos {P : Pr} (h : Valid P) : 1 ≤ ordP P := prodTo_pos _ (fun i hi => h.pos i hi)
set_option maxHeartbeats 400000 in
theorem orderOf_ok (w : World) (p : Value) (P : Pr) (S : Nat → Prop) (hP : Valid P) (hp : PresP S w p P) :
  Calls Tryz.prog 110 #[p] w fun e w' => e = .returned (.int .i64 (ordP P)) ∧ w = w' := by
 obtain ⟨pb, po, rfl⟩ := hp.shape
 obtain ⟨ao, capo, hco, hoi⟩ := hp.ordAt
 have hn6 := hP.n6
 go_enter Tryz.func110, Tryz.ntmps110
 go_wp2
 go_loop [3, 11] (fun pr i => ∃ k : Nat, i = .int .i64 k ∧ pr = .int .i64 (prodTo P.orders k) ∧ k ≤ P.orders.length) (fun _ i => P.orders.length - (intOf i).toNat)
 case atStart => exact ⟨0, rfl, rfl, by omega⟩
 case round =>
  obtain ⟨k, rfl, rfl, hk⟩ := hrel
  by_cases hlt : k < P.orders.length
  ·obtain ⟨b, off, rfl, _, _, hc⟩ := Ints.at hoi k hlt
   have h1 := hP.pre (k + 1) hlt
   have h0 := prodTo_pos (l := P.orders) (k + 1) (fun i hi => hP.pos i (by omega))
   have hm0 : 0 ≤ prodTo P.orders k * gt P.orders k := by simp only [prodTo] at h0; omega
   have hm1 : prodTo P.orders k * gt P.orders k ≤ 729 := h1
   clear h0 h1
   go_wp2
   go_round
   case rel => exact ⟨k + 1, by go_num, rfl, by omega⟩
   case measure => simp [intOf]; omega
  ·have hke : k = P.orders.length := by omega
   subst hke
   go_wp2
   go_ret
   exact ⟨rfl, rfl⟩
set_option maxHeartbeats 400000 in
theorem l10Order_ok (w : World) (pv : Value) (P : Pr) (S : Nat → Prop) (hP : Valid P) (hp : PresV S w pv P) :
  Calls Tryz.prog 105 #[pv] w (Ret w fun _ v => v = .int .i64 (ordP P)) := by
 obtain ⟨vo, vp, vc, rfl, h3⟩ := hp
 have hB := PresP.box h3 28
 obtain ⟨ao, capo, hco, hoi⟩ := hB.ordAt
 have hn6 := hP.n6
 go_enter Tryz.func105, Tryz.ntmps105
 go_wp2
 go_loop [3, 4] (fun pr i => ∃ k : Nat, i = .int .i64 k ∧ pr = .int .i64 (prodTo P.orders k) ∧ k ≤ P.orders.length) (fun _ i => P.orders.length - (intOf i).toNat)
 case atStart => exact ⟨0, rfl, rfl, by omega⟩
 case round =>
  obtain ⟨k, rfl, rfl, hk⟩ := hrel
  by_cases hlt : k < P.orders.length
  ·obtain ⟨b, off, rfl, _, _, hc⟩ := Ints.at hoi k hlt
   have h1 := hP.pre (k + 1) hlt
   have h0 := prodTo_pos (l := P.orders) (k + 1) (fun i hi => hP.pos i (by omega))
   have hm0 : 0 ≤ prodTo P.orders k * gt P.orders k := by simp only [prodTo] at h0; omega
   have hm1 : prodTo P.orders k * gt P.orders k ≤ 729 := h1
   clear h0 h1
   go_wp2
   go_round
   case rel => exact ⟨k + 1, by go_num, rfl, by omega⟩
   case measure => simp [intOf]; omega
  ·have hke : k = P.orders.length := by omega
   subst hke
   go_wp2
   go_ret
   exact ⟨_, rfl, World.grownBy_alloc _ _ _, rfl⟩
end Go.Proofs.YtdcobapnlpeaaaaGreat
namespace Go.Proofs.YtdcobapnlpeaaaaGreat
open Go.RowKit
def numTo (o x : List Int) : Nat → Int
 | 0 => 0
 | k + 1 => numTo o x k * gt o k + gt x k
def num (P : Pr) (x : List Int) : Int := numTo P.orders x P.orders.length
theorem numTo_bd {P : Pr} (hP : Valid P) {x : List Int} (hx : Vec P.orders x) (k : Nat) (hk : k ≤ P.orders.length) : 0 ≤ numTo P.orders x k ∧ numTo P.orders x k + 1 ≤ prodTo P.orders k := by
 induction k with
 | zero => simp [numTo, prodTo]
 | succ k ih =>
  obtain ⟨h1, h2⟩ := ih (by omega)
  have h3 := hP.pos k (by omega)
  have h4 := hx.2 k (by omega)
  have h5 : 0 ≤ numTo P.orders x k * gt P.orders k := Int.mul_nonneg h1 (by omega)
  have h6 : (numTo P.orders x k + 1) * gt P.orders k ≤ prodTo P.orders k * gt P.orders k := Int.mul_le_mul_of_nonneg_right h2 (by omega)
  rw [Int.add_mul, Int.one_mul] at h6
  simp only [numTo, prodTo]
  omega
theorem num_bd {P : Pr} (hP : Valid P) {x : List Int} (hx : Vec P.orders x) : 0 ≤ num P x ∧ num P x < ordP P := by
 have := numTo_bd hP hx P.orders.length (Nat.le_refl _)
 unfold num ordP; omega
set_option maxHeartbeats 400000 in
theorem numberOf_ok (P : Pr) (hP : Valid P) (w : World) (p x : Value) (X : List Int) (Sp Sx : Nat → Prop) (hp : PresP Sp w p P) (hx : Ints Sx w x X) (hX : Vec P.orders X) :
  Calls Tryz.prog 177 #[p, x] w fun e w' => e = .returned (.int .i64 (num P X)) ∧ w = w' := by
 have hn6 := hP.n6
 have hlX : X.length ≤ P.orders.length ∧ P.orders.length ≤ X.length := by rw [hX.1]; omega
 obtain ⟨pb, po, rfl⟩ := hp.shape
 obtain ⟨ax, capx, rfl, _, _⟩ := hx.shape
 obtain ⟨ao, capo, hco, hoi⟩ := hp.ordAt
 go_enter Tryz.func177, Tryz.ntmps177
 go_wp2
 go_loop [5, 10] (fun nv i => ∃ k : Nat, i = .int .i64 k ∧ nv = .int .i64 (numTo P.orders X k) ∧ k ≤ X.length) (fun _ i => X.length - (intOf i).toNat)
 case atStart => exact ⟨0, rfl, rfl, by omega⟩
 case round =>
  obtain ⟨k, rfl, rfl, hk⟩ := hrel
  by_cases hlt : k < X.length
  ·obtain ⟨b, off, rfl, _, _, hc⟩ := Ints.at hx k hlt
   obtain ⟨b2, off2, rfl, _, _, hc2⟩ := Ints.at hoi k (by omega)
   have h1 := numTo_bd hP hX (k + 1) (by omega)
   have h2 := hP.pre (k + 1) (by omega)
   have h3 := hX.2 k (by omega)
   have h4 := numTo_bd hP hX k (by omega)
   have h7 := hP.ord7 k (by omega)
   have h5 : 0 ≤ numTo P.orders X k * gt P.orders k := Int.mul_nonneg h4.1 (by omega)
   have h6 : numTo P.orders X k * gt P.orders k ≤ 729 := by simp only [numTo] at h1; omega
   have h8 : 0 ≤ gt X k := h3.1
   have h9 : gt X k ≤ 7 := by omega
   clear h1 h2 h3 h4 h7
   go_wp2
   go_round
   case rel => exact ⟨k + 1, by go_num, rfl, by omega⟩
   case measure => simp [intOf]; omega
  ·have hke : k = P.orders.length := by omega
   subst hke
   go_wp2
   go_ret
   exact ⟨rfl, rfl⟩
set_option maxHeartbeats 400000 in
theorem l10Number_ok (P : Pr) (hP : Valid P) (w : World) (pv x : Value) (X : List Int) (Sp Sx : Nat → Prop) (hp : PresV Sp w pv P) (hx : Ints Sx w x X) (hX : Vec P.orders X) :
  Calls Tryz.prog 255 #[pv, x] w (Ret w fun _ v => v = .int .i64 (num P X)) := by
 obtain ⟨vo, vp, vc, rfl, h3⟩ := hp
 have hn6 := hP.n6
 have hlX : X.length ≤ P.orders.length ∧ P.orders.length ≤ X.length := by rw [hX.1]; omega
 have hB := PresP.box h3 28
 have hg0 : Ext w (w.alloc (.cells #[vo, vp, vc] 28)) := World.grownBy_alloc _ _ _
 have hx0 := hx.ext hg0
 obtain ⟨ax, capx, rfl, _, _⟩ := hx.shape
 go_enter Tryz.func255, Tryz.ntmps255
 go_wp2
 generalize hw0 : w.alloc (.cells #[vo, vp, vc] 28) = w0 at *
 clear hw0
 go_loopw [5, 6] (fun nv i wr => ∃ k : Nat, i = .int .i64 k ∧ nv = .int .i64 (numTo P.orders X k) ∧ k ≤ X.length ∧ Ext w0 wr) (fun _ i _ => X.length - (intOf i).toNat)
 case atStart => exact ⟨0, rfl, rfl, by omega, Ext.refl _⟩
 case round =>
  obtain ⟨k, rfl, rfl, hk, hg⟩ := hrel
  by_cases hlt : k < X.length
  ·obtain ⟨ao, capo, hco, hoi⟩ := (hB.ext hg).ordAt
   obtain ⟨b, off, rfl, _, _, hc⟩ := Ints.at (hx0.ext hg) k hlt
   obtain ⟨b2, off2, rfl, _, _, hc2⟩ := Ints.at hoi k (by omega)
   have h1 := numTo_bd hP hX (k + 1) (by omega)
   have h2 := hP.pre (k + 1) (by omega)
   have h3 := hX.2 k (by omega)
   have h4 := numTo_bd hP hX k (by omega)
   have h7 := hP.ord7 k (by omega)
   have h5 : 0 ≤ numTo P.orders X k * gt P.orders k := Int.mul_nonneg h4.1 (by omega)
   have h6 : numTo P.orders X k * gt P.orders k ≤ 729 := by simp only [numTo] at h1; omega
   have h8 : 0 ≤ gt X k := h3.1
   have h9 : gt X k ≤ 7 := by omega
   have hk1 : (k : Int) < X.length := by omega
   have hk2 : (k : Int) < P.orders.length := by omega
   have s1 : IntKind.i64.wrap (numTo P.orders X k * gt P.orders k) = numTo P.orders X k * gt P.orders k := IntWalk.i64_in _ (by omega)
   have s2 : IntKind.i64.wrap (numTo P.orders X k * gt P.orders k + gt X k) = numTo P.orders X k * gt P.orders k + gt X k := IntWalk.i64_in _ (by omega)
   clear h1 h2 h3 h4 h7
   go_wp2
   go_quiet (fail)
   clear s1 s2
   go_wp2
   go_roundw
   case rel => exact ⟨k + 1, by go_num, rfl, by omega, grown_trans hg (grown_drewN _ _ _)⟩
   case measure => simp [intOf]; omega
  ·have hke : k = P.orders.length := by omega
   subst hke
   go_wp2
   go_ret
   exact ⟨_, rfl, grown_trans hg0 hg, rfl⟩
def elTo (o : List Int) (N : Nat) (m : Int) : Nat → List Int × Int
 | 0 => (List.replicate N 0, m)
 | k + 1 =>
  let s := elTo o N m k
  (s.1.set (N - 1 - k) (s.2 % gt o (N - 1 - k)), s.2 / gt o (N - 1 - k))
def elAt (P : Pr) (m : Int) : List Int := (elTo P.orders P.orders.length m P.orders.length).1
theorem elTo_inv {P : Pr} (hP : Valid P) (m : Int) (hm : 0 ≤ m) (k : Nat) (hk : k ≤ P.orders.length) :
  Vec P.orders (elTo P.orders P.orders.length m k).1 ∧ 0 ≤ (elTo P.orders P.orders.length m k).2 ∧ (elTo P.orders P.orders.length m k).2 ≤ m := by
 induction k with
 | zero =>
  refine ⟨⟨by simp [elTo], fun i hi => ?_⟩, hm, Int.le_refl _⟩
  have := hP.ord7 i hi
  simp only [elTo]; rw [gt_replicate]; omega
 | succ k ih =>
  obtain ⟨h1, h2, h3⟩ := ih (by omega)
  have ho := hP.ord7 (P.orders.length - 1 - k) (by omega)
  refine ⟨h1.set _ _ ⟨Int.emod_nonneg _ (by omega), fun _ => Int.emod_lt_of_pos _ (by omega)⟩, Int.ediv_nonneg h2 (by omega), ?_⟩
  exact Int.le_trans (Int.ediv_le_self _ h2) h3
theorem elAt_vec {P : Pr} (hP : Valid P) (m : Int) (hm : 0 ≤ m) : Vec P.orders (elAt P m) := (elTo_inv hP m hm _ (Nat.le_refl _)).1
set_option maxHeartbeats 400000 in
theorem l10One_ok (P : Pr) (hP : Valid P) (w : World) (pv : Value) (Sp : Nat → Prop) (hp : PresV Sp w pv P) :
  Calls Tryz.prog 212 #[pv] w (Ret w fun w' v => Own w.heap.size w' v (zeros P.orders.length)) := by
 obtain ⟨vo, vp, vc, rfl, h3⟩ := hp
 have hn6 := hP.n6
 have hB := PresP.box h3 28
 obtain ⟨ao, capo, hco, hoi⟩ := hB.ordAt
 go_enter Tryz.func212, Tryz.ntmps212
 go_wp2_with (at_make; refine wp_make_ints rfl _ _ rfl (w.heap.size + 1) P.orders.length (w.heap.size + 1) (by simp) _ rfl rfl rfl (by omega) (by simp) ?_; intro w1 ho1 hg1 _)
 go_ret
 exact ⟨_, rfl, grown_trans (World.grownBy_alloc _ _ _) hg1, ho1.weak (by omega)⟩
set_option maxHeartbeats 1000000 in
theorem elementAt_ok (P : Pr) (hP : Valid P) (w : World) (p : Value) (m : Int) (Sp : Nat → Prop) (hp : PresP Sp w p P) (hm : 0 ≤ m) (hm2 : m ≤ 1000000000) :
  Calls Tryz.prog 147 #[p, .int .i64 m] w (Ret w fun w' v => Own w.heap.size w' v (elAt P m)) := by
 have hn6 := hP.n6
 obtain ⟨pb, po, rfl⟩ := hp.shape
 obtain ⟨ao, capo, hco0, hoi⟩ := hp.ordAt
 have hco := hco0
 go_enter Tryz.func147, Tryz.ntmps147
 go_wp2_with (at_make; refine wp_make_ints rfl _ _ rfl w.heap.size P.orders.length w.heap.size rfl _ rfl rfl rfl (by omega) (by simp) ?_; intro w1 ho1 hg1 _)
 clear hco
 have HCO := Lib.hid hco0; clear hco0
 go_loopw [1, 6] (fun mv i wr => ∃ k : Nat, i = .int .i64 ((P.orders.length : Int) - 1 - k) ∧ mv = .int .i64 (elTo P.orders P.orders.length m k).2 ∧ k ≤ P.orders.length ∧ Ext w wr ∧
   Own w.heap.size wr (.slice (some ⟨w.heap.size, 0, none⟩) P.orders.length P.orders.length) (elTo P.orders P.orders.length m k).1) (fun _ i _ => (intOf i + 1).toNat)
 case atStart => exact ⟨0, by simp, rfl, by omega, hg1, ho1⟩
 case round =>
  obtain ⟨k, rfl, rfl, hk, hg, hO⟩ := hrel
  obtain ⟨hv, hm0, hm1⟩ := elTo_inv hP m hm k hk
  by_cases hlt : k < P.orders.length
  ·obtain ⟨b2, off2, rfl, _, _, hc20⟩ := Ints.at hoi (P.orders.length - 1 - k) (by omega)
   have hco := hg.cell HCO.out (by simp)
   have hc2 := hg.cell hc20 (by simp)
   have ho7 := hP.ord7 (P.orders.length - 1 - k) (by omega)
   have hc := hO.cell (P.orders.length - 1 - k) (by rw [hv.1]; omega)
   have hf := hO.frozen (P.orders.length - 1 - k)
   have hsucc : elTo P.orders P.orders.length m (k + 1) = ((elTo P.orders P.orders.length m k).1.set (P.orders.length - 1 - k) ((elTo P.orders P.orders.length m k).2 % gt P.orders (P.orders.length - 1 - k)), (elTo P.orders P.orders.length m k).2 / gt P.orders (P.orders.length - 1 - k)) := rfl
   have HSC := Lib.hid hsucc; clear hsucc
   obtain ⟨hO2, hg2⟩ := hO.store (P.orders.length - 1 - k) ((elTo P.orders P.orders.length m k).2 % gt P.orders (P.orders.length - 1 - k))
   have hgx : Ext w (wr.setCell ⟨w.heap.size, P.orders.length - 1 - k, none⟩ (.int .i64 ((elTo P.orders P.orders.length m k).2 % gt P.orders (P.orders.length - 1 - k)))) := grown_own hg hg2 (fun j hj hlt => by cases hj; omega)
   have hco3 := hgx.cell HCO.out (by simp)
   have hc23 := hgx.cell hc20 (by simp)
   clear hc20
   have hidx : ((P.orders.length : Int) - 1 - k).toNat = P.orders.length - 1 - k := by omega
   generalize hi : P.orders.length - 1 - k = i at *
   generalize (elTo P.orders P.orders.length m k).1 = L at *
   generalize (elTo P.orders P.orders.length m k).2 = M at *
   have ho70 : 2 ≤ gt P.orders i := ho7.1
   have ho71 : gt P.orders i ≤ 7 := ho7.2
   have HI := Lib.hid hi; clear hi ho7
   go_wp2
   go_roundw
   case rel => exact ⟨k + 1, by congr 1; omega, by rw [HSC.out], by omega, hgx, by rw [HSC.out]; exact hO2⟩
   case measure => simp [intOf]; omega
  ·have hke : k = P.orders.length := by omega
   subst hke
   go_wp2
   go_ret
   exact ⟨_, rfl, hg, hO⟩
set_option maxHeartbeats 1000000 in
theorem l10At_ok (P : Pr) (hP : Valid P) (w : World) (pv : Value) (m : Int) (Sp : Nat → Prop) (hpv : PresV Sp w pv P) (hm : 0 ≤ m) (hm2 : m ≤ 1000000000) :
  Calls Tryz.prog 107 #[pv, .int .i64 m] w (Ret w fun w' v => Own w.heap.size w' v (elAt P m)) := by
 have hn6 := hP.n6
 obtain ⟨vo, vp, vc, rfl, h3⟩ := hpv
 have hp := PresP.box h3 28
 have hg0 : Ext w (w.alloc (.cells #[vo, vp, vc] 28)) := World.grownBy_alloc _ _ _
 obtain ⟨vo9, vp9, vc9, _, _, hc0, hc1, hc2, h39⟩ := hp.at
 obtain ⟨ao, capo, hco, hoi⟩ := hp.ordAt
 go_enter Tryz.func107, Tryz.ntmps107
 go_wp2_with fail
 have hs0 : (w.alloc (.cells #[vo, vp, vc] 28)).heap.size = w.heap.size + 1 := by simp
 have HS := Lib.hid hs0; clear hs0
 clear hc0 hc1 hc2
 have HCO := Lib.hid hco; clear hco
 generalize hw0 : w.alloc (.cells #[vo, vp, vc] 28) = w0 at *
 clear hw0
 refine Calls.mono (l10One_ok P hP w0 _ Any ⟨_, _, _, rfl, h39⟩) ?_
 rintro e1 w1 ⟨r, rfl, hg1, ho1⟩
 have hri := ho1.ints (by simp [zeros]; omega)
 obtain ⟨ar, capr, rfl, _, _⟩ := hri.shape
 have hzl : (zeros P.orders.length).length = P.orders.length := by simp [zeros]
 rw [hzl] at hri
 have ho1 : Own w0.heap.size w1 (.slice ar P.orders.length capr) (zeros P.orders.length) := by rw [hzl] at ho1; exact ho1
 simp only [hzl]
 clear hzl hri
 go_wp2
 go_loopw [1, 6] (fun mv i wr => ∃ k : Nat, i = .int .i64 ((P.orders.length : Int) - 1 - k) ∧ mv = .int .i64 (elTo P.orders P.orders.length m k).2 ∧ k ≤ P.orders.length ∧ Ext w0 wr ∧
   Own w0.heap.size wr (.slice ar P.orders.length capr) (elTo P.orders P.orders.length m k).1) (fun _ i _ => (intOf i + 1).toNat)
 case atStart => exact ⟨0, by simp, rfl, by omega, hg1, ho1⟩
 case round =>
  clear ho1
  obtain ⟨k, rfl, rfl, hk, hg, hO⟩ := hrel
  obtain ⟨hv, hm0, hm1⟩ := elTo_inv hP m hm k hk
  by_cases hlt : k < P.orders.length
  ·obtain ⟨g, capg, hfm, hgb, hgs⟩ := hO.form (by rw [hv.1]; omega)
   rw [hv.1] at hfm
   obtain ⟨rfl, _⟩ : ar = some ⟨g, 0, none⟩ ∧ capr = capg := by cases hfm; exact ⟨rfl, rfl⟩
   clear hfm
   obtain ⟨b2, off2, rfl, _, _, hc20⟩ := Ints.at hoi (P.orders.length - 1 - k) (by omega)
   have hco := hg.cell HCO.out (by simp)
   have hc2 := hg.cell hc20 (by simp)
   have ho7 := hP.ord7 (P.orders.length - 1 - k) (by omega)
   have hc := hO.cell (P.orders.length - 1 - k) (by rw [hv.1]; omega)
   have hf := hO.frozen (P.orders.length - 1 - k)
   have hsucc : elTo P.orders P.orders.length m (k + 1) = ((elTo P.orders P.orders.length m k).1.set (P.orders.length - 1 - k) ((elTo P.orders P.orders.length m k).2 % gt P.orders (P.orders.length - 1 - k)), (elTo P.orders P.orders.length m k).2 / gt P.orders (P.orders.length - 1 - k)) := rfl
   have HSC := Lib.hid hsucc; clear hsucc
   obtain ⟨hO2, hg2⟩ := hO.store (P.orders.length - 1 - k) ((elTo P.orders P.orders.length m k).2 % gt P.orders (P.orders.length - 1 - k))
   have hgx : Ext w0 (wr.setCell ⟨g, P.orders.length - 1 - k, none⟩ (.int .i64 ((elTo P.orders P.orders.length m k).2 % gt P.orders (P.orders.length - 1 - k)))) := grown_own hg hg2 (fun j hj hlt => by cases hj; omega)
   have hco3 := hgx.cell HCO.out (by simp)
   have hc23 := hgx.cell hc20 (by simp)
   clear hc20
   have hidx : ((P.orders.length : Int) - 1 - k).toNat = P.orders.length - 1 - k := by omega
   generalize hi : P.orders.length - 1 - k = i at *
   generalize (elTo P.orders P.orders.length m k).1 = L at *
   generalize (elTo P.orders P.orders.length m k).2 = M at *
   have ho70 : 2 ≤ gt P.orders i := ho7.1
   have ho71 : gt P.orders i ≤ 7 := ho7.2
   have HI := Lib.hid hi; clear hi ho7
   go_wp2
   go_roundw
   case rel => exact ⟨k + 1, by congr 1; omega, by rw [HSC.out], by omega, hgx, by rw [HSC.out]; exact hO2⟩
   case measure => simp [intOf]; omega
  ·have hke : k = P.orders.length := by omega
   subst hke
   go_wp2
   go_ret
   exact ⟨_, rfl, grown_trans hg0 hg, hO.weak (by have := HS.out; omega)⟩
end Go.Proofs.YtdcobapnlpeaaaaGreat
namespace Go.Proofs.YtdcobapnlpeaaaaGreat
open Go.RowKit
def SlOA {α : Type} [Inhabited α] (El : (Nat → Prop) → World → Value → α → Prop) (E B : Nat) (A : Nat → Prop) (w : World) (v : Value) (xs : List α) : Prop :=
 ∃ (vs : List Value) (G : Nat → Nat → Prop), vs.length = xs.length ∧ OwnV B E w v vs ∧ (∀ i k, i < xs.length → G i k → B ≤ k ∧ v.ownBlock ≠ some k ∧ k < w.heap.size) ∧
  (∀ i j k, i < xs.length → j < xs.length → G i k → G j k → i = j) ∧ (∀ i, i < xs.length → El (G i) w (gt vs i) (gt xs i)) ∧ (∀ i k, i < xs.length → G i k → ¬ A k) ∧ ∀ k, v.ownBlock = some k → ¬ A k
theorem SlOA.o {α : Type} [Inhabited α] {El : (Nat → Prop) → World → Value → α → Prop} {E B : Nat} {A : Nat → Prop} {w : World} {v : Value} {xs : List α} (h : SlOA El E B A w v xs) : SlO El E B w v xs := by
 obtain ⟨vs, G, h1, h2, h3, h4, h5, _⟩ := h
 exact ⟨vs, G, h1, h2, h3, h4, h5⟩
theorem SlOA.ext {α : Type} [Inhabited α] {El : (Nat → Prop) → World → Value → α → Prop} (hEl : RdOk El) {E B : Nat} {A : Nat → Prop} {w w' : World} {v : Value} {xs : List α} (h : SlOA El E B A w v xs) (hg : Ext w w') : SlOA El E B A w' v xs := by
 obtain ⟨vs, G, hvl, hO, hG, hd, hE, hr⟩ := h
 refine ⟨vs, G, hvl, hO.kept hg (by cases hv : v.ownBlock <;> simp), fun i k hi hk => ?_, hd, fun i hi => hEl.mono (hE i hi) (fun k hk hlt => ⟨hk, Nat.lt_of_lt_of_le hlt hg.size, hg.block k hlt (by simp)⟩), hr⟩
 obtain ⟨a, b, c⟩ := hG i k hi hk
 exact ⟨a, b, Nat.lt_of_lt_of_le c hg.size⟩
theorem SlOA.more {α : Type} [Inhabited α] {El : (Nat → Prop) → World → Value → α → Prop} {E B : Nat} {A A' : Nat → Prop} {w : World} {v : Value} {xs : List α} (h : SlOA El E B A w v xs) (hA : ∀ k, A' k → A k ∨ w.heap.size ≤ k) : SlOA El E B A' w v xs := by
 obtain ⟨vs, G, h1, h2, h3, h4, h5, h6, h7⟩ := h
 refine ⟨vs, G, h1, h2, h3, h4, h5, fun i k hi hk ha => ?_, fun k hk ha => ?_⟩
 ·rcases hA k ha with h | h
  ·exact h6 i k hi hk h
  ·have := (h3 i k hi hk).2.2; omega
 ·rcases hA k ha with h | h
  ·exact h7 k hk h
  ·have := (h2.lt k hk).2; omega
theorem SlOA.less {α : Type} [Inhabited α] {El : (Nat → Prop) → World → Value → α → Prop} {E B : Nat} {A A' : Nat → Prop} {w : World} {v : Value} {xs : List α} (h : SlOA El E B A w v xs) (hA : ∀ k, A' k → A k) : SlOA El E B A' w v xs :=
 h.more fun k hk => .inl (hA k hk)
theorem SlOA.avoids {α : Type} [Inhabited α] {El : (Nat → Prop) → World → Value → α → Prop} {E B : Nat} {A : Nat → Prop} {w : World} {v : Value} {xs : List α} (h : SlOA El E B A w v xs) (k : Nat) (hk : v.ownBlock = some k) : ¬ A k ∧ B ≤ k ∧ k < w.heap.size := by
 obtain ⟨vs, G, h1, h2, h3, h4, h5, h6, h7⟩ := h
 exact ⟨h7 k hk, h2.lt k hk⟩
end Go.Proofs.YtdcobapnlpeaaaaGreat
namespace Go.Proofs.YtdcobapnlpeaaaaGreat
open Go.RowKit
/-! ### a row of bools of the call's own -/
abbrev BOwn (base : Nat) (w : World) (v : Value) (l : List Bool) : Prop := w.ownsRow base 4 1 v l.length (l.map Value.bool)
theorem und_bools : Tryz.prog.underlying 148 = some (.slice 4) := by kernel_rfl
theorem Tryz.infoBool : (Tryz.prog.info? 4).map (fun i => (i.zero, i.size, i.bytes)) = some (some (.bool false), 1, 1) := by kernel_rfl
theorem wp_make_bools {ops : Array Oper} {rest : List Oper} {o : Oper} {a : Act} {Q : Exit → Act → World → Prop} {w : World} (hgd : o.guard = none) (l c : Operand)
  (ho : o.op = Op.makeSlice 148 l c) (base n H : Nat) (hH : w.heap.size = H) (L : Int) (hl : a.eval l = .int .i64 L) (hc : a.eval c = .int .i64 L) (hL : L = n) (hn : n ≤ 2147483648) (hbase : base ≤ H)
  (h : ∀ w', BOwn base w' (.slice (some ⟨H, 0, none⟩) n n) (List.replicate n false) → Ext w w' → H < w'.heap.size → wpList Tryz.prog ops Q rest (a.put o.dst (.slice (some ⟨H, 0, none⟩) n n)) w') :
  wpList Tryz.prog ops Q (o :: rest) a w := by
 subst hH
 obtain ⟨i0, hi, hz0, hz1, hz2⟩ := info_parts Tryz.infoBool
 refine wpList_make_full w hgd l c 148 ho base 4 i0 (.bool false) 1 und_bools hi hz0 hz1 .i64 .i64 L L n hl hc hL hL (by rw [hz2]; omega) (by unfold maxLen; omega) hbase ?_
 intro w' h1 h2
 refine h w' ?_ h2 (h1.lt w.heap.size rfl).2
 have e : (madeCells (Value.cells (.bool false)) (n * 1)).toList = (List.replicate n false).map Value.bool := by
  rw [show Value.cells (.bool false) = #[.bool false] from rfl, toList_madeCells_one]; simp
 rw [e] at h1
 show World.ownsRow _ _ _ _ _ _ _
 rw [List.length_replicate]; exact h1
theorem BOwn.cell {base g cap n : Nat} {w : World} {l : List Bool} (h : BOwn base w (.slice (some ⟨g, 0, none⟩) n cap) l) (j : Nat) (hj : j < l.length) : w.cell? ⟨g, j, none⟩ = some (.bool (gt l j)) := by
 have hn : n = l.length := by
  obtain ⟨_, ⟨h, _⟩ | ⟨_, _, _, h, _⟩⟩ := h <;> cases h; rfl
 subst hn
 have := World.ownsRow.cellAt h j (by omega)
 rw [this]; simp [gt, hj]
theorem BOwn.frozen {base g cap n : Nat} {w : World} {l : List Bool} (h : BOwn base w (.slice (some ⟨g, 0, none⟩) n cap) l) (j : Nat) : w.frozen? ⟨g, j, none⟩ = false := by
 have hn : n = l.length := by
  obtain ⟨_, ⟨h, _⟩ | ⟨_, _, _, h, _⟩⟩ := h <;> cases h; rfl
 subst hn
 exact World.ownsRow.frozenAt h j
theorem BOwn.store {base g cap n : Nat} {w : World} {l : List Bool} (h : BOwn base w (.slice (some ⟨g, 0, none⟩) n cap) l) (j : Nat) (x : Bool) :
  BOwn base (w.setCell ⟨g, j, none⟩ (.bool x)) (.slice (some ⟨g, 0, none⟩) n cap) (l.set j x) ∧ w.grownBy (w.setCell ⟨g, j, none⟩ (.bool x)) (some g) := by
 have hn : n = l.length := by
  obtain ⟨_, ⟨h, _⟩ | ⟨_, _, _, h, _⟩⟩ := h <;> cases h; rfl
 subst hn
 obtain ⟨h1, h2⟩ := World.ownsRow.stored h j (.bool x)
 refine ⟨?_, h2⟩
 show World.ownsRow _ _ _ _ _ _ _
 rw [List.length_set, List.map_set]; exact h1
theorem BOwn.ext0 {base : Nat} {w w' : World} {v : Value} {l : List Bool} (h : BOwn base w v l) (hg : Ext w w') : BOwn base w' v l :=
 h.kept hg (by cases hv : v.ownBlock <;> simp)
end Go.Proofs.YtdcobapnlpeaaaaGreat
namespace Go.Proofs.YtdcobapnlpeaaaaGreat
section
variable {P : Pr} (G : Grp P)
include G
theorem Grp.coset_one {H : List Int → Prop} {b : Nat → List Int} (I : Ind P H b) {x y : List Int} (hx : Vec P.orders x) (hy : Vec P.orders y) (h : H (rMul P (rInv P x) y))
  (hx0 : ∀ e, e < P.orders.length → b e ≠ [] → gt x e = 0) (hy0 : ∀ e, e < P.orders.length → b e ≠ [] → gt y e = 0) : x = y := by
 have hxi := G.invV hx
 have e1 : rMul P x (rMul P (rInv P x) y) = y := by rw [← G.ass hx hxi hy, G.mul_inv hx, G.grp.el _ hy]
 by_cases hz : rMul P (rInv P x) y = zeros P.orders.length
 ·rw [hz, G.grp.er _ hx] at e1; exact e1
 ·exfalso
  have hzv := I.sub.vec _ h
  obtain ⟨e, he, hT, h0⟩ := depth_ex hzv hz
  have hp := I.piv _ h e he hT h0
  have h2 := (G.right (Nat.le_of_lt he) hx hT).2 he
  rw [e1, hx0 e he hp, hy0 e he hp, Int.zero_add] at h2
  have hb := hzv.2 e he
  rw [Int.emod_eq_of_lt hb.1 hb.2] at h2
  exact h0 h2.symm
theorem Grp.rep_one {H : List Int → Prop} {b : Nat → List Int} (I : Ind P H b) {x y y' : List Int} (hx : Vec P.orders x) (h : Rep P H b x y) (h' : Rep P H b x y') : y = y' := by
 refine G.coset_one I h.1 h'.1 ?_ h.2.2 h'.2.2
 have hi := G.invV hx
 have hyi := G.invV h.1
 have e : rMul P (rInv P y) y' = rMul P (rInv P (rMul P (rInv P x) y)) (rMul P (rInv P x) y') := by
  rw [G.inv_mulR hi h.1, G.inv_inv hx, G.ass hyi hx (G.mulV hi h'.1), ← G.ass hx hi h'.1, G.mul_inv hx, G.grp.el _ h'.1]
 rw [e]; exact I.sub.mul _ _ (I.sub.inv _ h.2.1) h'.2.1
end
end Go.Proofs.YtdcobapnlpeaaaaGreat
namespace Go.Proofs.YtdcobapnlpeaaaaGreat
theorem elTo_len (o : List Int) (N : Nat) (m : Int) (k : Nat) : (elTo o N m k).1.length = N := by
 induction k with
 | zero => simp [elTo]
 | succ k ih => simp only [elTo]; rw [List.length_set, ih]
theorem elTo_keep (o : List Int) (N : Nat) (m : Int) (j k : Nat) (hk : j < k) (hkN : k ≤ N) : gt (elTo o N m k).1 (N - 1 - j) = (elTo o N m j).2 % gt o (N - 1 - j) := by
 induction k with
 | zero => omega
 | succ k ih =>
  simp only [elTo]
  by_cases e : j = k
  ·subst e; rw [gt_set_eq _ _ _ (by rw [elTo_len]; omega)]
  ·rw [gt_set_ne _ _ _ _ (by omega)]; exact ih (by omega) (by omega)
theorem elTo_lt {P : Pr} (hP : Valid P) (m : Int) (h1 : m < ordP P) (k : Nat) (hk : k ≤ P.orders.length) : (elTo P.orders P.orders.length m k).2 < prodTo P.orders (P.orders.length - k) := by
 induction k with
 | zero => exact h1
 | succ k ih =>
  have h2 := ih (by omega)
  have ho := hP.ord7 (P.orders.length - 1 - k) (by omega)
  simp only [elTo]
  have e : P.orders.length - k = (P.orders.length - (k + 1)) + 1 := by omega
  rw [e] at h2
  simp only [prodTo] at h2
  rw [show P.orders.length - (k + 1) = P.orders.length - 1 - k by omega] at h2 ⊢
  exact Int.ediv_lt_of_lt_mul (by omega) h2
theorem num_elAt {P : Pr} (hP : Valid P) (m : Int) (h0 : 0 ≤ m) (h1 : m < ordP P) : num P (elAt P m) = m := by
 have hz : (elTo P.orders P.orders.length m P.orders.length).2 = 0 := by
  have h2 := elTo_lt hP m h1 P.orders.length (Nat.le_refl _)
  have h3 := (elTo_inv hP m h0 P.orders.length (Nat.le_refl _)).2.1
  rw [Nat.sub_self] at h2
  simp only [prodTo] at h2
  omega
 have key : ∀ k, k ≤ P.orders.length → numTo P.orders (elAt P m) k = (elTo P.orders P.orders.length m (P.orders.length - k)).2 := by
  intro k
  induction k with
  | zero => intro _; simp only [numTo, Nat.sub_zero]; exact hz.symm
  | succ k ih =>
   intro hk
   simp only [numTo]
   rw [ih (by omega)]
   have e : P.orders.length - k = (P.orders.length - (k + 1)) + 1 := by omega
   have hg : gt (elAt P m) k = (elTo P.orders P.orders.length m (P.orders.length - (k + 1))).2 % gt P.orders k := by
    have := elTo_keep P.orders P.orders.length m (P.orders.length - (k + 1)) P.orders.length (by omega) (Nat.le_refl _)
    rw [show P.orders.length - 1 - (P.orders.length - (k + 1)) = k by omega] at this
    exact this
   rw [hg, e]
   simp only [elTo]
   rw [show P.orders.length - 1 - (P.orders.length - (k + 1)) = k by omega]
   have := Int.emod_add_mul_ediv (elTo P.orders P.orders.length m (P.orders.length - (k + 1))).2 (gt P.orders k)
   rw [Int.mul_comm] at this
   omega
 have h4 := key P.orders.length (Nat.le_refl _)
 rw [Nat.sub_self] at h4
 exact h4
theorem num_inj {P : Pr} (hP : Valid P) {x y : List Int} (hx : Vec P.orders x) (hy : Vec P.orders y) (h : num P x = num P y) : x = y := by
 have key : ∀ k, k ≤ P.orders.length → numTo P.orders x (P.orders.length - k) = numTo P.orders y (P.orders.length - k) ∧ ∀ j, P.orders.length - k ≤ j → j < P.orders.length → gt x j = gt y j := by
  intro k
  induction k with
  | zero => intro _; exact ⟨h, fun j a b => by omega⟩
  | succ k ih =>
   intro hk
   obtain ⟨h1, h2⟩ := ih (by omega)
   have e : P.orders.length - k = (P.orders.length - (k + 1)) + 1 := by omega
   rw [e] at h1
   simp only [numTo] at h1
   have ho := hP.ord7 (P.orders.length - (k + 1)) (by omega)
   have hxk := hx.2 (P.orders.length - (k + 1)) (by omega)
   have hyk := hy.2 (P.orders.length - (k + 1)) (by omega)
   have e1 : gt x (P.orders.length - (k + 1)) = gt y (P.orders.length - (k + 1)) := by
    have h3 : (numTo P.orders x (P.orders.length - (k + 1)) * gt P.orders (P.orders.length - (k + 1)) + gt x (P.orders.length - (k + 1))) % gt P.orders (P.orders.length - (k + 1)) = (numTo P.orders y (P.orders.length - (k + 1)) * gt P.orders (P.orders.length - (k + 1)) + gt y (P.orders.length - (k + 1))) % gt P.orders (P.orders.length - (k + 1)) := by rw [h1]
    rw [Int.add_comm, Int.add_mul_emod_self_right, Int.add_comm _ (gt y _), Int.add_mul_emod_self_right, Int.emod_eq_of_lt hxk.1 hxk.2, Int.emod_eq_of_lt hyk.1 hyk.2] at h3
    exact h3
   refine ⟨?_, fun j a b => ?_⟩
   ·have h4 : numTo P.orders x (P.orders.length - (k + 1)) * gt P.orders (P.orders.length - (k + 1)) = numTo P.orders y (P.orders.length - (k + 1)) * gt P.orders (P.orders.length - (k + 1)) := by omega
    exact Int.eq_of_mul_eq_mul_right (by omega) h4
   ·by_cases ej : j = P.orders.length - (k + 1)
    ·rw [ej]; exact e1
    ·exact h2 j (by omega) b
 have h5 := (key P.orders.length (Nat.le_refl _)).2
 exact ext_gt (by rw [hx.1, hy.1]) (fun k hk => h5 k (by omega) (by rw [← hx.1]; exact hk))
theorem elAt_num {P : Pr} (hP : Valid P) {x : List Int} (hx : Vec P.orders x) : elAt P (num P x) = x := by
 have hb := num_bd hP hx
 exact num_inj hP (elAt_vec hP _ hb.1) hx (num_elAt hP _ hb.1 hb.2)
end Go.Proofs.YtdcobapnlpeaaaaGreat
namespace Go.Proofs.YtdcobapnlpeaaaaGreat
open Go.RowKit
def cmpI (a b : Int) : Int := if a < b then -1 else if b < a then 1 else 0
theorem isNaN_ok (a : Int) (w : World) : Calls Tryz.prog 322 #[.int .i64 a] w fun e w' => e = .returned (.bool false) ∧ w' = w := by
 go_enter Tryz.func322, Tryz.ntmps322
 go_wp2
 exact bodyPost_ret (v := .bool false) (by simp [results, Tryz.results322, go_sem]) rfl ⟨rfl, rfl⟩
set_option maxHeartbeats 1000000 in
theorem cmpI_ok (a b : Int) (w : World) : Calls Tryz.prog 294 #[.int .i64 a, .int .i64 b] w fun e w' => e = .returned (.int .i64 (cmpI a b)) ∧ w' = w := by
 go_enter Tryz.func294, Tryz.ntmps294
 go_wp2_with fail
 refine Calls.mono (isNaN_ok a w) ?_
 rintro e1 w1 ⟨rfl, rfl⟩
 go_wp2_with fail
 refine Calls.mono (isNaN_ok b _) ?_
 rintro e1 w1 ⟨rfl, rfl⟩
 by_cases h1 : a < b
 ·go_wp2
  exact bodyPost_ret (v := .int .i64 (-1)) (by simp [results, Tryz.results294, go_sem]) rfl ⟨by simp [cmpI, h1], rfl⟩
 ·by_cases h2 : b < a
  ·have h1' : b ≤ a := by omega
   go_wp2
   exact bodyPost_ret (v := .int .i64 1) (by simp [results, Tryz.results294, go_sem]) rfl ⟨by simp [cmpI, h1, h2], rfl⟩
  ·have h1' : b = a := by omega
   subst h1'
   clear h1 h2
   go_wp2
   exact bodyPost_ret (v := .int .i64 0) (by simp [results, Tryz.results294, go_sem]) rfl ⟨by simp [cmpI], rfl⟩
def cmpL : List Int → List Int → Int
 | [], [] => 0
 | [], _ :: _ => -1
 | _ :: _, [] => 1
 | x :: xs, y :: ys => if cmpI x y = 0 then cmpL xs ys else cmpI x y
theorem drop_gt {l : List Int} {k : Nat} (h : k < l.length) : l.drop k = gt l k :: l.drop (k + 1) := by
 rw [List.drop_eq_getElem_cons h]; simp [gt, h]
set_option maxHeartbeats 4000000 in
theorem sCompare_ok (a b : Value) (X Y : List Int) (w : World) (Sa Sb : Nat → Prop) (ha : Ints Sa w a X) (hb : Ints Sb w b Y) :
  Calls Tryz.prog 245 #[a, b] w fun e w' => e = .returned (.int .i64 (cmpL X Y)) ∧ w' = w := by
 obtain ⟨aa, capa, rfl, hla, _⟩ := ha.shape
 obtain ⟨ab, capb, rfl, hlb, _⟩ := hb.shape
 go_enter Tryz.func245, Tryz.ntmps245
 go_wp2
 go_loopw [11] (fun v wr => ∃ k : Nat, v = .int .i64 k ∧ k ≤ X.length ∧ k ≤ Y.length ∧ wr = w ∧ cmpL X Y = cmpL (X.drop k) (Y.drop k)) (fun v _ => X.length - (intOf v).toNat)
 case atStart => exact ⟨0, rfl, by omega, by omega, rfl, by simp⟩
 case round =>
  obtain ⟨k, rfl, hk, hkY, rfl, hcmp⟩ := hrel
  by_cases hlt : k < X.length
  ·obtain ⟨ba, oa, rfl, _, _, hca⟩ := Ints.at ha k hlt
   by_cases hltY : k < Y.length
   ·obtain ⟨bb, ob, rfl, _, _, hcb⟩ := Ints.at hb k hltY
    rw [drop_gt hlt, drop_gt hltY] at hcmp
    simp only [cmpL] at hcmp
    have HC := Lib.hid hcmp; clear hcmp
    go_wp2_with fail
    refine Calls.mono (cmpI_ok (gt X k) (gt Y k) _) ?_
    rintro e1 w1 ⟨rfl, rfl⟩
    by_cases hz : cmpI (gt X k) (gt Y k) = 0
    ·have hcn := HC.out
     rw [if_pos hz] at hcn
     have HC2 := Lib.hid hcn; clear hcn HC
     go_wp2
     go_roundw
     case rel => exact ⟨k + 1, by go_num, by omega, by omega, trivial, HC2.out⟩
     case measure => simp [intOf]; omega
    ·have hcn := HC.out
     rw [if_neg hz] at hcn
     have HC2 := Lib.hid hcn; clear hcn HC
     go_wp2
     exact bodyPost_ret (v := .int .i64 (cmpI (gt X k) (gt Y k))) (by simp [results, Tryz.results245, go_sem]) rfl ⟨by rw [HC2.out], rfl⟩
   ·have hke : k = Y.length := by omega
    subst hke
    rw [drop_gt hlt, List.drop_length] at hcmp
    simp only [cmpL] at hcmp
    have HC := Lib.hid hcmp; clear hcmp
    go_wp2
    exact bodyPost_ret (v := .int .i64 1) (by simp [results, Tryz.results245, go_sem]) rfl ⟨by rw [HC.out], rfl⟩
  ·have hke : k = X.length := by omega
   subst hke
   rw [List.drop_length] at hcmp
   by_cases hltY : X.length < Y.length
   ·rw [drop_gt hltY] at hcmp
    simp only [cmpL] at hcmp
    have HC := Lib.hid hcmp; clear hcmp
    go_wp2
    exact bodyPost_ret (v := .int .i64 (-1)) (by simp [results, Tryz.results245, go_sem]) rfl ⟨by rw [HC.out], rfl⟩
   ·have hle : Y.length ≤ X.length := by omega
    rw [List.drop_of_length_le hle] at hcmp
    simp only [cmpL] at hcmp
    have HC := Lib.hid hcmp; clear hcmp
    go_wp2
    exact bodyPost_ret (v := .int .i64 0) (by simp [results, Tryz.results245, go_sem]) rfl ⟨by rw [HC.out], rfl⟩
end Go.Proofs.YtdcobapnlpeaaaaGreat
namespace Go.Proofs.YtdcobapnlpeaaaaGreat
open Go.RowKit
theorem cmpI_cases (a b : Int) : (cmpI a b = -1 ∧ a < b) ∨ (cmpI a b = 0 ∧ a = b) ∨ (cmpI a b = 1 ∧ b < a) := by
 unfold cmpI
 by_cases h : a < b
 ·simp [h]
 ·by_cases h2 : b < a
  ·simp [h, h2]
  ·simp [h, h2]; omega
theorem cmpL_zero : ∀ (x y : List Int), cmpL x y = 0 ↔ x = y
 | [], [] => by simp [cmpL]
 | [], _ :: _ => by simp [cmpL]
 | _ :: _, [] => by simp [cmpL]
 | x :: xs, y :: ys => by
  simp only [cmpL]
  rcases cmpI_cases x y with ⟨h, h2⟩ | ⟨h, h2⟩ | ⟨h, h2⟩
  ·simp [h]; omega
  ·rw [if_pos h, cmpL_zero xs ys]; simp [h2]
  ·simp [h]; omega
theorem cmpL_swap : ∀ (x y : List Int), cmpL y x = - cmpL x y
 | [], [] => by simp [cmpL]
 | [], _ :: _ => by simp [cmpL]
 | _ :: _, [] => by simp [cmpL]
 | x :: xs, y :: ys => by
  simp only [cmpL]
  have ih := cmpL_swap xs ys
  rcases cmpI_cases x y with ⟨h, h2⟩ | ⟨h, h2⟩ | ⟨h, h2⟩ <;> rcases cmpI_cases y x with ⟨k, k2⟩ | ⟨k, k2⟩ | ⟨k, k2⟩ <;> simp [h, k, ih] <;> omega
theorem cmpL_le_trans : ∀ (x y z : List Int), cmpL x y ≤ 0 → cmpL y z ≤ 0 → cmpL x z ≤ 0
 | [], [], [] => by simp [cmpL]
 | [], [], _ :: _ => by simp [cmpL]
 | [], _ :: _, [] => by simp [cmpL]
 | [], _ :: _, _ :: _ => by simp [cmpL]
 | _ :: _, [], [] => by simp [cmpL]
 | _ :: _, [], _ :: _ => by simp [cmpL]
 | _ :: _, _ :: _, [] => by simp [cmpL]
 | x :: xs, y :: ys, z :: zs => by
  simp only [cmpL]
  have ih := cmpL_le_trans xs ys zs
  rcases cmpI_cases x y with ⟨h, h2⟩ | ⟨h, h2⟩ | ⟨h, h2⟩ <;> rcases cmpI_cases y z with ⟨k, k2⟩ | ⟨k, k2⟩ | ⟨k, k2⟩ <;> rcases cmpI_cases x z with ⟨l, l2⟩ | ⟨l, l2⟩ | ⟨l, l2⟩ <;> simp [h, k, l] <;> first | omega | (intros; omega) | exact ih | skip
theorem cmpL_total (x y : List Int) : cmpL x y ≤ 0 ∨ cmpL y x ≤ 0 := by have := cmpL_swap x y; omega
theorem cmpL_antisymm {x y : List Int} (h : cmpL x y ≤ 0) (k : cmpL y x ≤ 0) : x = y := by
 have := cmpL_swap x y
 exact (cmpL_zero x y).1 (by omega)
def SortedL (L : List (List Int)) : Prop := L.Pairwise (fun x y => cmpL x y ≤ 0)
def sortL (L : List (List Int)) : List (List Int) := L.mergeSort (fun x y => decide (cmpL x y ≤ 0))
theorem sortL_perm (L : List (List Int)) : (sortL L).Perm L := List.mergeSort_perm _ _
theorem sortL_sorted (L : List (List Int)) : SortedL (sortL L) := by
 have h := List.pairwise_mergeSort (le := fun x y => decide (cmpL x y ≤ 0)) (fun a b c h k => by simp at *; exact cmpL_le_trans a b c h k) (fun a b => by simp; exact cmpL_total a b) L
 exact h.imp (fun h => by simpa using h)
theorem sorted_unique : ∀ (L M : List (List Int)), SortedL L → SortedL M → L.Perm M → L = M := by
 intro L
 induction L with
 | nil => intro M _ _ h; exact (List.nil_perm.1 h).symm ▸ rfl
 | cons x L ih =>
  intro M hL hM hp
  cases M with
  | nil => exact absurd hp.symm (by simp)
  | cons y M =>
   have hxM : x ∈ y :: M := hp.subset (by simp)
   have hyL : y ∈ x :: L := hp.symm.subset (by simp)
   have hxy : x = y := by
    rcases List.mem_cons.1 hxM with h | h
    ·exact h
    ·rcases List.mem_cons.1 hyL with k | k
     ·exact k.symm
     ·exact cmpL_antisymm ((List.pairwise_cons.1 hL).1 y k) ((List.pairwise_cons.1 hM).1 x h)
   subst hxy
   rw [ih M (List.pairwise_cons.1 hL).2 (List.pairwise_cons.1 hM).2 (List.perm_cons x |>.1 hp)]
theorem sortL_unique {L M : List (List Int)} (h : M.Perm L) (hs : SortedL M) : M = sortL L :=
 sorted_unique _ _ hs (sortL_sorted L) (h.trans (sortL_perm L).symm)
end Go.Proofs.YtdcobapnlpeaaaaGreat
namespace Go.Proofs.YtdcobapnlpeaaaaGreat
theorem cmpL_append : ∀ (a b : List Int) (u v : Int), a.length = b.length → cmpL (a ++ [u]) (b ++ [v]) = if cmpL a b = 0 then cmpL [u] [v] else cmpL a b
 | [], [], u, v, _ => by simp [cmpL]
 | [], _ :: _, _, _, h => by simp at h
 | _ :: _, [], _, _, h => by simp at h
 | x :: a, y :: b, u, v, h => by
  have ih := cmpL_append a b u v (by simpa using h)
  generalize cmpL [u] [v] = c at ih ⊢
  simp only [List.cons_append, cmpL]
  rcases cmpI_cases x y with ⟨h1, _⟩ | ⟨h1, _⟩ | ⟨h1, _⟩ <;> simp [h1, ih]
theorem cmpL_one (u v : Int) : (cmpL [u] [v] < 0 ↔ u < v) ∧ (cmpL [u] [v] = 0 ↔ u = v) := by
 simp only [cmpL]
 rcases cmpI_cases u v with ⟨h1, h2⟩ | ⟨h1, h2⟩ | ⟨h1, h2⟩ <;> simp [h1] <;> omega
theorem cmpL_num {P : Pr} (hP : Valid P) {x y : List Int} (hx : Vec P.orders x) (hy : Vec P.orders y) : cmpL x y < 0 ↔ num P x < num P y := by
 have key : ∀ k, k ≤ P.orders.length → (cmpL (x.take k) (y.take k) < 0 ↔ numTo P.orders x k < numTo P.orders y k) ∧ (cmpL (x.take k) (y.take k) = 0 ↔ numTo P.orders x k = numTo P.orders y k) := by
  intro k
  induction k with
  | zero => intro _; simp [numTo, cmpL]
  | succ k ih =>
   intro hk
   obtain ⟨h1, h2⟩ := ih (by omega)
   have ho := hP.ord7 k (by omega)
   have hxk := hx.2 k (by omega)
   have hyk := hy.2 k (by omega)
   rw [take_succ_gt x k (by rw [hx.1]; omega), take_succ_gt y k (by rw [hy.1]; omega), cmpL_append _ _ _ _ (by simp [hx.1, hy.1])]
   simp only [numTo]
   obtain ⟨c1, c2⟩ := cmpL_one (gt x k) (gt y k)
   rcases Int.lt_trichotomy (numTo P.orders x k) (numTo P.orders y k) with h | h | h
   ·have hc : cmpL (x.take k) (y.take k) < 0 := h1.2 h
    rw [if_neg (by omega)]
    have h3 : (numTo P.orders x k + 1) * gt P.orders k ≤ numTo P.orders y k * gt P.orders k := Int.mul_le_mul_of_nonneg_right (by omega) (by omega)
    rw [Int.add_mul, Int.one_mul] at h3
    exact ⟨⟨fun _ => by omega, fun _ => hc⟩, ⟨fun h => by omega, fun h => by omega⟩⟩
   ·have hc : cmpL (x.take k) (y.take k) = 0 := h2.2 h
    rw [if_pos hc, h]
    exact ⟨by rw [c1]; omega, by rw [c2]; omega⟩
   ·have hc : ¬ cmpL (x.take k) (y.take k) < 0 := fun e => by have := h1.1 e; omega
    have hc2 : ¬ cmpL (x.take k) (y.take k) = 0 := fun e => by have := h2.1 e; omega
    rw [if_neg hc2]
    have h3 : (numTo P.orders y k + 1) * gt P.orders k ≤ numTo P.orders x k * gt P.orders k := Int.mul_le_mul_of_nonneg_right (by omega) (by omega)
    rw [Int.add_mul, Int.one_mul] at h3
    exact ⟨⟨fun h => absurd h hc, fun h => by omega⟩, ⟨fun h => absurd h hc2, fun h => by omega⟩⟩
 have h := (key P.orders.length (Nat.le_refl _)).1
 rw [List.take_of_length_le (by rw [hx.1]; omega), List.take_of_length_le (by rw [hy.1]; omega)] at h
 exact h
theorem asc_unique {P : Pr} (hP : Valid P) {L M : List (List Int)} (hL : ∀ x ∈ L, Vec P.orders x) (hsL : L.Pairwise (fun x y => num P x < num P y)) (hM : M.Pairwise (fun x y => num P x < num P y)) (h : ∀ x, x ∈ L ↔ x ∈ M) : L = M := by
 have nd : ∀ {K : List (List Int)}, K.Pairwise (fun x y => num P x < num P y) → K.Nodup := fun hK => hK.imp (fun h e => by rw [e] at h; omega)
 have hp : L.Perm M := (List.perm_ext_iff_of_nodup (nd hsL) (nd hM)).2 h
 have hMv : ∀ x ∈ M, Vec P.orders x := fun x hx => hL x ((h x).2 hx)
 have s1 : SortedL L := by
  refine List.Pairwise.imp_of_mem ?_ hsL
  intro a b ha hb hab
  have := (cmpL_num hP (hL a ha) (hL b hb)).2 hab
  omega
 have s2 : SortedL M := by
  refine List.Pairwise.imp_of_mem ?_ hM
  intro a b ha hb hab
  have := (cmpL_num hP (hMv a ha) (hMv b hb)).2 hab
  omega
 exact sorted_unique L M s1 s2 hp
open Classical in
noncomputable def elemsIn (P : Pr) (H : List Int → Prop) : List (List Int) := (List.range (ordP P).toNat).filterMap (fun t : Nat => if H (elAt P (t : Int)) then some (elAt P (t : Int)) else none)
theorem elemsIn_mem {P : Pr} (hP : Valid P) {H : List Int → Prop} (hH : ∀ x, H x → Vec P.orders x) (x : List Int) : x ∈ elemsIn P H ↔ H x := by
 unfold elemsIn
 rw [List.mem_filterMap]
 constructor
 ·rintro ⟨t, _, h⟩
  split at h
  ·cases h; assumption
  ·cases h
 ·intro h
  have hb := num_bd hP (hH x h)
  refine ⟨(num P x).toNat, List.mem_range.2 (by omega), ?_⟩
  have e : elAt P (((num P x).toNat : Nat) : Int) = x := by
   rw [show (((num P x).toNat : Nat) : Int) = num P x by omega]; exact elAt_num hP (hH x h)
  rw [e, if_pos h]
theorem elemsIn_asc {P : Pr} (hP : Valid P) (H : List Int → Prop) : (elemsIn P H).Pairwise (fun x y => num P x < num P y) := by
 unfold elemsIn
 rw [List.pairwise_filterMap]
 refine List.Pairwise.imp_of_mem ?_ (List.pairwise_lt_range (n := (ordP P).toNat))
 intro a b ha hb hab x hx y hy
 have ha' := List.mem_range.1 ha
 have hb' := List.mem_range.1 hb
 split at hx
 ·split at hy
  ·cases hx; cases hy
   rw [num_elAt hP _ (by omega) (by omega), num_elAt hP _ (by omega) (by omega)]
   omega
  ·cases hy
 ·cases hx
theorem sort_elemsIn {P : Pr} (hP : Valid P) {H : List Int → Prop} (hH : ∀ x, H x → Vec P.orders x) {L : List (List Int)} (hn : L.Nodup) (hm : ∀ x, x ∈ L ↔ H x) : sortL L = elemsIn P H := by
 have hp := sortL_perm L
 have hmem : ∀ x, x ∈ sortL L ↔ H x := fun x => hp.mem_iff.trans (hm x)
 have hnd : (sortL L).Nodup := hp.nodup_iff.2 hn
 refine asc_unique hP (fun x hx => hH x ((hmem x).1 hx)) ?_ (elemsIn_asc hP H) (fun x => (hmem x).trans (elemsIn_mem hP hH x).symm)
 have hs := sortL_sorted L
 have h2 : (sortL L).Pairwise (fun x y => cmpL x y ≤ 0 ∧ x ≠ y) := by
  have := List.pairwise_and_iff.2 ⟨hs, hnd⟩
  exact this
 refine List.Pairwise.imp_of_mem ?_ h2
 intro a b ha hb hab
 have hva := hH a ((hmem a).1 ha)
 have hvb := hH b ((hmem b).1 hb)
 refine (cmpL_num hP hva hvb).1 ?_
 have h0 : cmpL a b ≠ 0 := fun e => hab.2 ((cmpL_zero a b).1 e)
 omega
end Go.Proofs.YtdcobapnlpeaaaaGreat
namespace Go.Proofs.YtdcobapnlpeaaaaGreat
section
variable {P : Pr} (G : Grp P)
include G
theorem Grp.elsP_nodup {U : List (List Int)} (hU : SeqOk P U) : (elsP P U U.length).Nodup :=
 (G.elsP_diff hU U.length P.orders.length (Nat.le_refl _) (fun j hj => (hU.1 _ (gtMem hj)).2.1) (Nat.le_refl _)).imp (fun ⟨j, _, h⟩ e => h (by rw [e]))
theorem Grp.els_sorted {H : List Int → Prop} (S : Sub P H) : sortL (elsP P (cseq P H) (cseq P H).length) = elemsIn P H := by
 obtain ⟨h1, h2, h3⟩ := G.seq_facts S
 exact sort_elemsIn G.v S.vec (G.elsP_nodup h1) (G.elsP_mem S h1 h2 h3)
end
end Go.Proofs.YtdcobapnlpeaaaaGreat
namespace Go.Proofs.YtdcobapnlpeaaaaGreat
theorem tabTo_len (U : List (List Int)) (n k : Nat) : (tabTo U n k).length = n := by
 induction k with
 | zero => simp [tabTo]
 | succ k ih => simp only [tabTo, List.length_set]; exact ih
theorem tabTo_at (P : Pr) (U : List (List Int)) : ∀ k, k ≤ U.length → ∀ d, d < P.orders.length →
  (gt (tabTo U P.orders.length k) d = [] ∧ ∀ j, j < k → dep (gt U j) ≠ d) ∨ ∃ j, j < k ∧ dep (gt U j) = d ∧ gt (tabTo U P.orders.length k) d = gt U j := by
 intro k
 induction k with
 | zero => intro _ d hd; exact .inl ⟨by simp [tabTo, gt, hd], fun j hj => by omega⟩
 | succ k ih =>
  intro hk d hd
  have hl := tabTo_len U P.orders.length k
  simp only [tabTo]
  by_cases h : dep (gt U k) = d
  ·right
   exact ⟨k, by omega, h, by rw [h, gt_set_eq _ _ _ (by omega)]⟩
  ·rw [gt_set_ne _ _ _ _ h]
   rcases ih (by omega) d hd with ⟨h1, h2⟩ | ⟨j, h1, h2, h3⟩
   ·left
    refine ⟨h1, fun j hj => ?_⟩
    rcases Nat.lt_succ_iff_lt_or_eq.1 hj with hj | hj
    ·exact h2 j hj
    ·rw [hj]; exact h
   ·right
    exact ⟨j, by omega, h2, h3⟩
theorem tabTo_vec {P : Pr} {U : List (List Int)} (hU : SeqOk P U) (d : Nat) (hd : d < P.orders.length) (hne : gt (tabTo U P.orders.length U.length) d ≠ []) :
  T P d (gt (tabTo U P.orders.length U.length) d) ∧ gt (gt (tabTo U P.orders.length U.length) d) d = 1 := by
 rcases tabTo_at P U U.length (Nat.le_refl _) d hd with ⟨h, _⟩ | ⟨j, hj, hjd, he⟩
 ·exact absurd h hne
 ·obtain ⟨a, _, c⟩ := hU.1 _ (gtMem hj)
  rw [he, ← hjd]
  exact ⟨dep_T a, c⟩
structure RedTo (P : Pr) (H : List Int → Prop) (b : List (List Int)) (X : List Int) (d : Nat) (Y : List Int) : Prop where
 vec : Vec P.orders Y
 cos : H (rMul P (rInv P X) Y)
 zer : ∀ e, e < d → gt b e ≠ [] → gt Y e = 0
section
variable {P : Pr} (G : Grp P)
include G
theorem Grp.ind_tab {H : List Int → Prop} (S : Sub P H) : Ind P H (gt (tabTo (cseq P H) P.orders.length (cseq P H).length)) := by
 obtain ⟨h1, h2, h3⟩ := G.seq_facts S
 refine ⟨S, fun d hd hne => ?_, fun x hx d hd hT h0 => ?_⟩
 ·refine ⟨?_, tabTo_vec h1 d hd hne⟩
  rcases tabTo_at P _ _ (Nat.le_refl _) d hd with ⟨h, _⟩ | ⟨j, hj, _, he⟩
  ·exact absurd h hne
  ·rw [he]; exact h2 _ (gtMem hj)
 ·obtain ⟨j, hj, hjd⟩ := h3 x hx d hd hT h0
  rcases tabTo_at P _ _ (Nat.le_refl _) d hd with ⟨_, h⟩ | ⟨i, hi, _, he⟩
  ·exact absurd hjd (h j hj)
  ·rw [he]
   intro hn
   have := (h1.1 _ (gtMem hi)).1.1
   rw [hn] at this; simp at this; omega
theorem Grp.redTo_zero {H : List Int → Prop} {b : List (List Int)} (S : Sub P H) {X : List Int} (hX : Vec P.orders X) : RedTo P H b X 0 X :=
 ⟨hX, by rw [G.inv_mul hX]; exact S.one, fun e he => by omega⟩
omit G in
theorem RedTo.skip {H : List Int → Prop} {b : List (List Int)} {X Y : List Int} {d : Nat} (h : RedTo P H b X d Y) (h0 : gt b d = [] ∨ gt Y d = 0) : RedTo P H b X (d + 1) Y :=
 ⟨h.vec, h.cos, fun e he hb => by
  rcases Nat.lt_succ_iff_lt_or_eq.1 he with h1 | h1
  ·exact h.zer e h1 hb
  ·subst h1; exact h0.elim (fun h => absurd h hb) id⟩
theorem Grp.redTo_step {H : List Int → Prop} {b : List (List Int)} (I : Ind P H (gt b)) {X Y : List Int} {d : Nat} (hX : Vec P.orders X) (hd : d < P.orders.length) (hb : gt b d ≠ []) (h : RedTo P H b X d Y) :
  RedTo P H b X (d + 1) (rMul P Y (pwZ P (gt b d) (-(gt Y d)))) := by
 obtain ⟨m1, m2, m3⟩ := I.mem d hd hb
 have hc := G.right_clear hd h.vec m2 m3
 refine ⟨hc.2.2, ?_, fun e he hbe => ?_⟩
 ·rw [← G.ass (G.invV hX) h.vec (G.pwZ_vec m2.1 _)]
  exact I.sub.mul _ _ h.cos (I.sub.pwZ m1 _)
 ·rcases Nat.lt_succ_iff_lt_or_eq.1 he with h1 | h1
  ·rw [hc.2.1 e h1]; exact h.zer e h1 hbe
  ·subst h1; exact hc.1
omit G in
theorem RedTo.rep {H : List Int → Prop} {b : List (List Int)} {X Y : List Int} (h : RedTo P H b X P.orders.length Y) : Rep P H (gt b) X Y := ⟨h.vec, h.cos, h.zer⟩
theorem Grp.rep_mem {H : List Int → Prop} {b : Nat → List Int} (I : Ind P H b) {X Y : List Int} (hX : Vec P.orders X) (h : Rep P H b X Y) : Y = zeros P.orders.length ↔ H X := by
 have hi := G.invV hX
 constructor
 ·intro h0
  have h1 := h.2.1
  rw [h0, G.grp.er _ hi] at h1
  have := I.sub.inv _ h1
  rwa [G.inv_inv hX] at this
 ·intro hx
  refine G.rep_one I hX h ⟨G.oneV, ?_, fun e _ _ => gt_replicate _ _⟩
  rw [G.grp.er _ hi]; exact I.sub.inv _ hx
end
end Go.Proofs.YtdcobapnlpeaaaaGreat
namespace Go.Proofs.YtdcobapnlpeaaaaGreat
open Go.RowKit
set_option maxHeartbeats 400000 in
theorem l02Lead_ok (v : Value) (X : List Int) (w : World) (S : Nat → Prop) (h : Ints S w v X) :
  Calls Tryz.prog 317 #[v] w fun e w' => e = .returned (.int .i64 (dep X)) ∧ w = w' := by
 obtain ⟨a, cap, rfl, _, _⟩ := h.shape
 go_enter Tryz.func317, Tryz.ntmps317
 go_wp2
 go_loop [3] (fun i => ∃ k : Nat, i = .int .i64 k ∧ k ≤ X.length ∧ ∀ j, j < k → gt X j = 0) (fun i => X.length - (intOf i).toNat)
 case atStart => exact ⟨0, rfl, by omega, fun j hj => by omega⟩
 case round =>
  obtain ⟨k, rfl, hk, hz⟩ := hrel
  have HZ := Lib.hid hz; clear hz
  by_cases hlt : k < X.length
  ·obtain ⟨b, off, rfl, _, _, hc⟩ := Ints.at h k hlt
   by_cases hx : gt X k = 0
   ·have hb : (gt X k != 0) = false := by simp [hx]
    have HX := Lib.hid hx; clear hx
    go_wp2
    go_round
    case rel => exact ⟨k + 1, by go_num, by omega, fun j hj => by
     rcases Nat.lt_succ_iff_lt_or_eq.1 hj with h1 | h1
     ·exact HZ.out j h1
     ·rw [h1]; exact HX.out⟩
    case measure => simp [intOf]; omega
   ·have hb : (gt X k != 0) = true := by simp [hx]
    have he : dep X = k := dep_eq hlt HZ.out hx
    have HE := Lib.hid he; clear he hx
    go_wp2
    go_ret
    exact ⟨by rw [HE.out]; rfl, rfl⟩
  ·have hke : k = X.length := by omega
   have he : dep X = X.length := dep_all (fun j hj => HZ.out j (by omega))
   have HE := Lib.hid he; clear he
   go_wp2
   go_ret
   exact ⟨by rw [HE.out]; rfl, rfl⟩
theorem l12Depth_ok (v : Value) (X : List Int) (w : World) (S : Nat → Prop) (h : Ints S w v X) :
  Calls Tryz.prog 289 #[v] w (Ret w fun _ r => r = .int .i64 (dep X)) := by
 have hcon := l02Lead_ok v X w S h
 obtain ⟨a, cap, rfl, _, _⟩ := h.shape
 go_enter Tryz.func289, Tryz.ntmps289
 go_wp2_with fail
 refine Calls.mono hcon ?_
 rintro e1 w1 ⟨rfl, rfl⟩
 clear hcon
 go_wp2
 go_ret
 exact ⟨_, rfl, Ext.refl _, rfl⟩
set_option maxRecDepth 100000 in
set_option maxHeartbeats 1000000 in
theorem l12Table_ok (P : Pr) (hP : Valid P) (w : World) (pv uv : Value) (U : List (List Int)) (Sp Su : Nat → Prop) (hpv : PresV Sp w pv P) (hu : Rows2 Su w uv U) (hU : SeqOk P U) (hl : U.length ≤ 6) :
  Calls Tryz.prog 226 #[pv, uv] w (Ret w fun w' v => Rows2 Any w' v (tabTo U P.orders.length U.length)) := by
 have hn6 := hP.n6
 obtain ⟨vo, vp, vc, rfl, h3⟩ := hpv
 have hp0 := PresP.box h3 28
 have hg0 : Ext w (w.alloc (.cells #[vo, vp, vc] 28)) := World.grownBy_alloc _ _ _
 obtain ⟨ao, capo, hco, hoi⟩ := hp0.ordAt
 obtain ⟨au, capu, rfl, _, _⟩ := Sl.shape hu
 have HU := Lib.hid hU; clear hU
 go_enter Tryz.func226, Tryz.ntmps226
 go_wp2_with (first | (at_make; refine wp_make_tab rfl _ _ rfl w.heap.size P.orders.length (w.heap.size + 1) (by simp) _ rfl rfl rfl (by omega) (by omega) ?_; intro w1 hT1 hg1 hlt1) | fail)
 have hgw := grown_trans hg0 hg1
 have hT := hT1 (fun _ => False)
 clear hT1 hco hoi hp0
 go_loopw [6] (fun iv wr => ∃ i : Nat, iv = .int .i64 i ∧ i ≤ U.length ∧ Ext w wr ∧ TabAt w.heap.size (fun _ => False) wr (w.heap.size + 1) P.orders.length (tabTo U P.orders.length i)) (fun iv _ => U.length - (intOf iv).toNat)
 case atStart => exact ⟨0, rfl, by omega, hgw, hT⟩
 case round =>
  clear hT hgw
  obtain ⟨i, rfl, hi, hg, hT⟩ := hrel
  by_cases hlt : i < U.length
  ·have hlt' : (i : Int) < U.length := by omega
   obtain ⟨b, off, a2, cap2, rfl, _, hbl0, hc0, hr⟩ := Rows2.at hu i hlt
   have hc := hg.cell hc0 (by simp)
   clear hc0
   obtain ⟨hzV, hzd, hz1⟩ := HU.out.1 _ (gtMem hlt)
   have hst : tabTo U P.orders.length (i + 1) = (tabTo U P.orders.length i).set (dep (gt U i)) (gt U i) := rfl
   obtain ⟨z, hz⟩ : ∃ z, z = gt U i := ⟨_, rfl⟩
   rw [← hz] at hc hr hzV hzd hz1 hst
   clear hz
   obtain ⟨d, hd⟩ : ∃ d, d = dep z := ⟨_, rfl⟩
   rw [← hd] at hzd hst hz1
   have HD := Lib.hid hd; clear hd
   have hbl : b < w.heap.size := hbl0
   have hr3 := Ints.ext hr hg
   have hzne : z ≠ [] := fun e => by have := hzV.1; rw [e] at this; simp at this; omega
   have hrS : Ints (fun k => k ≠ w.heap.size + 1 ∧ ¬ False) wr (.slice a2 z.length cap2) z := by
    have h1 : Ints (fun k => k < w.heap.size) w (.slice a2 z.length cap2) z := Ints.sub hr (fun _ _ h => h)
    exact h1.mono (fun k hk hlt => ⟨⟨by omega, id⟩, Nat.lt_of_lt_of_le hlt hg.size, hg.block k hlt (by simp)⟩)
   obtain ⟨hfr, hcc⟩ := hT.at d hzd
   have HS := Lib.hid (And.intro hst (And.intro hzne (And.intro hzV hz1))); clear hst hzne hzV hz1
   have hdn : (d : Int) < P.orders.length := by omega
   obtain ⟨u0, hu0⟩ : ∃ u0, wr.cell? ⟨w.heap.size + 1, d, none⟩ = some u0 := by rcases hcc with ⟨_, h⟩ | ⟨_, _, _, h, _⟩ <;> exact ⟨_, h⟩
   clear hcc hbl0
   have e1 : ∀ w', Near wr (w.heap.size + 1) w' → w'.cell? ⟨b, off + i, none⟩ = some (.slice a2 z.length cap2) := fun w' h => h.cell hc (by simp; omega)
   go_wp2
   go_region_held3 (fun w' => Near wr (w.heap.size + 1) w') (first | exact Near.of (grown_drew _ _) | exact Near.of (by assumption) | exact Near.store (by assumption) | assumption)
    (first
     | (go_at_call 289; refine Calls.mono (Calls.rel (w0 := wr) (by first | exact grown_drew _ _ | assumption) (l12Depth_ok _ z _ Any (Ints.sub (Ints.ext hr3 (by first | exact grown_drew _ _ | assumption)) (fun _ _ _ => trivial)))) ?_; rintro eE wE ⟨vE, rfl, hgE, hsE, hvE⟩; rw [← HD.out] at hvE; subst hvE; have hcel2 := hgE.cell hu0 (by simp); have hfr2 := ((hT.ext hgE).at d hzd).1))
   clear e1
   obtain ⟨hT5, hg5⟩ := (hT.ext hgE).put d (u := .slice a2 z.length cap2) (y := z) (Ints.ext hrS hgE) HS.out.2.1
   have hgn : Ext w (wE.setCell ⟨w.heap.size + 1, d, none⟩ (.slice a2 z.length cap2)) := grown_own (grown_trans hg hgE) hg5 (fun j hj hlt => by cases hj; omega)
   clear hcel2 hfr2 hg5
   go_wp2
   go_roundw
   case rel => exact ⟨i + 1, by go_num, by omega, hgn, by rw [HS.out.1]; exact hT5⟩
   case measure => simp [intOf]; omega
  ·have hie : i = U.length := by omega
   subst hie
   go_wp2
   go_ret
   exact ⟨_, rfl, hg, Rows2.sub (hT.rows (by omega)) (fun _ _ _ => trivial)⟩
end Go.Proofs.YtdcobapnlpeaaaaGreat
namespace Go.Proofs.YtdcobapnlpeaaaaGreat
theorem genP_self {P : Pr} {H : List Int → Prop} (S : Sub P H) : genP P H = H :=
 funext fun _ => propext ⟨fun h => h H S (fun _ hy => hy), fun h => genP_mem h⟩
theorem genP_or (P : Pr) (Q L : List Int → Prop) : genP P (fun x => genP P Q x ∨ L x) = genP P (fun x => Q x ∨ L x) :=
 funext fun _ => propext ⟨fun h K S hQ => h K S (fun y hy => hy.elim (fun h => h K S (fun z hz => hQ z (.inl hz))) (fun h => hQ y (.inr h))),
  fun h K S hQ => h K S (fun y hy => hy.elim (fun h => hQ y (.inl (genP_mem h))) (fun h => hQ y (.inr h)))⟩
theorem Sub.and {P : Pr} {H K : List Int → Prop} (S : Sub P H) (R : Sub P K) : Sub P (fun x => H x ∧ K x) :=
 ⟨fun _ h => S.vec _ h.1, ⟨S.one, R.one⟩, fun _ _ h k => ⟨S.mul _ _ h.1 k.1, R.mul _ _ h.2 k.2⟩, fun _ h => ⟨S.inv _ h.1, R.inv _ h.2⟩⟩
theorem Grp.genP_none {P : Pr} (G : Grp P) : genP P (fun _ => False) = fun x => x = zeros P.orders.length :=
 funext fun _ => propext ⟨fun h => h _ G.sub_one (fun _ h => h.elim), fun h K S _ => by rw [h]; exact S.one⟩
theorem genP_list {P : Pr} {H : List Int → Prop} (S : Sub P H) {L : List (List Int)} (h : ∀ x, x ∈ L ↔ H x) : genP P (fun x => x ∈ L) = H := by
 have : (fun x => x ∈ L) = H := funext fun x => propext (h x)
 rw [this]; exact genP_self S
end Go.Proofs.YtdcobapnlpeaaaaGreat
namespace Go.Proofs.YtdcobapnlpeaaaaGreat
def ordsU (P : Pr) (U : List (List Int)) : List Int := U.map (fun z => gt P.orders (dep z))
theorem ordsU_len (P : Pr) (U : List (List Int)) : (ordsU P U).length = U.length := by unfold ordsU; rw [List.length_map]
theorem ordsU_at (P : Pr) (U : List (List Int)) (i : Nat) (hi : i < U.length) : gt (ordsU P U) i = gt P.orders (dep (gt U i)) := by unfold ordsU; rw [gt_map _ _ _ hi]
def prodR (P : Pr) (U : List (List Int)) (a : List Int) : Nat → List Int
 | 0 => zeros P.orders.length
 | k + 1 => rMul P (prodR P U a k) (pwZ P (gt U k) (gt a k))
def shapeP (o : List Int) : Pr := ⟨o, List.replicate o.length (zeros o.length), (List.range o.length).map (fun i => List.replicate (o.length - 1 - i) (zeros o.length))⟩
theorem gt_rep {α : Type} [Inhabited α] (n : Nat) (x : α) (i : Nat) (hi : i < n) : gt (List.replicate n x) i = x := by simp [gt, hi]
theorem shapeP_valid {o : List Int} (hn : o.length ≤ 6) (ho : ∀ i, i < o.length → gt o i = 2 ∨ gt o i = 3 ∨ gt o i = 5 ∨ gt o i = 7) (hp : prodTo o o.length ≤ 729) : Valid (shapeP o) := by
 have hz : Vec o (zeros o.length) := ⟨by simp [zeros], fun i hi => by
  have : gt (zeros o.length) i = 0 := gt_replicate _ _
  rw [this]; rcases ho i hi with h | h | h | h <;> rw [h] <;> decide⟩
 have hz0 : ∀ i, ZeroTo i (zeros o.length) := fun i j _ => gt_replicate _ _
 refine ⟨hp, hn, by simp [shapeP], by simp [shapeP], ho, fun i hi => ?_, fun i hi => ?_⟩
 ·show Vec o (gt (List.replicate o.length (zeros o.length)) i) ∧ ZeroTo i (gt (List.replicate o.length (zeros o.length)) i)
  rw [gt_rep o.length _ _ hi]
  exact ⟨hz, hz0 i⟩
 ·have e : gt (shapeP o).conj i = List.replicate (o.length - 1 - i) (zeros o.length) := by
   unfold shapeP
   have h2 : i < (List.range o.length).length := by rw [List.length_range]; exact hi
   have := gt_map (fun i => List.replicate (o.length - 1 - i) (zeros o.length)) (List.range o.length) i h2
   rw [this]
   simp [gt, show i < o.length from hi]
  rw [e]
  refine ⟨by simp [shapeP], fun k hk => ?_⟩
  rw [gt_rep (o.length - 1 - i) _ _ hk]
  exact ⟨hz, hz0 i⟩
theorem prodR_congr {P : Pr} {U : List (List Int)} {a a' : List Int} (k : Nat) (h : ∀ j, j < k → gt a j = gt a' j) : prodR P U a k = prodR P U a' k := by
 induction k with
 | zero => rfl
 | succ k ih =>
  simp only [prodR]
  rw [ih (fun j hj => h j (by omega)), h k (by omega)]
theorem prodTo_ordsU (P : Pr) (U : List (List Int)) (k : Nat) (hk : k ≤ U.length) : prodTo (ordsU P U) k = prodU P U k := by
 induction k with
 | zero => rfl
 | succ k ih => simp only [prodTo, prodU]; rw [ih (by omega), ordsU_at P U k (by omega)]
section
variable {P : Pr} (G : Grp P)
include G
theorem Grp.prodR_vec {U : List (List Int)} (hU : ∀ z ∈ U, Vec P.orders z) (a : List Int) (k : Nat) (hk : k ≤ U.length) : Vec P.orders (prodR P U a k) := by
 induction k with
 | zero => exact G.oneV
 | succ k ih => exact G.mulV (ih (by omega)) (G.pwZ_vec (hU _ (gtMem (by omega))) _)
theorem Grp.mem_elsP {U : List (List Int)} (hU : SeqOk P U) (x : List Int) : ∀ k, k ≤ U.length → (x ∈ elsP P U k ↔ ∃ a : List Int, a.length = U.length ∧ (∀ j, j < k → 0 ≤ gt a j ∧ gt a j < gt P.orders (dep (gt U j))) ∧ x = prodR P U a k) := by
 intro k
 induction k generalizing x with
 | zero =>
  intro _
  simp only [elsP, List.mem_singleton, prodR]
  exact ⟨fun h => ⟨List.replicate U.length 0, by simp, fun j hj => by omega, h⟩, fun ⟨_, _, _, h⟩ => h⟩
 | succ k ih =>
  intro hk
  have hd := (hU.1 _ (gtMem (show k < U.length by omega))).2.1
  have ho := G.v.ord7 _ hd
  simp only [elsP, List.mem_flatMap, stepE, List.mem_map, List.mem_range]
  constructor
  ·rintro ⟨y, hy, t, ht, rfl⟩
   obtain ⟨a, ha, hb, rfl⟩ := (ih y (by omega)).1 hy
   refine ⟨a.set k t, by simp [ha], fun j hj => ?_, ?_⟩
   ·rcases Nat.lt_succ_iff_lt_or_eq.1 hj with h | h
    ·rw [gt_set_ne _ _ _ _ (by omega)]; exact hb j h
    ·subst h; rw [gt_set_eq _ _ _ (by omega)]; omega
   ·simp only [prodR]
    rw [gt_set_eq _ _ _ (by omega), pwZ_nat _ _ _ (by omega), prodR_congr (a := a.set k t) (a' := a) k (fun j hj => gt_set_ne _ _ _ _ (by omega))]
    rfl
  ·rintro ⟨a, ha, hb, rfl⟩
   have hk2 := hb k (by omega)
   refine ⟨prodR P U a k, (ih _ (by omega)).2 ⟨a, ha, fun j hj => hb j (by omega), rfl⟩, (gt a k).toNat, by omega, ?_⟩
   simp only [prodR]
   rw [pwZ_nat _ _ _ hk2.1]
theorem Grp.mem_prods {H : List Int → Prop} (S : Sub P H) (x : List Int) : H x ↔ ∃ m : Int, 0 ≤ m ∧ m < prodU P (cseq P H) (cseq P H).length ∧ x = prodR P (cseq P H) (elAt (shapeP (ordsU P (cseq P H))) m) (cseq P H).length := by
 obtain ⟨h1, h2, h3⟩ := G.seq_facts S
 obtain ⟨U, hU⟩ : ∃ U, U = cseq P H := ⟨_, rfl⟩
 rw [← hU] at h1 h2 h3 ⊢
 have hlen : U.length ≤ P.orders.length := by rw [hU]; exact G.cseq_len S
 have hn6 := G.v.n6
 have hol := ordsU_len P U
 have hV : Valid (shapeP (ordsU P U)) := by
  refine shapeP_valid (by omega) (fun i hi => ?_) ?_
  ·rw [ordsU_at P U i (by omega)]
   exact G.v.ord _ (h1.1 _ (gtMem (by omega))).2.1
  ·rw [hol, prodTo_ordsU P U U.length (Nat.le_refl _)]
   exact (prodU_729 G.v h1 U.length (Nat.le_refl _)).2
 have hO : ordP (shapeP (ordsU P U)) = prodU P U U.length := by
  unfold ordP
  show prodTo (ordsU P U) (ordsU P U).length = _
  rw [hol]; exact prodTo_ordsU P U U.length (Nat.le_refl _)
 rw [← G.elsP_mem S h1 h2 h3 x, G.mem_elsP h1 x U.length (Nat.le_refl _)]
 constructor
 ·rintro ⟨a, ha, hb, rfl⟩
  have hav : Vec (shapeP (ordsU P U)).orders a := ⟨by rw [ha]; exact hol.symm, fun i hi => by
   have hi : i < (ordsU P U).length := hi
   show _ ∧ _ < gt (ordsU P U) i
   rw [ordsU_at P U i (by omega)]; exact hb i (by omega)⟩
  have hbd := num_bd hV hav
  refine ⟨num _ a, hbd.1, by rw [← hO]; exact hbd.2, ?_⟩
  rw [elAt_num hV hav]
 ·rintro ⟨m, h4, h5, rfl⟩
  have hv := elAt_vec hV m h4
  have hvl : (elAt (shapeP (ordsU P U)) m).length = (ordsU P U).length := hv.1
  refine ⟨_, by rw [hvl, hol], fun j hj => ?_, rfl⟩
  have h6 : 0 ≤ gt (elAt (shapeP (ordsU P U)) m) j ∧ gt (elAt (shapeP (ordsU P U)) m) j < gt (ordsU P U) j := hv.2 j (by show j < (ordsU P U).length; omega)
  rw [ordsU_at P U j hj] at h6; exact h6
end
end Go.Proofs.YtdcobapnlpeaaaaGreat
namespace Go.Proofs.YtdcobapnlpeaaaaGreat
theorem stepE_succ (P : Pr) (u : List Int) (o : Nat) (x : List Int) : stepE P u (o + 1) x = stepE P u o x ++ [rMul P x (pw P u o)] := by
 unfold stepE
 rw [List.range_succ, List.map_append]; rfl
theorem flatMap_take_succ {α β : Type} [Inhabited α] (l : List α) (f : α → List β) (i : Nat) (hi : i < l.length) : (l.take (i + 1)).flatMap f = (l.take i).flatMap f ++ f (gt l i) := by
 rw [take_succ_gt l i hi, List.flatMap_append]; simp
theorem stepE_len (P : Pr) (u : List Int) (o : Nat) (x : List Int) : (stepE P u o x).length = o := by unfold stepE; simp
theorem flatMap_len (P : Pr) (u : List Int) (o : Nat) (l : List (List Int)) : (l.flatMap (stepE P u o)).length = l.length * o := by
 induction l with
 | nil => simp
 | cons x l ih => rw [List.flatMap_cons, List.length_append, ih, stepE_len, List.length_cons, Nat.add_mul]; omega
theorem elsP_len {P : Pr} (hP : Valid P) {U : List (List Int)} (hU : SeqOk P U) (k : Nat) (hk : k ≤ U.length) : ((elsP P U k).length : Int) = prodU P U k := by
 induction k with
 | zero => simp [elsP, prodU]
 | succ k ih =>
  have ih := ih (by omega)
  have ho := hP.ord7 (dep (gt U k)) (hU.1 _ (gtMem (by omega))).2.1
  simp only [elsP, prodU]
  rw [flatMap_len, Int.natCast_mul, ih, show (((gt P.orders (dep (gt U k))).toNat : Nat) : Int) = gt P.orders (dep (gt U k)) by omega]
theorem Grp.step_mul {P : Pr} (G : Grp P) {x u : List Int} (hx : Vec P.orders x) (hu : Vec P.orders u) (t : Nat) : rMul P (rMul P x (pw P u t)) u = rMul P x (pw P u (t + 1)) := by
 rw [pw_succ, G.ass hx (G.pw_vec hu t) hu]
end Go.Proofs.YtdcobapnlpeaaaaGreat
namespace Go.Proofs.YtdcobapnlpeaaaaGreat
open Go.RowKit
set_option maxRecDepth 100000 in
set_option maxHeartbeats 2000000 in
theorem l12Reduce_ok (P : Pr) (G : Grp P) (w : World) (pv tv xv : Value) (b : List (List Int)) (X : List Int) (H : List Int → Prop) (Sp Sb Sx : Nat → Prop) (hpv : PresV Sp w pv P) (ht : Rows2 Sb w tv b) (hx : Ints Sx w xv X) (hX : Vec P.orders X)
  (hlb : b.length = P.orders.length) (hI : Ind P H (gt b)) :
  Calls Tryz.prog 225 #[pv, tv, xv] w (Ret w fun w' v => ∃ Y, Own w.heap.size w' v Y ∧ RedTo P H b X P.orders.length Y) := by
 have hP := G.v
 have hn6 := hP.n6
 obtain ⟨vo, vp, vc, rfl, h3⟩ := hpv
 have hp0 := PresP.box h3 28
 have hg0 : Ext w (w.alloc (.cells #[vo, vp, vc] 28)) := World.grownBy_alloc _ _ _
 have hx0 := hx.ext hg0
 have ht0 := Rows2.ext ht hg0
 have hXl : X.length ≤ 6 := by rw [hX.1]; omega
 have hs0 : (w.alloc (.cells #[vo, vp, vc] 28)).heap.size = w.heap.size + 1 := by simp
 obtain ⟨at_, capt, hvt, _, _⟩ := Sl.shape ht
 rw [hlb] at hvt
 subst hvt
 have HI := Lib.hid (And.intro hI (And.intro hX hlb)); clear hI hX hlb
 obtain ⟨vo6, vp6, vc6, _, _, hc0, hc1, hc2, h36⟩ := hp0.at
 simp only [Nat.zero_add] at hc1 hc2
 clear hp0
 go_enter Tryz.func225, Tryz.ntmps225
 go_wp2_with fail
 have HS := Lib.hid hs0; clear hs0
 generalize hw0 : w.alloc (.cells #[vo, vp, vc] 28) = w0 at *
 clear hw0
 refine Calls.mono (l01Own_ok w0 xv X Sx hx0 (by omega)) ?_
 rintro e1 w1 ⟨ov, rfl, hg1, hO1⟩
 go_wp2
 go_loopw [7, 8] (fun ov iv wr => ∃ (d : Nat) (Y : List Int), iv = .int .i64 d ∧ d ≤ P.orders.length ∧ Ext w0 wr ∧ Own w.heap.size wr ov Y ∧ Hid (RedTo P H b X d Y)) (fun _ iv _ => P.orders.length - (intOf iv).toNat)
 case atStart => exact ⟨0, X, rfl, by omega, hg1, hO1.weak (by have := HS.out; omega), Lib.hid (G.redTo_zero HI.out.1.sub HI.out.2.1)⟩
 case round =>
  clear hO1
  obtain ⟨d, Y, rfl, hd, hg, hO, hR⟩ := hrel
  have hYV := hR.out.vec
  have hYl : Y.length = P.orders.length := hYV.1
  have hYi := hO.ints (by omega)
  obtain ⟨ay, capy, hvy, _, _⟩ := hYi.shape
  rw [hYl] at hvy
  subst hvy
  by_cases hlt : d < P.orders.length
  ·have hlt' : (d : Int) < P.orders.length := by omega
   obtain ⟨bb, off, a2, cap2, rfl, _, _, hc, hr⟩ := Rows2.at (Rows2.ext ht0 hg) d (by rw [HI.out.2.2]; exact hlt)
   obtain ⟨by_, oy, rfl, _, _, hcy⟩ := Ints.at hYi d (by omega)
   by_cases hb : gt b d = []
   ·have hbl : ¬ (0 : Int) < (gt b d).length := by rw [hb]; simp
    have hR2 := Lib.hid (hR.out.skip (.inl hb)); clear hb hYV
    go_wp2
    go_roundw
    case rel => exact ⟨d + 1, Y, by go_num, by omega, hg, hO, hR2⟩
    case measure => simp [intOf]; omega
   ·have hbl : (0 : Int) < (gt b d).length := by
     have : 0 < (gt b d).length := List.length_pos_iff.2 hb
     omega
    by_cases hy : gt Y d = 0
    ·have hyb : (gt Y d != 0) = false := by simp [hy]
     have hR2 := Lib.hid (hR.out.skip (.inr hy)); clear hb hYV hy
     go_wp2
     go_roundw
     case rel => exact ⟨d + 1, Y, by go_num, by omega, hg, hO, hR2⟩
     case measure => simp [intOf]; omega
    ·have hyb : (gt Y d != 0) = true := by simp [hy]
     have hyd := hYV.2 d hlt
     have ho := hP.ord7 d hlt
     have hwn : IntKind.i64.wrap (-(gt Y d)) = -(gt Y d) := IntWalk.i64_in _ (by omega)
     obtain ⟨m1, m2, m3⟩ := HI.out.1.mem d hlt hb
     have hR2 := Lib.hid (G.redTo_step HI.out.1 HI.out.2.1 hlt hb hR.out)
     have hpV := G.pwZ_vec m2.1 (-(gt Y d))
     have hpl : (pwZ P (gt b d) (-(gt Y d))).length ≤ 6 := by rw [hpV.1]; omega
     have HB := Lib.hid (And.intro m2.1 (And.intro hpV (And.intro hpl (And.intro hYV (And.intro hyd ho))))); clear m1 m2 m3 hpV hpl hYV hyd ho hb hy
     have e1 : ∀ w', Ext wr w' → w'.cell? ⟨w.heap.size, 0, none⟩ = some vo6 := fun w' h => (grown_trans hg h).cell hc0 (by simp)
     have e2 : ∀ w', Ext wr w' → w'.cell? ⟨w.heap.size, 1, none⟩ = some vp6 := fun w' h => (grown_trans hg h).cell hc1 (by simp)
     have e3 : ∀ w', Ext wr w' → w'.cell? ⟨w.heap.size, 2, none⟩ = some vc6 := fun w' h => (grown_trans hg h).cell hc2 (by simp)
     have e4 : ∀ w', Ext wr w' → w'.cell? ⟨bb, off + d, none⟩ = some (.slice a2 (gt b d).length cap2) := fun w' h => h.cell hc (by simp)
     have e5 : ∀ w', Ext wr w' → w'.cell? ⟨by_, oy + d, none⟩ = some (.int .i64 (gt Y d)) := fun w' h => h.cell hcy (by simp)
     go_wp2
     clear hc hcy
     go_region_held3 (fun w' => Ext wr w') (first | exact grown_drew _ _ | assumption)
      (first
       | (go_at_call 106; refine Calls.mono (Calls.rel (w0 := wr) (by assumption) (l10Pow_ok P G _ _ _ (gt b d) _ Any Any ⟨_, _, _, rfl, Pres3.ext (Pres3.ext h36 hg) (by assumption)⟩ (Ints.sub (Ints.ext hr (by assumption)) (fun _ _ _ => trivial)) HB.out.1 (by have := HB.out.2.2.2.2.1; have := HB.out.2.2.2.2.2; omega))) ?_; rintro eA wA ⟨vA, rfl, hgA, hsA, hOA⟩; have hOA2 := hOA.ints (by have := HB.out.2.2.1; omega))
       | (go_at_call 240; refine Calls.mono (Calls.rel (w0 := wr) (by assumption) (l08Mul_ok P hP _ _ _ _ Y _ Any Any Any ⟨_, _, _, rfl, Pres3.ext (Pres3.ext h36 hg) (by assumption)⟩ (Ints.sub (Ints.ext hYi (by assumption)) (fun _ _ _ => trivial)) hOA2 HB.out.2.2.2.1 HB.out.2.1)) ?_; rintro eB wB ⟨vB, rfl, hgB, hsB, hOB⟩))
     clear e1 e2 e3 e4 e5
     go_wp2
     go_roundw
     case rel => exact ⟨d + 1, _, by go_num, by omega, grown_trans hg hgB, hOB.weak (by have := hg.size; have := HS.out; omega), hR2⟩
     case measure => simp [intOf]; omega
  ·have hde : d = P.orders.length := by omega
   subst hde
   go_wp2
   go_ret
   exact ⟨_, rfl, grown_trans hg0 hg, Y, hO, hR.out⟩
end Go.Proofs.YtdcobapnlpeaaaaGreat
namespace Go.Proofs.YtdcobapnlpeaaaaGreat
open Go.RowKit
set_option maxRecDepth 100000 in
set_option maxHeartbeats 2000000 in
theorem l12Sift_ok (P : Pr) (G : Grp P) (w : World) (pv uv xv : Value) (H : List Int → Prop) (X : List Int) (Sp Su Sx : Nat → Prop) (S : Sub P H) (hpv : PresV Sp w pv P) (hu : Rows2 Su w uv (cseq P H)) (hx : Ints Sx w xv X) (hX : Vec P.orders X) :
  Calls Tryz.prog 120 #[pv, uv, xv] w (Ret w fun w' v => ∃ Y, Own w.heap.size w' v Y ∧ Rep P H (gt (tabTo (cseq P H) P.orders.length (cseq P H).length)) X Y) := by
 have hP := G.v
 have hn6 := hP.n6
 have hl := G.cseq_len S
 have hsq := (G.seq_facts S).1
 have hI := G.ind_tab S
 obtain ⟨vo, vp, vc, rfl, h3⟩ := hpv
 have hp0 := PresP.box h3 28
 have hg0 : Ext w (w.alloc (.cells #[vo, vp, vc] 28)) := World.grownBy_alloc _ _ _
 have hu0 := Rows2.ext hu hg0
 have hx0 := hx.ext hg0
 have hs0 : (w.alloc (.cells #[vo, vp, vc] 28)).heap.size = w.heap.size + 1 := by simp
 obtain ⟨au, capu, hvu, _, _⟩ := Sl.shape hu
 obtain ⟨ax, capx, hvx, _, _⟩ := hx.shape
 subst hvu hvx
 obtain ⟨vo6, vp6, vc6, _, _, hc0, hc1, hc2, h36⟩ := hp0.at
 simp only [Nat.zero_add] at hc1 hc2
 have HI := Lib.hid (And.intro hsq (And.intro hI (And.intro hX hl))); clear hsq hI hX hl hp0 hu hx
 go_enter Tryz.func120, Tryz.ntmps120
 go_wp2
 have HS := Lib.hid hs0; clear hs0
 generalize hw0 : w.alloc (.cells #[vo, vp, vc] 28) = w0 at *
 clear hw0
 have e1 : ∀ w', Ext w0 w' → w'.cell? ⟨w.heap.size, 0, none⟩ = some vo6 := fun w' h => h.cell hc0 (by simp)
 have e2 : ∀ w', Ext w0 w' → w'.cell? ⟨w.heap.size, 1, none⟩ = some vp6 := fun w' h => h.cell hc1 (by simp)
 have e3 : ∀ w', Ext w0 w' → w'.cell? ⟨w.heap.size, 2, none⟩ = some vc6 := fun w' h => h.cell hc2 (by simp)
 clear hc0 hc1 hc2
 go_region_held3 (fun w' => Ext w0 w') (first | exact grown_drew _ _ | assumption)
  (first
   | (go_at_call 226; refine Calls.mono (Calls.rel (w0 := w0) (by assumption) (l12Table_ok P hP _ _ _ (cseq P H) Any Any ⟨_, _, _, rfl, Pres3.ext h36 (by assumption)⟩ (Rows2.sub (Rows2.ext hu0 (by assumption)) (fun _ _ _ => trivial)) HI.out.1 (by have := HI.out.2.2.2; omega))) ?_; rintro eA wA ⟨tA, rfl, hgA, hsA, hTA⟩; obtain ⟨aA, capA, hvA, _, _⟩ := Sl.shape hTA; subst hvA)
   | (go_at_call 225; refine Calls.mono (Calls.rel (w0 := w0) (by assumption) (l12Reduce_ok P G _ _ _ _ _ X H Any Any Any ⟨_, _, _, rfl, Pres3.ext h36 (by assumption)⟩ hTA (Ints.sub (Ints.ext hx0 (by assumption)) (fun _ _ _ => trivial)) HI.out.2.2.1 (tabTo_len _ _ _) HI.out.2.1)) ?_; rintro eB wB ⟨vB, rfl, hgB, hsB, Y, hOB, hRB⟩))
 clear e1 e2 e3
 have HR := Lib.hid hRB; clear hRB
 go_wp2
 go_ret
 exact ⟨_, rfl, grown_trans hg0 hgB, Y, hOB.weak (by have := HS.out; omega), HR.out.rep⟩
set_option maxHeartbeats 1000000 in
theorem l12Has_ok (P : Pr) (G : Grp P) (w : World) (pv uv xv : Value) (H : List Int → Prop) (X : List Int) (Sp Su Sx : Nat → Prop) (S : Sub P H) (hpv : PresV Sp w pv P) (hu : Rows2 Su w uv (cseq P H)) (hx : Ints Sx w xv X) (hX : Vec P.orders X) :
  Calls Tryz.prog 278 #[pv, uv, xv] w (Ret w fun _ v => ∃ r : Bool, v = .bool r ∧ (r = true ↔ H X)) := by
 have hn6 := G.v.n6
 have hI := G.ind_tab S
 obtain ⟨vo, vp, vc, rfl, h3⟩ := hpv
 have hp0 := PresP.box h3 28
 have hg0 : Ext w (w.alloc (.cells #[vo, vp, vc] 28)) := World.grownBy_alloc _ _ _
 have hu0 := Rows2.ext hu hg0
 have hx0 := hx.ext hg0
 obtain ⟨au, capu, hvu, _, _⟩ := Sl.shape hu
 obtain ⟨ax, capx, hvx, _, _⟩ := hx.shape
 subst hvu hvx
 obtain ⟨vo6, vp6, vc6, _, _, hc0, hc1, hc2, h36⟩ := hp0.at
 simp only [Nat.zero_add] at hc1 hc2
 have hcon := l12Sift_ok P G (w.alloc (.cells #[vo, vp, vc] 28)) _ _ _ H X Any Su Sx S ⟨_, _, _, rfl, h36⟩ hu0 hx0 hX
 have HI := Lib.hid (And.intro hI hX); clear hI hX hp0 hu hx
 go_enter Tryz.func278, Tryz.ntmps278
 go_wp2_with fail
 clear hc0 hc1 hc2
 refine Calls.mono hcon ?_
 rintro e1 w1 ⟨v1, rfl, hg1, Y, hO, hR⟩
 clear hcon
 have hYi := hO.ints (by rw [hR.1.1]; omega)
 obtain ⟨ay, capy, rfl, _, _⟩ := hYi.shape
 have hiff := (isZeroB_zeros hR.1).trans (G.rep_mem HI.out.1 HI.out.2 hR)
 have hz := l01Zero_ok _ _ w1 Any hYi
 cases hb : isZeroB Y with
 | true =>
  rw [hb] at hiff hz
  have HF := Lib.hid hiff
  clear hiff hb hR
  go_wp2_with fail
  refine Calls.mono hz ?_
  rintro e2 w2 ⟨rfl, rfl⟩
  clear hz
  go_wp2
  go_ret
  exact ⟨_, rfl, grown_trans hg0 hg1, true, rfl, by simpa using HF.out⟩
 | false =>
  rw [hb] at hiff hz
  have HF := Lib.hid hiff
  clear hiff hb hR
  go_wp2_with fail
  refine Calls.mono hz ?_
  rintro e2 w2 ⟨rfl, rfl⟩
  clear hz
  go_wp2
  go_ret
  exact ⟨_, rfl, grown_trans hg0 hg1, false, rfl, by simpa using HF.out⟩
set_option maxRecDepth 100000 in
set_option maxHeartbeats 2000000 in
theorem l12Order_ok (P : Pr) (hP : Valid P) (w : World) (pv uv : Value) (U : List (List Int)) (Sp Su : Nat → Prop) (hpv : PresV Sp w pv P) (hu : Rows2 Su w uv U) (hU : SeqOk P U) (hl : U.length ≤ 100) :
  Calls Tryz.prog 232 #[pv, uv] w (Ret w fun _ v => v = .int .i64 (prodU P U U.length)) := by
 have hn6 := hP.n6
 obtain ⟨vo, vp, vc, rfl, h3⟩ := hpv
 have hp0 := PresP.box h3 28
 have hg0 : Ext w (w.alloc (.cells #[vo, vp, vc] 28)) := World.grownBy_alloc _ _ _
 have hu0 := Rows2.ext hu hg0
 obtain ⟨ao, capo, hco, hoi⟩ := hp0.ordAt
 obtain ⟨au, capu, rfl, _, _⟩ := Sl.shape hu
 have HU := Lib.hid hU; clear hU hp0 hu
 go_enter Tryz.func232, Tryz.ntmps232
 go_wp2
 generalize hw0 : w.alloc (.cells #[vo, vp, vc] 28) = w0 at *
 clear hw0
 go_loopw [5, 6] (fun mv iv wr => ∃ i : Nat, mv = .int .i64 (prodU P U i) ∧ iv = .int .i64 i ∧ i ≤ U.length ∧ Ext w0 wr) (fun _ iv _ => U.length - (intOf iv).toNat)
 case atStart => exact ⟨0, rfl, rfl, by omega, Ext.refl _⟩
 case round =>
  obtain ⟨i, rfl, rfl, hi, hg⟩ := hrel
  by_cases hlt : i < U.length
  ·have hlt' : (i : Int) < U.length := by omega
   obtain ⟨b, off, a2, cap2, rfl, _, _, hc, hr⟩ := Rows2.at (Rows2.ext hu0 hg) i hlt
   have hst : prodU P U (i + 1) = prodU P U i * gt P.orders (dep (gt U i)) := rfl
   have hb := prodU_729 hP HU.out (i + 1) hlt
   rw [hst] at hb
   obtain ⟨z, hz⟩ : ∃ z, z = gt U i := ⟨_, rfl⟩
   rw [← hz] at hc hr hst hb
   obtain ⟨d, hd⟩ : ∃ d, d = dep z := ⟨_, rfl⟩
   rw [← hd] at hst hb
   have hdn : d < P.orders.length := by rw [hd, hz]; exact (HU.out.1 _ (gtMem hlt)).2.1
   have HD := Lib.hid (And.intro hd hz); clear hd hz
   have hdn' : (d : Int) < P.orders.length := by omega
   obtain ⟨bo, oo, rfl, _, _, hcd⟩ := Ints.at (hoi.ext hg) d hdn
   have hw : IntKind.i64.wrap (prodU P U i * gt P.orders d) = prodU P U i * gt P.orders d := IntWalk.i64_in _ (by omega)
   have HS := Lib.hid hst; clear hst hb
   have e1 : ∀ w', Ext wr w' → w'.cell? ⟨w.heap.size, 0, none⟩ = some (.slice (some ⟨bo, oo, none⟩) P.orders.length capo) := fun w' h => (grown_trans hg h).cell hco (by simp)
   have e2 : ∀ w', Ext wr w' → w'.cell? ⟨b, off + i, none⟩ = some (.slice a2 z.length cap2) := fun w' h => h.cell hc (by simp)
   have e3 : ∀ w', Ext wr w' → w'.cell? ⟨bo, oo + d, none⟩ = some (.int .i64 (gt P.orders d)) := fun w' h => h.cell hcd (by simp)
   clear hc hcd
   go_wp2
   go_region_held3 (fun w' => Ext wr w') (first | exact grown_drew _ _ | assumption)
    (first
     | (go_at_call 289; refine Calls.mono (Calls.rel (w0 := wr) (by first | exact grown_drew _ _ | assumption) (l12Depth_ok _ z _ Any (Ints.sub (Ints.ext hr (by first | exact grown_drew _ _ | assumption)) (fun _ _ _ => trivial)))) ?_; rintro eE wE ⟨vE, rfl, hgE, hsE, hvE⟩; rw [← HD.out.1] at hvE; subst hvE))
   clear e1 e2 e3
   go_wp2
   go_roundw
   case rel => exact ⟨i + 1, by rw [HS.out], by go_num, by omega, grown_trans hg hgE⟩
   case measure => simp [intOf]; omega
  ·have hie : i = U.length := by omega
   subst hie
   go_wp2
   go_ret
   exact ⟨_, rfl, grown_trans hg0 hg, rfl⟩
end Go.Proofs.YtdcobapnlpeaaaaGreat
namespace Go.Proofs.YtdcobapnlpeaaaaGreat
theorem flatMap_len' {α β : Type} (l : List α) (f : α → List β) (n : Nat) (h : ∀ x ∈ l, (f x).length = n) : (l.flatMap f).length = l.length * n := by
 induction l with
 | nil => simp
 | cons a l ih =>
  rw [List.flatMap_cons, List.length_append, h a (List.mem_cons_self ..), ih (fun x hx => h x (List.mem_cons_of_mem _ hx)), List.length_cons, Nat.succ_mul]; omega
end Go.Proofs.YtdcobapnlpeaaaaGreat
namespace Go.Proofs.YtdcobapnlpeaaaaGreat
open Go.RowKit
theorem l10OneO_ok (o : List Int) (w : World) (vo vp vc : Value) (S : Nat → Prop) (ho : Ints S w vo o) (hn : o.length ≤ 6) :
  Calls Tryz.prog 212 #[.agg #[vo, vp, vc]] w (Ret w fun w' v => Own w.heap.size w' v (zeros o.length)) := by
 obtain ⟨ao, capo, rfl, _, _⟩ := ho.shape
 have hco : (w.alloc (.cells #[.slice ao o.length capo, vp, vc] 28)).cell? ⟨w.heap.size, 0, none⟩ = some (.slice ao o.length capo) := by rw [World.cell?_alloc_at _ _ _ _ rfl]; rfl
 go_enter Tryz.func212, Tryz.ntmps212
 go_wp2_with (at_make; refine wp_make_ints rfl _ _ rfl (w.heap.size + 1) o.length (w.heap.size + 1) (by simp) _ rfl rfl rfl (by omega) (by simp) ?_; intro w1 ho1 hg1 _)
 go_ret
 exact ⟨_, rfl, grown_trans (World.grownBy_alloc _ _ _) hg1, ho1.weak (by omega)⟩
set_option maxHeartbeats 1000000 in
theorem l10AtO_ok (o : List Int) (hP : Valid (shapeP o)) (w : World) (vo vp vc : Value) (m : Int) (S : Nat → Prop) (hov : Ints S w vo o) (hm : 0 ≤ m) (hm2 : m ≤ 1000000000) :
  Calls Tryz.prog 107 #[.agg #[vo, vp, vc], .int .i64 m] w (Ret w fun w' v => Own w.heap.size w' v (elAt (shapeP o) m)) := by
 have hn6 : o.length ≤ 6 := hP.n6
 have ho7 : ∀ i, i < o.length → 2 ≤ gt o i ∧ gt o i ≤ 7 := fun i hi => hP.ord7 i hi
 have hinv : ∀ k, k ≤ o.length → (elTo o o.length m k).1.length = o.length ∧ 0 ≤ (elTo o o.length m k).2 ∧ (elTo o o.length m k).2 ≤ m := fun k hk => ⟨elTo_len _ _ _ _, (elTo_inv hP m hm k hk).2⟩
 have HO := Lib.hid (And.intro ho7 hinv); clear ho7 hinv hP
 obtain ⟨ao, capo, rfl, _, _⟩ := hov.shape
 have hg0 : Ext w (w.alloc (.cells #[.slice ao o.length capo, vp, vc] 28)) := World.grownBy_alloc _ _ _
 have hco0 : (w.alloc (.cells #[.slice ao o.length capo, vp, vc] 28)).cell? ⟨w.heap.size, 0, none⟩ = some (.slice ao o.length capo) := by rw [World.cell?_alloc_at _ _ _ _ rfl]; rfl
 have hco1 : (w.alloc (.cells #[.slice ao o.length capo, vp, vc] 28)).cell? ⟨w.heap.size, 1, none⟩ = some vp := by rw [World.cell?_alloc_at _ _ _ _ rfl]; rfl
 have hco2 : (w.alloc (.cells #[.slice ao o.length capo, vp, vc] 28)).cell? ⟨w.heap.size, 2, none⟩ = some vc := by rw [World.cell?_alloc_at _ _ _ _ rfl]; rfl
 have hoi := hov.ext hg0
 have hs0 : (w.alloc (.cells #[.slice ao o.length capo, vp, vc] 28)).heap.size = w.heap.size + 1 := by simp
 go_enter Tryz.func107, Tryz.ntmps107
 go_wp2_with fail
 have HS := Lib.hid hs0; clear hs0
 clear hco1 hco2
 have HCO := Lib.hid hco0; clear hco0
 generalize hw0 : w.alloc (.cells #[.slice ao o.length capo, vp, vc] 28) = w0 at *
 clear hw0
 refine Calls.mono (l10OneO_ok o w0 _ _ _ S hoi hn6) ?_
 rintro e1 w1 ⟨r, rfl, hg1, ho1⟩
 have hri := ho1.ints (by simp [zeros]; omega)
 obtain ⟨ar, capr, rfl, _, _⟩ := hri.shape
 have hzl : (zeros o.length).length = o.length := by simp [zeros]
 rw [hzl] at hri
 have ho1 : Own w0.heap.size w1 (.slice ar o.length capr) (zeros o.length) := by rw [hzl] at ho1; exact ho1
 simp only [hzl]
 clear hzl hri
 go_wp2
 go_loopw [1, 6] (fun mv i wr => ∃ k : Nat, i = .int .i64 ((o.length : Int) - 1 - k) ∧ mv = .int .i64 (elTo o o.length m k).2 ∧ k ≤ o.length ∧ Ext w0 wr ∧
   Own w0.heap.size wr (.slice ar o.length capr) (elTo o o.length m k).1) (fun _ i _ => (intOf i + 1).toNat)
 case atStart => exact ⟨0, by simp, rfl, by omega, hg1, ho1⟩
 case round =>
  clear ho1
  obtain ⟨k, rfl, rfl, hk, hg, hO⟩ := hrel
  obtain ⟨hv, hm0, hm1⟩ := HO.out.2 k hk
  by_cases hlt : k < o.length
  ·obtain ⟨g, capg, hfm, hgb, hgs⟩ := hO.form (by omega)
   rw [hv] at hfm
   obtain ⟨rfl, _⟩ : ar = some ⟨g, 0, none⟩ ∧ capr = capg := by cases hfm; exact ⟨rfl, rfl⟩
   clear hfm
   obtain ⟨b2, off2, rfl, _, _, hc20⟩ := Ints.at hoi (o.length - 1 - k) (by omega)
   have hco := hg.cell HCO.out (by simp)
   have hc2 := hg.cell hc20 (by simp)
   have ho7 := HO.out.1 (o.length - 1 - k) (by omega)
   have hc := hO.cell (o.length - 1 - k) (by omega)
   have hf := hO.frozen (o.length - 1 - k)
   have hsucc : elTo o o.length m (k + 1) = ((elTo o o.length m k).1.set (o.length - 1 - k) ((elTo o o.length m k).2 % gt o (o.length - 1 - k)), (elTo o o.length m k).2 / gt o (o.length - 1 - k)) := rfl
   have HSC := Lib.hid hsucc; clear hsucc
   obtain ⟨hO2, hg2⟩ := hO.store (o.length - 1 - k) ((elTo o o.length m k).2 % gt o (o.length - 1 - k))
   have hgx : Ext w0 (wr.setCell ⟨g, o.length - 1 - k, none⟩ (.int .i64 ((elTo o o.length m k).2 % gt o (o.length - 1 - k)))) := grown_own hg hg2 (fun j hj hlt => by cases hj; omega)
   have hco3 := hgx.cell HCO.out (by simp)
   have hc23 := hgx.cell hc20 (by simp)
   clear hc20 hv
   have hidx : ((o.length : Int) - 1 - k).toNat = o.length - 1 - k := by omega
   generalize hi : o.length - 1 - k = i at *
   generalize (elTo o o.length m k).1 = L at *
   generalize (elTo o o.length m k).2 = M at *
   have ho70 : 2 ≤ gt o i := ho7.1
   have ho71 : gt o i ≤ 7 := ho7.2
   have HI := Lib.hid hi; clear hi ho7
   go_wp2
   go_roundw
   case rel => exact ⟨k + 1, by congr 1; omega, by rw [HSC.out], by omega, hgx, by rw [HSC.out]; exact hO2⟩
   case measure => simp [intOf]; omega
  ·have hke : k = o.length := by omega
   subst hke
   clear hv
   go_wp2
   go_ret
   exact ⟨_, rfl, grown_trans hg0 hg, hO.weak (by have := HS.out; omega)⟩
set_option maxRecDepth 100000 in
set_option maxHeartbeats 2000000 in
theorem l12Orders_ok (P : Pr) (hP : Valid P) (w : World) (pv uv : Value) (U : List (List Int)) (Sp Su : Nat → Prop) (hpv : PresV Sp w pv P) (hu : Rows2 Su w uv U) (hU : SeqOk P U) (hl : U.length ≤ 100) :
  Calls Tryz.prog 298 #[pv, uv] w (Ret w fun w' v => Own w.heap.size w' v (ordsU P U)) := by
 have hn6 := hP.n6
 obtain ⟨vo, vp, vc, rfl, h3⟩ := hpv
 have hp0 := PresP.box h3 28
 have hg0 : Ext w (w.alloc (.cells #[vo, vp, vc] 28)) := World.grownBy_alloc _ _ _
 have hu0 := Rows2.ext hu hg0
 obtain ⟨ao, capo, hco, hoi⟩ := hp0.ordAt
 obtain ⟨au, capu, rfl, _, _⟩ := Sl.shape hu
 have hs0 : (w.alloc (.cells #[vo, vp, vc] 28)).heap.size = w.heap.size + 1 := by simp
 have hol := ordsU_len P U
 have HU := Lib.hid (And.intro hU hol); clear hU hol hp0 hu
 go_enter Tryz.func298, Tryz.ntmps298
 go_wp2
 have HS := Lib.hid hs0; clear hs0
 generalize hw0 : w.alloc (.cells #[vo, vp, vc] 28) = w0 at *
 clear hw0
 go_loopw [5, 6] (fun ov iv wr => ∃ (i : Nat) (v4 : Value), v4 = ov ∧ iv = .int .i64 i ∧ i ≤ U.length ∧ Ext w0 wr ∧ Own w0.heap.size wr v4 ((ordsU P U).take i)) (fun _ iv _ => U.length - (intOf iv).toNat)
 case atStart => exact ⟨0, _, rfl, rfl, by omega, World.grownBy_alloc _ _ _, by rw [← HS.out]; exact World.ownsRow_lit w0 #[] 0 (Nat.le_refl _) (by decide) rfl⟩
 case round =>
  obtain ⟨i, v4, rfl, rfl, hi, hg, hO⟩ := hrel
  by_cases hlt : i < U.length
  ·have hlt' : (i : Int) < U.length := by omega
   obtain ⟨b, off, a2, cap2, rfl, _, _, hc, hr⟩ := Rows2.at hu0 i hlt
   have hst : (ordsU P U).take (i + 1) = (ordsU P U).take i ++ [gt P.orders (dep (gt U i))] := by rw [take_succ_gt _ i (by rw [HU.out.2]; exact hlt), ordsU_at P U i hlt]
   obtain ⟨z, hz⟩ : ∃ z, z = gt U i := ⟨_, rfl⟩
   rw [← hz] at hc hr hst
   obtain ⟨d, hd⟩ : ∃ d, d = dep z := ⟨_, rfl⟩
   rw [← hd] at hst
   have hdn : d < P.orders.length := by rw [hd, hz]; exact (HU.out.1.1 _ (gtMem hlt)).2.1
   have htl : ((ordsU P U).take i).length ≤ 1000000 := by rw [List.length_take]; omega
   have HD := Lib.hid (And.intro hd (And.intro hz htl)); clear hd hz htl
   have hdn' : (d : Int) < P.orders.length := by omega
   obtain ⟨bo, oo, rfl, _, _, hcd⟩ := Ints.at hoi d hdn
   have HST := Lib.hid hst; clear hst
   have e1 : ∀ w', Ext w0 w' → w'.cell? ⟨w.heap.size, 0, none⟩ = some (.slice (some ⟨bo, oo, none⟩) P.orders.length capo) := fun w' h => h.cell hco (by simp)
   have e2 : ∀ w', Ext w0 w' → w'.cell? ⟨b, off + i, none⟩ = some (.slice a2 z.length cap2) := fun w' h => h.cell hc (by simp)
   have e3 : ∀ w', Ext w0 w' → w'.cell? ⟨bo, oo + d, none⟩ = some (.int .i64 (gt P.orders d)) := fun w' h => h.cell hcd (by simp)
   clear hc hcd
   go_wp2
   go_region_held3 (fun w' => Ext w0 w') (first | exact grown_trans hg (grown_drew _ _) | assumption | exact grown_trans hgE (World.grownBy_alloc _ _ _))
    (first
     | (go_at_call 289; refine Calls.mono (Calls.rel2 (w0 := w0) (by assumption) (l12Depth_ok _ z _ Any (Ints.sub (Ints.ext hr (by assumption)) (fun _ _ _ => trivial)))) ?_; rintro eE wE ⟨vE, rfl, hgE, hgE2, hsE, hvE⟩; rw [← HD.out.1] at hvE; subst hvE)
     | (refine step_app_int rfl _ _ rfl w0.heap.size _ ((ordsU P U).take i) (gt P.orders d) rfl wE (hO.ext0 (grown_trans (grown_drew _ _) hgE2)) rfl rfl HD.out.2.2 hgE.size ?_; intro v5 w5 hO5 hg5; have hgw5 : Ext w0 w5 := grown_own hgE hg5 (fun j hj hlt => by have := (hO.lt j hj).1; omega)))
   clear e1 e2 e3
   rw [← HST.out] at hO5
   go_wp2
   go_roundw
   case rel => exact ⟨i + 1, v5, rfl, by go_num, by omega, hgw5, hO5⟩
   case measure => simp [intOf]; omega
  ·have hie : i = U.length := by omega
   subst hie
   rw [List.take_of_length_le (by rw [HU.out.2]; exact Nat.le_refl _)] at hO
   obtain ⟨az, capz, hvz, _, _⟩ := (hO.ints (by rw [HU.out.2]; omega)).shape
   subst hvz
   go_wp2
   go_ret
   exact ⟨_, rfl, grown_trans hg0 hg, hO.weak (by have := HS.out; omega)⟩
end Go.Proofs.YtdcobapnlpeaaaaGreat
namespace Go.Proofs.YtdcobapnlpeaaaaGreat
open Go.RowKit
set_option maxRecDepth 100000 in
set_option maxHeartbeats 2000000 in
theorem l12Product_ok (P : Pr) (G : Grp P) (w : World) (pv uv av : Value) (U : List (List Int)) (A : List Int) (Sp Su Sa : Nat → Prop) (hpv : PresV Sp w pv P) (hu : Rows2 Su w uv U) (ha : Ints Sa w av A) (hU : ∀ z ∈ U, Vec P.orders z) (hl : U.length ≤ A.length)
  (hA : ∀ i, i < U.length → 0 ≤ gt A i ∧ gt A i ≤ 1000) :
  Calls Tryz.prog 299 #[pv, uv, av] w (Ret w fun w' v => Own w.heap.size w' v (prodR P U A U.length)) := by
 have hP := G.v
 have hn6 := hP.n6
 obtain ⟨vo, vp, vc, rfl, h3⟩ := hpv
 have hp0 := PresP.box h3 28
 have hg0 : Ext w (w.alloc (.cells #[vo, vp, vc] 28)) := World.grownBy_alloc _ _ _
 have hu0 := Rows2.ext hu hg0
 have ha0 := ha.ext hg0
 obtain ⟨au, capu, rfl, _, _⟩ := Sl.shape hu
 obtain ⟨aa, capa, rfl, _, _⟩ := ha.shape
 have hs0 : (w.alloc (.cells #[vo, vp, vc] 28)).heap.size = w.heap.size + 1 := by simp
 obtain ⟨vo6, vp6, vc6, _, _, hc0, hc1, hc2, h36⟩ := hp0.at
 simp only [Nat.zero_add] at hc1 hc2
 have HU := Lib.hid (And.intro hU hA); clear hU hA hp0 hu ha
 go_enter Tryz.func299, Tryz.ntmps299
 go_wp2_with fail
 have HS := Lib.hid hs0; clear hs0
 generalize hw0 : w.alloc (.cells #[vo, vp, vc] 28) = w0 at *
 clear hw0
 refine Calls.mono (l10One_ok P hP w0 _ Any ⟨_, _, _, rfl, h36⟩) ?_
 rintro e1 w1 ⟨r, rfl, hg1, ho1⟩
 go_wp2
 go_loopw [7, 8] (fun ov iv wr => ∃ i : Nat, iv = .int .i64 i ∧ i ≤ U.length ∧ Ext w0 wr ∧ Own w.heap.size wr ov (prodR P U A i)) (fun _ iv _ => U.length - (intOf iv).toNat)
 case atStart => exact ⟨0, rfl, by omega, hg1, ho1.weak (by have := HS.out; omega)⟩
 case round =>
  clear ho1
  obtain ⟨i, rfl, hi, hg, hO⟩ := hrel
  have hYV := G.prodR_vec HU.out.1 A i hi
  have hYl : (prodR P U A i).length = P.orders.length := hYV.1
  have hYi := hO.ints (by omega)
  obtain ⟨ay, capy, hvy, _, _⟩ := hYi.shape
  subst hvy
  by_cases hlt : i < U.length
  ·have hlt' : (i : Int) < U.length := by omega
   have hla : (i : Int) < A.length := by omega
   obtain ⟨bb, off, a2, cap2, rfl, _, _, hc, hr⟩ := Rows2.at (Rows2.ext hu0 hg) i hlt
   obtain ⟨ba, oa, rfl, _, _, hca⟩ := Ints.at (ha0.ext hg) i (by omega)
   have hzV := HU.out.1 _ (gtMem hlt)
   have hab := HU.out.2 i hlt
   have hst : prodR P U A (i + 1) = rMul P (prodR P U A i) (pwZ P (gt U i) (gt A i)) := rfl
   have hpV := G.pwZ_vec hzV (gt A i)
   have hpl : (pwZ P (gt U i) (gt A i)).length ≤ 6 := by rw [hpV.1]; omega
   have HB := Lib.hid (And.intro hzV (And.intro hpV (And.intro hpl (And.intro hYV (And.intro hab hst))))); clear hzV hpV hpl hYV hab hst hYl
   have e1 : ∀ w', Ext wr w' → w'.cell? ⟨w.heap.size, 0, none⟩ = some vo6 := fun w' h => (grown_trans hg h).cell hc0 (by simp)
   have e2 : ∀ w', Ext wr w' → w'.cell? ⟨w.heap.size, 1, none⟩ = some vp6 := fun w' h => (grown_trans hg h).cell hc1 (by simp)
   have e3 : ∀ w', Ext wr w' → w'.cell? ⟨w.heap.size, 2, none⟩ = some vc6 := fun w' h => (grown_trans hg h).cell hc2 (by simp)
   have e4 : ∀ w', Ext wr w' → w'.cell? ⟨bb, off + i, none⟩ = some (.slice a2 (gt U i).length cap2) := fun w' h => h.cell hc (by simp)
   have e5 : ∀ w', Ext wr w' → w'.cell? ⟨ba, oa + i, none⟩ = some (.int .i64 (gt A i)) := fun w' h => h.cell hca (by simp)
   clear hc hca
   go_wp2
   go_region_held3 (fun w' => Ext wr w') (first | exact grown_drew _ _ | assumption)
    (first
     | (go_at_call 106; refine Calls.mono (Calls.rel (w0 := wr) (by assumption) (l10Pow_ok P G _ _ _ (gt U i) _ Any Any ⟨_, _, _, rfl, Pres3.ext (Pres3.ext h36 hg) (by assumption)⟩ (Ints.sub (Ints.ext hr (by assumption)) (fun _ _ _ => trivial)) HB.out.1 (by have := HB.out.2.2.2.2.1; omega))) ?_; rintro eA wA ⟨vA, rfl, hgA, hsA, hOA⟩; have hOA2 := hOA.ints (by have := HB.out.2.2.1; omega))
     | (go_at_call 240; refine Calls.mono (Calls.rel (w0 := wr) (by assumption) (l08Mul_ok P hP _ _ _ _ (prodR P U A i) _ Any Any Any ⟨_, _, _, rfl, Pres3.ext (Pres3.ext h36 hg) (by assumption)⟩ (Ints.sub (Ints.ext hYi (by assumption)) (fun _ _ _ => trivial)) hOA2 HB.out.2.2.2.1 HB.out.2.1)) ?_; rintro eB wB ⟨vB, rfl, hgB, hsB, hOB⟩))
   clear e1 e2 e3 e4 e5
   rw [← HB.out.2.2.2.2.2] at hOB
   go_wp2
   go_roundw
   case rel => exact ⟨i + 1, by go_num, by omega, grown_trans hg hgB, hOB.weak (by have := hg.size; have := HS.out; omega)⟩
   case measure => simp [intOf]; omega
  ·have hie : i = U.length := by omega
   subst hie
   clear hYl
   go_wp2
   go_ret
   exact ⟨_, rfl, grown_trans hg0 hg, hO⟩
def markAt (N : Nat) (f : Nat → Nat) : Nat → List Bool
 | 0 => List.replicate N false
 | k + 1 => (markAt N f k).set (f k) true
theorem markAt_len (N : Nat) (f : Nat → Nat) (k : Nat) : (markAt N f k).length = N := by
 induction k with
 | zero => simp [markAt]
 | succ k ih => simp only [markAt, List.length_set]; exact ih
theorem markAt_true (N : Nat) (f : Nat → Nat) (k t : Nat) (ht : t < N) : gt (markAt N f k) t = true ↔ ∃ j, j < k ∧ f j = t := by
 induction k with
 | zero => simp [markAt, gt, ht]
 | succ k ih =>
  simp only [markAt]
  by_cases e : f k = t
  ·rw [e, gt_set_eq _ _ _ (by rw [markAt_len]; exact ht)]
   exact ⟨fun _ => ⟨k, by omega, e⟩, fun _ => rfl⟩
  ·rw [gt_set_ne _ _ _ _ e, ih]
   exact ⟨fun ⟨j, h1, h2⟩ => ⟨j, by omega, h2⟩, fun ⟨j, h1, h2⟩ => by
    rcases Nat.lt_succ_iff_lt_or_eq.1 h1 with h | h
    ·exact ⟨j, h, h2⟩
    ·subst h; exact absurd h2 e⟩
def prodN (P : Pr) (U : List (List Int)) (k : Nat) : List Int := prodR P U (elAt (shapeP (ordsU P U)) (k : Int)) U.length
theorem Grp.marks_elems {P : Pr} (G : Grp P) {H : List Int → Prop} (S : Sub P H) (t : Nat) (ht : t < (ordP P).toNat) :
  gt (markAt (ordP P).toNat (fun k => (num P (prodN P (cseq P H) k)).toNat) (prodU P (cseq P H) (cseq P H).length).toNat) t = true ↔ H (elAt P (t : Int)) := by
 have hV := fun z hz => S.vec z ((G.seq_facts S).2.1 z hz)
 have hpv : ∀ k, Vec P.orders (prodN P (cseq P H) k) := fun k => G.prodR_vec hV _ _ (Nat.le_refl _)
 rw [markAt_true _ _ _ _ ht, G.mem_prods S]
 constructor
 ·rintro ⟨j, hj, h⟩
  have hb := num_bd G.v (hpv j)
  refine ⟨(j : Int), by omega, by omega, ?_⟩
  have h2 : num P (prodN P (cseq P H) j) = (t : Int) := by omega
  rw [← h2, elAt_num G.v (hpv j)]; rfl
 ·rintro ⟨m, h1, h2, h3⟩
  refine ⟨m.toNat, by omega, ?_⟩
  have h4 : prodN P (cseq P H) m.toNat = elAt P (t : Int) := by
   unfold prodN
   rw [show ((m.toNat : Nat) : Int) = m by omega]
   exact h3.symm
  rw [h4, num_elAt G.v _ (by omega) (by omega)]; omega
noncomputable def elemsTo (P : Pr) (H : List Int → Prop) (k : Nat) : List (List Int) := by
 classical exact (List.range k).filterMap (fun t : Nat => if H (elAt P (t : Int)) then some (elAt P (t : Int)) else none)
theorem elemsTo_succ (P : Pr) (H : List Int → Prop) (k : Nat) : elemsTo P H (k + 1) = elemsTo P H k ++ (by classical exact if H (elAt P (k : Int)) then [elAt P (k : Int)] else []) := by
 unfold elemsTo
 rw [List.range_succ, List.filterMap_append]
 congr 1
 by_cases h : H (elAt P (k : Int)) <;> simp [h]
theorem elemsTo_all (P : Pr) (H : List Int → Prop) : elemsTo P H (ordP P).toNat = elemsIn P H := by
 unfold elemsTo elemsIn
 rfl
theorem elemsTo_len (P : Pr) (H : List Int → Prop) (k : Nat) : (elemsTo P H k).length ≤ k := by
 unfold elemsTo
 have := List.length_filterMap_le (fun t : Nat => by classical exact (if H (elAt P (t : Int)) then some (elAt P (t : Int)) else none)) (List.range k)
 rw [List.length_range] at this
 exact this
end Go.Proofs.YtdcobapnlpeaaaaGreat
namespace Go.Proofs.YtdcobapnlpeaaaaGreat
open Go.RowKit
set_option maxRecDepth 100000 in
set_option maxHeartbeats 8000000 in
theorem l12Elements_ok (P : Pr) (G : Grp P) (w : World) (pv uv : Value) (H : List Int → Prop) (Sp Su : Nat → Prop) (S : Sub P H) (hpv : PresV Sp w pv P) (hu : Rows2 Su w uv (cseq P H)) :
  Calls Tryz.prog 254 #[pv, uv] w (Ret w fun w' v => RowsO w.heap.size w' v (elemsIn P H)) := by
 have hP := G.v
 have hn6 := hP.n6
 have h729 : ordP P ≤ 729 := hP.le729
 have hpos := hP.ordP_pos
 have hl := G.cseq_len S
 have hsq := (G.seq_facts S).1
 have hUV : ∀ z ∈ cseq P H, Vec P.orders z := fun z hz => S.vec z ((G.seq_facts S).2.1 z hz)
 have hmk := G.marks_elems S
 obtain ⟨U, hU⟩ : ∃ U, U = cseq P H := ⟨_, rfl⟩
 rw [← hU] at hl hsq hUV hmk hu
 have hpr := prodU_729 hP hsq U.length (Nat.le_refl _)
 have hol := ordsU_len P U
 have hshape : Valid (shapeP (ordsU P U)) := by
  refine shapeP_valid (by omega) (fun i hi => ?_) ?_
  ·rw [ordsU_at P U i (by omega)]
   exact hP.ord _ (hsq.1 _ (gtMem (by omega))).2.1
  ·rw [hol, prodTo_ordsU P U U.length (Nat.le_refl _)]; exact hpr.2
 obtain ⟨vo, vp, vc, rfl, h3⟩ := hpv
 have hp0 := PresP.box h3 28
 have hg0 : Ext w (w.alloc (.cells #[vo, vp, vc] 28)) := World.grownBy_alloc _ _ _
 have hu0 := Rows2.ext hu hg0
 have hs0 : (w.alloc (.cells #[vo, vp, vc] 28)).heap.size = w.heap.size + 1 := by simp
 obtain ⟨au, capu, rfl, _, _⟩ := Sl.shape hu
 obtain ⟨vo6, vp6, vc6, _, _, hc0, hc1, hc2, h36⟩ := hp0.at
 simp only [Nat.zero_add] at hc1 hc2
 have hbx : ∀ w', Ext (w.alloc (.cells #[vo, vp, vc] 28)) w' → w'.cell? ⟨w.heap.size, 0, none⟩ = some vo6 ∧ w'.cell? ⟨w.heap.size, 1, none⟩ = some vp6 ∧ w'.cell? ⟨w.heap.size, 2, none⟩ = some vc6 := fun w' h => ⟨h.cell hc0 (by simp), h.cell hc1 (by simp), h.cell hc2 (by simp)⟩
 have HB := Lib.hid hbx; clear hbx
 have hE := l12Order_ok P hP (w.alloc (.cells #[vo, vp, vc] 28)) _ _ U Any Su ⟨_, _, _, rfl, h36⟩ hu0 hsq (by omega)
 have HU := Lib.hid (And.intro hsq (And.intro hUV (And.intro hshape (And.intro hU hol)))); clear hsq hUV hshape hU hol hp0 hu
 go_enter Tryz.func254, Tryz.ntmps254
 go_wp2_with fail
 have HS := Lib.hid hs0; clear hs0 hc0 hc1 hc2
 generalize hw0 : w.alloc (.cells #[vo, vp, vc] 28) = w0 at *
 clear hw0
 refine Calls.mono hE ?_
 rintro e1 w1 ⟨v1, rfl, hg1, rfl⟩
 clear hE
 obtain ⟨hb0, hb1, hb2⟩ := HB.out w1 hg1
 go_wp2_with fail
 clear hb0 hb1 hb2
 refine Calls.mono (l10Order_ok w1 _ P Any hP ⟨_, _, _, rfl, Pres3.ext h36 hg1⟩) ?_
 rintro e2 w2 ⟨v2, rfl, hg2, rfl⟩
 have hg02 := grown_trans hg1 hg2
 obtain ⟨hb0, hb1, hb2⟩ := HB.out w2 hg02
 have hle1 := hg1.size
 have hle2 := hg2.size
 go_wp2_with (first | (at_make; refine wp_make_bools rfl _ _ rfl w2.heap.size (ordP P).toNat w2.heap.size rfl (ordP P) rfl rfl (by omega) (by omega) (Nat.le_refl _) ?_; intro w3 hM3 hg3 hlt3; have hb03 := HB.out w3 (grown_trans hg02 hg3); obtain ⟨hc0, hc1, hc2⟩ := hb03) | fail)
 clear hb0 hb1 hb2 hc0 hc1 hc2
 have hg03 := grown_trans hg02 hg3
 refine Calls.mono (l12Orders_ok P hP w3 _ _ U Any Su ⟨_, _, _, rfl, Pres3.ext h36 hg03⟩ (Rows2.ext hu0 hg03) HU.out.1 (by omega)) ?_
 rintro e4 w4 ⟨ov, rfl, hg4, hO4⟩
 have hOi := hO4.ints (by rw [HU.out.2.2.2.2]; omega)
 obtain ⟨aor, capor, hvo, _, _⟩ := hOi.shape
 subst hvo
 have hg04 := grown_trans hg03 hg4
 have hs2 : w.heap.size < w2.heap.size := by have := HS.out; omega
 have hs4 : w3.heap.size ≤ w4.heap.size := hg4.size
 have hgm : w2.heap.size ≠ w4.heap.size := by omega
 have hE5 : Ext w4 (w4.alloc (.cells #[.slice aor (ordsU P U).length capor, .slice none 0 0, .slice none 0 0] 28)) := World.grownBy_alloc _ _ _
 have hS5 : ∀ k, k < 3 → (w4.alloc (.cells #[.slice aor (ordsU P U).length capor, .slice none 0 0, .slice none 0 0] 28)).cell? ⟨w4.heap.size, k, none⟩ = some (gt [Value.slice aor (ordsU P U).length capor, .slice none 0 0, .slice none 0 0] k) := fun k hk => by
  rw [World.cell?_alloc_at _ _ _ _ rfl]
  rcases (show k = 0 ∨ k = 1 ∨ k = 2 by omega) with rfl | rfl | rfl <;> rfl
 have hO5 : Ints (fun k => w3.heap.size ≤ k) (w4.alloc (.cells #[.slice aor (ordsU P U).length capor, .slice none 0 0, .slice none 0 0] 28)) (.slice aor (ordsU P U).length capor) (ordsU P U) := (ints_of_own hO4 (by rw [HU.out.2.2.2.2]; omega) (fun k hk => (hO4.lt k hk).1)).ext hE5
 have hM5 := (hM3.ext0 hg4).ext0 hE5
 have hE25 := grown_trans hg3 (grown_trans hg4 hE5)
 have hsz5 : (w4.alloc (.cells #[.slice aor (ordsU P U).length capor, .slice none 0 0, .slice none 0 0] 28)).heap.size = w4.heap.size + 1 := by simp
 have HSZ := Lib.hid hsz5; clear hsz5
 go_wp2_with fail
 generalize hw5 : w4.alloc (.cells #[.slice aor (ordsU P U).length capor, .slice none 0 0, .slice none 0 0] 28) = w5 at *
 clear hw5 hO4 hOi hM3
 obtain ⟨N, hN⟩ : ∃ N, N = (ordP P).toNat := ⟨_, rfl⟩
 obtain ⟨f, hf⟩ : ∃ f : Nat → Nat, f = fun k => (num P (prodN P U k)).toNat := ⟨_, rfl⟩
 rw [← hf, ← hN] at hmk
 have HN := Lib.hid (And.intro hf (And.intro hmk hN)); clear hf hmk
 rw [← hN] at hM5 ⊢
 have hNo : (N : Int) = ordP P := by omega
 clear hN
 have HNo := Lib.hid hNo; clear hNo
 have hM0 : BOwn w2.heap.size w5 (.slice (some ⟨w2.heap.size, 0, none⟩) N N) (markAt N f 0) := hM5
 clear hM5
 go_loopw [8] (fun kv wr => ∃ k : Nat, kv = .int .i64 k ∧ (k : Int) ≤ prodU P U U.length ∧ w5.grownBy wr (some w2.heap.size) ∧ BOwn w2.heap.size wr (.slice (some ⟨w2.heap.size, 0, none⟩) N N) (markAt N f k)) (fun kv _ => (prodU P U U.length).toNat - (intOf kv).toNat)
 case atStart => exact ⟨0, rfl, by omega, grown_refl _ _, hM0⟩
 case round =>
  clear hM0
  obtain ⟨k, rfl, hk, hgk, hM⟩ := hrel
  have hE2r : Ext w2 wr := grown_own hE25 hgk (fun j hj hlt => by cases hj; omega)
  have hE0r := grown_trans hg02 hE2r
  by_cases hlt : (k : Int) < prodU P U U.length
  ·have hkx : (k : Int) ≤ 729 := by omega
   have hgr : w5.heap.size ≤ wr.heap.size := hgk.size
   have hbr := HB.out wr hE0r
   obtain ⟨hb0, hb1, hb2⟩ := hbr
   have hs0 : wr.cell? ⟨w4.heap.size, 0, none⟩ = some (.slice aor (ordsU P U).length capor) := hgk.cell (hS5 0 (by omega)) (by simp; omega)
   have hs1 : wr.cell? ⟨w4.heap.size, 1, none⟩ = some (.slice none 0 0) := hgk.cell (hS5 1 (by omega)) (by simp; omega)
   have hs2' : wr.cell? ⟨w4.heap.size, 2, none⟩ = some (.slice none 0 0) := hgk.cell (hS5 2 (by omega)) (by simp; omega)
   have hOr : Ints Any wr (.slice aor (ordsU P U).length capor) (ordsU P U) := Ints.mono hO5 (frame_of hgk (fun j hj _ => ⟨trivial, fun e => by cases e; omega⟩))
   have hvA := elAt_vec HU.out.2.2.1 (k : Int) (by omega)
   have hvl : (elAt (shapeP (ordsU P U)) (k : Int)).length = U.length := hvA.1.trans HU.out.2.2.2.2
   have hvb : ∀ i, i < U.length → 0 ≤ gt (elAt (shapeP (ordsU P U)) (k : Int)) i ∧ gt (elAt (shapeP (ordsU P U)) (k : Int)) i ≤ 1000 := fun i hi => by
    have h1 : 0 ≤ gt (elAt (shapeP (ordsU P U)) (k : Int)) i ∧ gt (elAt (shapeP (ordsU P U)) (k : Int)) i < gt (ordsU P U) i := hvA.2 i (by show i < (ordsU P U).length; rw [HU.out.2.2.2.2]; exact hi)
    have h2 : 2 ≤ gt (ordsU P U) i ∧ gt (ordsU P U) i ≤ 7 := HU.out.2.2.1.ord7 i (by show i < (ordsU P U).length; rw [HU.out.2.2.2.2]; exact hi)
    omega
   have hpV : Vec P.orders (prodN P U k) := G.prodR_vec HU.out.2.1 _ _ (Nat.le_refl _)
   have hpl : (prodN P U k).length ≤ 6 := by rw [hpV.1]; omega
   have hnb := num_bd hP hpV
   have hpe : prodR P U (elAt (shapeP (ordsU P U)) (k : Int)) U.length = prodN P U k := rfl
   have hfk : f k = (num P (prodN P U k)).toNat := by rw [HN.out.1]
   have hNo2 := HNo.out
   obtain ⟨n0, n1⟩ := hnb
   obtain ⟨m, hm⟩ : ∃ m, m = num P (prodN P U k) := ⟨_, rfl⟩
   rw [← hm] at n0 n1 hfk
   have hmN : m < N := by omega
   have hmk2 : markAt N f (k + 1) = (markAt N f k).set m.toNat true := by rw [← hfk]; rfl
   have HV := Lib.hid (And.intro hvl (And.intro hvb (And.intro hpV (And.intro hpl (And.intro hpe (And.intro hm hmk2)))))); clear hvl hvb hpV hpl hpe hm hmk2 hvA hfk hNo2
   have hcel := hM.cell m.toNat (by rw [markAt_len]; omega)
   have hfr := hM.frozen m.toNat
   have e1 : ∀ w', Near wr w2.heap.size w' → w'.cell? ⟨w.heap.size, 0, none⟩ = some vo6 := fun w' h => h.cell hb0 (by simp; omega)
   have e2 : ∀ w', Near wr w2.heap.size w' → w'.cell? ⟨w.heap.size, 1, none⟩ = some vp6 := fun w' h => h.cell hb1 (by simp; omega)
   have e3 : ∀ w', Near wr w2.heap.size w' → w'.cell? ⟨w.heap.size, 2, none⟩ = some vc6 := fun w' h => h.cell hb2 (by simp; omega)
   have e4 : ∀ w', Near wr w2.heap.size w' → w'.cell? ⟨w4.heap.size, 0, none⟩ = some (.slice aor (ordsU P U).length capor) := fun w' h => h.cell hs0 (by simp; omega)
   have e5 : ∀ w', Near wr w2.heap.size w' → w'.cell? ⟨w4.heap.size, 1, none⟩ = some (.slice none 0 0) := fun w' h => h.cell hs1 (by simp; omega)
   have e6 : ∀ w', Near wr w2.heap.size w' → w'.cell? ⟨w4.heap.size, 2, none⟩ = some (.slice none 0 0) := fun w' h => h.cell hs2' (by simp; omega)
   clear hb0 hb1 hb2 hs0 hs1 hs2'
   have h3r := Pres3.ext h36 hE0r
   have hur := Rows2.ext hu0 hE0r
   go_wp2
   go_region_held3 (fun w' => Near wr w2.heap.size w') (first | exact Near.of (grown_drew _ _) | exact Near.of (by assumption) | exact Near.store (by assumption) | assumption)
    (first
     | (go_at_call 107; refine Calls.mono (Calls.rel (w0 := wr) (by first | exact grown_drew _ _ | assumption) (l10AtO_ok (ordsU P U) HU.out.2.2.1 _ _ _ _ (k : Int) Any (Ints.ext hOr (by first | exact grown_drew _ _ | assumption)) (by omega) (by omega))) ?_; rintro eE wE ⟨vE, rfl, hgE, hsE, hOE⟩; have hEi := hOE.ints (by rw [HV.out.1]; omega))
     | (go_at_call 299; refine Calls.mono (Calls.rel (w0 := wr) (by assumption) (l12Product_ok P G _ _ _ _ U _ Any Any Any ⟨_, _, _, rfl, Pres3.ext h3r (by assumption)⟩ (Rows2.sub (Rows2.ext hur (by assumption)) (fun _ _ _ => trivial)) hEi HU.out.2.1 (by rw [HV.out.1]; exact Nat.le_refl _) HV.out.2.1)) ?_; rintro eF wF ⟨vF, rfl, hgF, hsF, hOF⟩; rw [HV.out.2.2.2.2.1] at hOF; have hFi := hOF.ints (by have := HV.out.2.2.2.1; omega))
     | (go_at_call 255; refine Calls.mono (Calls.rel (w0 := wr) (by assumption) (l10Number_ok P hP _ _ _ _ Any Any ⟨_, _, _, rfl, Pres3.ext h3r (by assumption)⟩ hFi HV.out.2.2.1)) ?_; rintro eG wG ⟨vG, rfl, hgG, hsG, hvG⟩; rw [← HV.out.2.2.2.2.2.1] at hvG; subst hvG; have hcel2 := hgG.cell hcel (by simp); have hfr2 := (hM.ext0 hgG).frozen m.toNat))
   clear e1 e2 e3 e4 e5 e6
   obtain ⟨hO3, hgs⟩ := (hM.ext0 hgG).store m.toNat true
   have hgn : w5.grownBy (wG.setCell ⟨w2.heap.size, m.toNat, none⟩ (.bool true)) (some w2.heap.size) := grown_trans (grown_trans hgk (grown_of_ext _ hgG)) hgs
   rw [← HV.out.2.2.2.2.2.2] at hO3
   clear hcel hcel2 hfr hfr2 hgs
   go_wp2
   go_roundw
   case rel => exact ⟨k + 1, by go_num, by omega, hgn, hO3⟩
   case measure => simp [intOf]; omega
  ·have hke : k = (prodU P U U.length).toNat := by omega
   obtain ⟨wo, rfl⟩ : ∃ wo : World, wo = wr := ⟨_, rfl⟩
   rw [hke] at hM
   have HK := Lib.hid hke; clear hke
   go_wp2
   go_loopw [9, 10] (fun ov tv wr => ∃ (t : Nat) (v4 : Value), v4 = ov ∧ tv = .int .i64 t ∧ t ≤ N ∧ Ext wo wr ∧ RowsO wo.heap.size wr v4 (elemsTo P H t)) (fun _ tv _ => N - (intOf tv).toNat)
   case atStart => exact ⟨0, _, rfl, rfl, by omega, World.grownBy_alloc _ _ _, [], fun _ _ => False, by simp [elemsTo], World.ownsRow_lit wo #[] 0 (Nat.le_refl _) (by decide) rfl, by simp, by simp, by simp [elemsTo]⟩
   case round =>
    obtain ⟨t, v4, rfl, rfl, ht, hgt, hO⟩ := hrel
    by_cases htl : t < N
    ·have htl' : (t : Int) < N := by omega
     have hcm := hgt.cell (hM.cell t (by rw [markAt_len]; exact htl)) (by simp)
     have hiff := HN.out.2.1 t htl
     have hst := elemsTo_succ P H t
     have htlen := elemsTo_len P H t
     have hbx := HB.out wr (grown_trans hE0r hgt)
     obtain ⟨hb0, hb1, hb2⟩ := hbx
     cases hq : gt (markAt N f (prodU P U U.length).toNat) t with
     | true =>
      rw [hq] at hcm
      rw [if_pos (hiff.1 hq)] at hst
      have htN := HNo.out
      have hvE := elAt_vec hP (t : Int) (by omega)
      have hvl : (elAt P (t : Int)).length = P.orders.length := hvE.1
      have HST := Lib.hid (And.intro hst (And.intro hvl htN)); clear hst hvl hiff hq hvE htN
      have hN729 : N ≤ 729 := by have := HST.out.2.2; omega
      go_wp2_with fail
      clear hb0 hb1 hb2 hcm
      refine Calls.mono (l10At_ok P hP wr _ (t : Int) Any ⟨_, _, _, rfl, Pres3.ext h36 (grown_trans hE0r hgt)⟩ (by omega) (by omega)) ?_
      rintro eA wA ⟨vA, rfl, hgA, hOA⟩
      have hYO : OwnIn (From wr.heap.size) wA vA (elAt P (t : Int)) := OwnIn.of hOA (by rw [HST.out.2.1]; omega) (fun j h1 _ => h1)
      obtain ⟨ay, capy, hvy, _, _⟩ := hYO.ints.shape
      subst hvy
      go_wp2_with (first | (at_builtin; refine wp_app_row rfl _ _ rfl wo.heap.size wr wA v4 _ (elemsTo P H t) (elAt P (t : Int)) rfl hO hgA hYO rfl rfl (by omega) hgt.size ?_; intro v5 w6 hO6 hg6 hg7; have hgw6 := hO.extw hgt (Nat.le_refl _) hg6) | fail)
      go_roundw
      case rel => exact ⟨t + 1, v5, rfl, by go_num, by omega, hgw6, by rw [HST.out.1]; exact hO6⟩
      case measure => simp [intOf]; omega
     | false =>
      rw [hq] at hcm
      rw [if_neg (fun h => by have := hiff.2 h; rw [hq] at this; cases this), List.append_nil] at hst
      have HST := Lib.hid hst; clear hst hiff hq
      have hN729 : N ≤ 729 := by have := HNo.out; omega
      go_wp2
      go_roundw
      case rel => exact ⟨t + 1, v4, rfl, by go_num, by omega, hgt, by rw [HST.out]; exact hO⟩
      case measure => simp [intOf]; omega
    ·have hte : t = N := by omega
     have hel : elemsTo P H t = elemsIn P H := by rw [hte, HN.out.2.2]; exact elemsTo_all P H
     have htlen := elemsTo_len P H t
     rw [hel] at hO htlen
     have hN729 : N ≤ 729 := by have := HNo.out; omega
     obtain ⟨az, capz, hvz, _, _⟩ := SlD.shape (hO.toD (by omega))
     subst hvz
     have HX := Lib.hid (And.intro hte hel); clear hte hel
     go_wp2
     go_ret
     exact ⟨_, rfl, grown_trans hg0 (grown_trans hE0r hgt), hO.weak (by have := hE0r.size; have := HS.out; omega)⟩
end Go.Proofs.YtdcobapnlpeaaaaGreat
namespace Go.Proofs.YtdcobapnlpeaaaaGreat
open Go.RowKit
attribute [local go_sem ↓] Go.wp_at_zero Go.wp_at_succ
def TripA (M B : Nat) (w' : World) (v : Value) : Prop := ∃ vo vp vc rv sv P, v = .tuple #[.agg #[vo, vp, vc], rv, sv] ∧ P.orders.length ≤ M ∧ Pres3 (From B) w' vo vp vc P ∧ RowsDr B w' rv ∧ RowsDr B w' sv
theorem trip_ret {w wX : World} {sb B0 M B : Nat} {x y z rv sv : Value} {Q : Pr} (hgw : w.grownBy wX (some sb)) (hB : w.heap.size < B) (hsrc : Src B0 wX sb) (hB0 : B0 ≤ w.heap.size) (hM : Q.orders.length ≤ M) (hP : Pres3 (From B) wX x y z Q) (hr : RowsDr B wX rv) (hr2 : RowsDr B wX sv) :
  Mut w (some sb) (DrawR B0 sb (TripA M w.heap.size)) (.returned (.tuple #[.agg #[x, y, z], rv, sv])) (((wX.setCell ⟨w.heap.size, 0, none⟩ x).setCell ⟨w.heap.size, 1, none⟩ y).setCell ⟨w.heap.size, 2, none⟩ z) := by
 have hT := grown_set3 wX w.heap.size x y z
 exact ⟨_, rfl, grown_own hgw hT (fun j hj hlt => by cases hj; omega), ⟨x, y, z, rv, sv, Q, rfl, hM, (hP.keptB hT (fun k hk => by cases hk; omega)).low (by omega), (hr.kept hT (fun k hk => by cases hk; omega)).low (by omega), (hr2.kept hT (fun k hk => by cases hk; omega)).low (by omega)⟩, hsrc.own hT (fun k hk => by cases hk; exact hB0)⟩
set_option maxRecDepth 100000 in
set_option maxHeartbeats 8000000 in
theorem l13Draw_ok (B0 : Nat) (w : World) (sb : Nat) (hB0 : B0 ≤ w.heap.size) (hs : Src B0 w sb) :
  Calls Tryz.prog 128 #[.pointer (some ⟨sb, 0, none⟩)] w (Mut w (some sb) (DrawR B0 sb (TripA 7 w.heap.size))) := by
 have hsb := hs.lt
 have hbB := Box3.made w 28 (.slice none 0 0) (.slice none 0 0) (.slice none 0 0)
 have hg0 : Ext w (w.alloc (.cells #[.slice none 0 0, .slice none 0 0, .slice none 0 0] 28)) := World.grownBy_alloc _ _ _
 have hs0 : (w.alloc (.cells #[.slice none 0 0, .slice none 0 0, .slice none 0 0] 28)).heap.size = w.heap.size + 1 := by simp
 have hsW := Lib.hid (hs.ext hg0); clear hs
 go_enter Tryz.func128, Tryz.ntmps128
 go_wp2_with fail
 generalize w.alloc (.cells #[.slice none 0 0, .slice none 0 0, .slice none 0 0] 28) = w0 at *
 have hs00 : w.heap.size + 1 ≤ w0.heap.size := by omega
 clear hs0
 refine Calls.mono (l12Pair_ok B0 w0 sb 108 (by omega) hsW.out) ?_
 rintro e1 w1 ⟨v1, rfl, hg1, ⟨vo, vp, vc, rv, Q, rfl, hQl, hQ, hR1⟩, hs1⟩
 obtain ⟨a1, n1, c1, hy1⟩ : ∃ a n c, vo = .slice a n c := by obtain ⟨a, c, e, _⟩ := hQ.o.shape; exact ⟨_, _, _, e⟩
 obtain ⟨a2, n2, c2, hy2⟩ : ∃ a n c, vp = .slice a n c := by obtain ⟨a, c, e, _⟩ := Sl.shape hQ.p; exact ⟨_, _, _, e⟩
 obtain ⟨a3, n3, c3, hy3⟩ : ∃ a n c, vc = .slice a n c := by obtain ⟨a, c, e, _⟩ := Sl.shape hQ.c; exact ⟨_, _, _, e⟩
 obtain ⟨ra, rn, rc, rfl⟩ := hR1.shape
 subst hy1 hy2 hy3
 have hgq : Ext w1 (w1.alloc (.cells #[.slice a1 n1 c1, .slice a2 n2 c2, .slice a3 n3 c3] 28)) := World.grownBy_alloc _ _ _
 have hbQ := Box3.made w1 28 (.slice a1 n1 c1) (.slice a2 n2 c2) (.slice a3 n3 c3)
 obtain ⟨pb, hpb⟩ : ∃ pb, pb = w1.heap.size := ⟨_, rfl⟩
 rw [← hpb] at hbQ
 have hs1' := hg1.size
 have hQ2 := hQ.ext hgq
 have hR2 := hR1.kept hgq (fun k hk => by cases hk)
 have hb1 := hbB.moved hg1 (by omega)
 have hb2 := hb1.ext hgq
 have hs2 := hs1.ext hgq
 have hgw2 := grown_trans (grown_of_ext (some sb) hg0) (grown_trans hg1 (grown_of_ext (some sb) hgq))
 have hzq : w1.heap.size ≤ (w1.alloc (.cells #[.slice a1 n1 c1, .slice a2 n2 c2, .slice a3 n3 c3] 28)).heap.size := hgq.size
 have HP := Lib.hid hpb
 have HQ := Lib.hid (And.intro hQ2 (And.intro hs2 (And.intro hgw2 (And.intro hQl hR2)))); clear hQ hQ2 hs2 hs1 hg1 hbB hg0 hsW hb1 hgq hgw2 hQl hR1 hR2
 go_wp2_with fail
 rw [← HP.out]
 generalize w1.alloc (.cells #[.slice a1 n1 c1, .slice a2 n2 c2, .slice a3 n3 c3] 28) = w2 at *
 have hpw : w0.heap.size ≤ pb := by omega
 clear hpb HP
 obtain ⟨q0, q1, q2, q3, q4⟩ := id hbQ
 have e0 : ∀ w', NearS w2 sb w.heap.size w' → w'.cell? ⟨pb, 0, none⟩ = some (.slice a1 n1 c1) := fun w' h => h.cell q1 (by simp; omega) (by simp; omega)
 have e1 : ∀ w', NearS w2 sb w.heap.size w' → w'.cell? ⟨pb, 1, none⟩ = some (.slice a2 n2 c2) := fun w' h => h.cell q2 (by simp; omega) (by simp; omega)
 have e2 : ∀ w', NearS w2 sb w.heap.size w' → w'.cell? ⟨pb, 2, none⟩ = some (.slice a3 n3 c3) := fun w' h => h.cell q3 (by simp; omega) (by simp; omega)
 clear q0 q1 q2 q3 q4 hbQ
 go_region_held3 (fun w' => NearS w2 sb w.heap.size w') (first | exact NearS.ext (grown_drew _ _) | exact NearS.of (by assumption) | exact NearS.two hg3 (grown_set3 _ _ _ _ _) | assumption)
  (first
   | (go_at_call 138; refine Calls.mono (l12Draw_ok B0 w2.drew sb _ Q _ (by have := (grown_drew w2 none).size; omega) (HQ.out.2.1.ext (grown_drew _ _)) ⟨_, _, _, rfl, HQ.out.1.ext (grown_drew _ _)⟩ (fun k hk e => by have hk : w0.heap.size ≤ k := hk; omega) (by have := HQ.out.2.2.2.1; omega)) ?_; rintro e3 w3 ⟨sv, rfl, hg3a, hR, hs3⟩; have hg3 : w2.grownBy w3 (some sb) := grown_trans (grown_of_ext (some sb) (grown_drew _ _)) hg3a; obtain ⟨sa, sn, sc, rfl⟩ := hR.shape; have hb3 := hb2.moved hg3 (by omega); obtain ⟨b0, b1, b2, b3, b4⟩ := id hb3))
 have hdz := (grown_drew w2 none).size
 have hZ := hb3.all (.slice a1 n1 c1) (.slice a2 n2 c2) (.slice a3 n3 c3)
 obtain ⟨-, z0, z1, z2, -⟩ := id hZ
 have hP3 := HQ.out.1.keptB hg3 (fun k hk => by have := Option.some.inj hk; omega)
 have hR3 := HQ.out.2.2.2.2.kept hg3 (fun k hk => by have := Option.some.inj hk; omega)
 have HF := Lib.hid (And.intro (grown_trans HQ.out.2.2.1 hg3) (And.intro hR (And.intro hs3 (And.intro hP3 (And.intro HQ.out.2.2.2.1 hR3))))); clear hR hs3 hP3 HQ hg3 hg3a hb2 hb3 hZ hR3 e0 e1 e2
 go_wp2_with fail
 refine bodyPost_ret (v := .tuple #[.agg #[.slice a1 n1 c1, .slice a2 n2 c2, .slice a3 n3 c3], .slice ra rn rc, .slice sa sn sc]) (by simp [results, Tryz.results128, go_sem, z0, z1, z2]) rfl ?_
 exact trip_ret HF.out.1 (B := w0.heap.size) (by omega) HF.out.2.2.1 hB0 HF.out.2.2.2.2.1 HF.out.2.2.2.1 HF.out.2.2.2.2.2 (HF.out.2.1.low (by omega))
end Go.Proofs.YtdcobapnlpeaaaaGreat
namespace Go.Proofs.YtdcobapnlpeaaaaGreat
open Go.RowKit
attribute [local go_sem ↓] Go.wp_at_zero Go.wp_at_succ
set_option maxRecDepth 100000 in
set_option maxHeartbeats 400000 in
theorem DrawProductSize_ok (w : World) (cv : Value) (bs : List Int) (S : Nat → Prop) (hb : Bytes S w cv bs) :
  Calls Tryz.prog 73 #[cv] w (Ret w (TripA 7 w.heap.size)) := by
 obtain ⟨a, cap, rfl, _, _⟩ := Sl.shape hb
 have hbB := Box3.made w 28 (.slice none 0 0) (.slice none 0 0) (.slice none 0 0)
 have hg0 : Ext w (w.alloc (.cells #[.slice none 0 0, .slice none 0 0, .slice none 0 0] 28)) := World.grownBy_alloc _ _ _
 have hs0 : (w.alloc (.cells #[.slice none 0 0, .slice none 0 0, .slice none 0 0] 28)).heap.size = w.heap.size + 1 := by simp
 have hb0 := Bytes.ext hb hg0
 go_enter Tryz.func73, Tryz.ntmps73
 go_wp2_with fail
 generalize w.alloc (.cells #[.slice none 0 0, .slice none 0 0, .slice none 0 0] 28) = w0 at *
 have hs00 : w.heap.size + 1 ≤ w0.heap.size := by omega
 clear hs0
 refine Calls.mono (l01From_ok w0 _ bs S hb0) ?_
 rintro e1 w1 ⟨v1, rfl, hg1, rfl, hs1⟩
 have hz1 : w0.heap.size + 1 ≤ w1.heap.size := by have := hs1.lt; omega
 have hb1 := hbB.ext hg1
 clear hbB hb0
 go_wp2_with fail
 refine Calls.mono (l13Draw_ok (w0.heap.size + 1) w1 w0.heap.size (by omega) hs1) ?_
 rintro e2 w2 ⟨v2, rfl, hg2, ⟨vo, vp, vc, rv, sv, Q, rfl, hQl, hQ, hR1, hR2⟩, hs2⟩
 obtain ⟨a1, n1, c1, hy1⟩ : ∃ a n c, vo = .slice a n c := by obtain ⟨a, c, e, _⟩ := hQ.o.shape; exact ⟨_, _, _, e⟩
 obtain ⟨a2, n2, c2, hy2⟩ : ∃ a n c, vp = .slice a n c := by obtain ⟨a, c, e, _⟩ := Sl.shape hQ.p; exact ⟨_, _, _, e⟩
 obtain ⟨a3, n3, c3, hy3⟩ : ∃ a n c, vc = .slice a n c := by obtain ⟨a, c, e, _⟩ := Sl.shape hQ.c; exact ⟨_, _, _, e⟩
 obtain ⟨ra, rn, rc, rfl⟩ := hR1.shape
 obtain ⟨sa, sn, sc, rfl⟩ := hR2.shape
 subst hy1 hy2 hy3
 have hgw2 : Ext w w2 := grown_own (grown_trans hg0 hg1) hg2 (fun j hj hlt => by have := Option.some.inj hj; omega)
 have hb2 := hb1.moved hg2 (by omega)
 obtain ⟨b0, b1, b2, b3, b4⟩ := id hb2
 have hT := grown_set3 w2 w.heap.size (.slice a1 n1 c1) (.slice a2 n2 c2) (.slice a3 n3 c3)
 have hA := World.grownBy_alloc (((w2.setCell ⟨w.heap.size, 0, none⟩ (.slice a1 n1 c1)).setCell ⟨w.heap.size, 1, none⟩ (.slice a2 n2 c2)).setCell ⟨w.heap.size, 2, none⟩ (.slice a3 n3 c3)) (.cells #[.slice a1 n1 c1, .slice a2 n2 c2, .slice a3 n3 c3] 28) none
 have hZ := (hb2.all (.slice a1 n1 c1) (.slice a2 n2 c2) (.slice a3 n3 c3)).ext hA
 obtain ⟨-, z0, z1, z2, -⟩ := id hZ
 have hin : ∀ k, some w.heap.size = some k → k < w1.heap.size := fun k hk => by have := Option.some.inj hk; omega
 have hend : Ret w (TripA 7 w.heap.size) (.returned (.tuple #[.agg #[.slice a1 n1 c1, .slice a2 n2 c2, .slice a3 n3 c3], .slice ra rn rc, .slice sa sn sc])) ((((w2.setCell ⟨w.heap.size, 0, none⟩ (.slice a1 n1 c1)).setCell ⟨w.heap.size, 1, none⟩ (.slice a2 n2 c2)).setCell ⟨w.heap.size, 2, none⟩ (.slice a3 n3 c3)).alloc (.cells #[.slice a1 n1 c1, .slice a2 n2 c2, .slice a3 n3 c3] 28)) :=
  ⟨_, rfl, grown_trans (grown_own hgw2 hT (fun j hj hlt => by have := Option.some.inj hj; omega)) hA, _, _, _, _, _, Q, rfl, hQl, ((hQ.keptB hT hin).ext hA).low (by omega), ((hR1.kept hT hin).kept hA (fun k hk => by cases hk)).low (by omega), ((hR2.kept hT hin).kept hA (fun k hk => by cases hk)).low (by omega)⟩
 have HE := Lib.hid hend; clear hend hT hA hZ hb2 hb1 hQ hR1 hR2 hgw2 hg1 hg2 hg0 hs1 hs2 hin
 go_wp2_with fail
 refine bodyPost_ret (v := .tuple #[.agg #[.slice a1 n1 c1, .slice a2 n2 c2, .slice a3 n3 c3], .slice ra rn rc, .slice sa sn sc]) (by simp [results, Tryz.results73, go_sem, z0, z1, z2]) rfl ?_
 exact HE.out
end Go.Proofs.YtdcobapnlpeaaaaGreat
